/- Part 5 of the proof of the row of the text YtclfngbealdbgaaGreatZRowPutTyped: texts joined. No conditions. -/
import Derived.ProofKit
import Derived.RowKit
import Derived.ChangeArms
import Derived.Test.YtclfngbealdbgaaGreatZdRowPutTyped
set_option linter.unusedSimpArgs false
set_option linter.unusedVariables false
set_option linter.unusedSectionVars false
namespace Go.Proofs.YtclfngbealdbgaaGreat
open Go Go.TL
set_option linter.unusedSimpArgs false
set_option linter.unusedVariables false
set_option maxRecDepth 20000
set_option maxHeartbeats 4000000
def I64 (n : Int) : Prop := -9223372036854775808 ≤ n ∧ n ≤ 9223372036854775807
def QW (a lo hi : Int) : Bool := leB lo a && leB a hi
theorem QV {a lo hi : Int} : QW a lo hi = true ↔ lo ≤ a ∧ a ≤ hi := by simp [QW, leB]
theorem ZfK {a lo hi : Int} : QW a lo hi = false ↔ ¬ (lo ≤ a ∧ a ≤ hi) := by rw [← QV]; simp
theorem Zbt {a b : Int} : ltB a b = !leB b a := by
 cases h : leB b a <;> simp [Qi, Qg, Ql, Qk, Qe, Qc, Bool.not_true, Bool.not_false, Ql, Qk] at h ⊢ <;> omega
abbrev OU (u nl : Bool) (l : List Int) : LV := .sl u nl 1 (l.map fun n => [N n])
abbrev L (nl : Bool) (l : List Int) : LV := OU false nl l
abbrev OB (u nl : Bool) (l : List Bool) : LV := .sl u nl 1 (l.map fun b => [B b])
abbrev LB (nl : Bool) (l : List Bool) : LV := OB false nl l
theorem Zf6 {α : Type} (e : α → LV) (he : ∀ a, share (e a) = e a) (l : List α) (u nl : Bool) (i : Int) (h0 : 0 ≤ i) (h1 : i < l.length) : QQ 1 (.sl u nl 1 (l.map fun a => [e a])) i = some (.rp [e (l[i.toNat]'(by omega))]) := by
 simp only [QQ]
 rw [if_pos ⟨trivial, h0, by simpa using h1⟩]
 have : (l.map fun a => [e a]).getD i.toNat [] = [e (l[i.toNat]'(by omega))] := by
  simp [List.getD_eq_getElem?_getD, show i.toNat < l.length by omega]
 rw [this]
 simp [he]
theorem Xh (l : List Int) (u nl : Bool) (i : Int) (h0 : 0 ≤ i) (h1 : i < l.length) : QQ 1 (OU u nl l) i = some (.rp [N (l.getD i.toNat 0)]) := by
 have := Zf6 N (by simp) l u nl i h0 h1
 rw [this, List.getD_eq_getElem?_getD, List.getElem?_eq_getElem (show i.toNat < l.length by omega)]
 rfl
theorem idx_LB (l : List Bool) (u nl : Bool) (i : Int) (h0 : 0 ≤ i) (h1 : i < l.length) : QQ 1 (OB u nl l) i = some (.rp [B (l.getD i.toNat false)]) := by
 have := Zf6 B (by simp) l u nl i h0 h1
 rw [this, List.getD_eq_getElem?_getD, List.getElem?_eq_getElem (show i.toNat < l.length by omega)]
 rfl
def Lok (l : List Int) : Prop := l.length ≤ 1099511627776 ∧ ∀ n ∈ l, I64 n
theorem Lok.at {l : List Int} (h : Lok l) {i : Nat} (hi : i < l.length) : I64 l[i] := h.2 _ (List.getElem_mem _)
structure GSys where
 size : Int
 n1 : Bool
 plus : List Int
 n2 : Bool
 times : List Int
 n3 : Bool
 below : List Bool
abbrev GSys.cells (s : GSys) : List LV := [N s.size, L s.n1 s.plus, L s.n2 s.times, LB s.n3 s.below]
abbrev GSys.lv (s : GSys) : LV := .agg s.cells
def GSys.wf (s : GSys) : Prop := I64 s.size ∧ s.plus.length ≤ 1099511627776 ∧ s.times.length ≤ 1099511627776 ∧ s.below.length ≤ 1099511627776 ∧ (∀ n ∈ s.plus, I64 n) ∧ ∀ n ∈ s.times, I64 n
def GSys.pl (s : GSys) (a b : Int) : Int := s.plus.getD (a * s.size + b).toNat 0
def GSys.tm (s : GSys) (a b : Int) : Int := s.times.getD (a * s.size + b).toNat 0
def GSys.le (s : GSys) (a b : Int) : Bool := s.below.getD (a * s.size + b).toNat false
structure GSys.Tab (s : GSys) : Prop where
 lo : 2 ≤ s.size
 hi : s.size ≤ 16
 lp : (s.plus.length : Int) = s.size * s.size
 lt : (s.times.length : Int) = s.size * s.size
 lb : (s.below.length : Int) = s.size * s.size
 rp : ∀ i, 0 ≤ s.plus.getD i 0 ∧ s.plus.getD i 0 < s.size
 rt : ∀ i, 0 ≤ s.times.getD i 0 ∧ s.times.getD i 0 < s.size
def GSys.G (s : GSys) (a : Int) : Prop := 0 ≤ a ∧ a < s.size
theorem GSys.at {s : GSys} (t : s.Tab) {a b : Int} (ha : s.G a) (hb : s.G b) : 0 ≤ a * s.size + b ∧ a * s.size + b < s.size * s.size ∧ 0 ≤ a * s.size ∧ a * s.size ≤ 256 := by
 have h1 : 0 ≤ a * s.size := Int.mul_nonneg ha.1 (by have := t.lo; omega)
 have h2 : (a + 1) * s.size ≤ s.size * s.size := Int.mul_le_mul_of_nonneg_right (by have := ha.2; omega) (by have := t.lo; omega)
 have h3 : (a + 1) * s.size = a * s.size + s.size := by rw [Int.add_mul]; omega
 have h4 : s.size * s.size ≤ 16 * 16 := Int.mul_le_mul t.hi t.hi (by have := t.lo; omega) (by omega)
 have := hb.1; have := hb.2
 refine ⟨by omega, by omega, h1, ?_⟩
 omega
theorem GSys.Gpl {s : GSys} (t : s.Tab) (a b : Int) : s.G (s.pl a b) := t.rp _
theorem GSys.Gtm {s : GSys} (t : s.Tab) (a b : Int) : s.G (s.tm a b) := t.rt _
theorem GSys.Glt {s : GSys} {i : Nat} (h : ltB (i : Int) s.size = true) : s.G i := ⟨by omega, by rw [Qi] at h; omega⟩
theorem GSys.G0 {s : GSys} (t : s.Tab) : s.G 0 := ⟨by omega, by have := t.lo; omega⟩
theorem GSys.G1 {s : GSys} (t : s.Tab) : s.G 1 := ⟨by omega, by have := t.lo; omega⟩
section
attribute [local simp low] Xb
attribute [local simp] Zer Zeh ZeA ZeK Zen ZeJ
section
variable {s : GSys} (t : s.Tab) {a b : Int} (ha : s.G a) (hb : s.G b)
include t ha hb
theorem ZaT : Qd Tryz.prog Wl [s.lv, N a, N b] (· = N (s.pl a b)) := by
 refine Qd.of_codeOf ZlR Qz (by simp) ⟨_, rfl, by simp⟩ ?_
 obtain ⟨h1, h2, h3, h4⟩ := GSys.at t ha hb
 have := t.lo; have := t.hi; have := ha.1; have := ha.2; have := hb.1; have := hb.2
 simp (contextual := true) (disch := omega) [Zfs, Qv, Qt, Qf]
 have := t.lp
 simp (contextual := true) (disch := omega) [Xh, GSys.pl]
theorem ZaJ : Qd Tryz.prog QP [s.lv, N a, N b] (· = N (s.tm a b)) := by
 refine Qd.of_codeOf Zlv Qz (by simp) ⟨_, rfl, by simp⟩ ?_
 obtain ⟨h1, h2, h3, h4⟩ := GSys.at t ha hb
 have := t.lo; have := t.hi; have := ha.1; have := ha.2; have := hb.1; have := hb.2
 simp (contextual := true) (disch := omega) [ZfB, Qv, Qt, Qf]
 have := t.lt
 simp (contextual := true) (disch := omega) [Xh, GSys.tm]
theorem XZ : Qd Tryz.prog QZ [s.lv, N a, N b] (· = B (s.le a b)) := by
 refine Qd.of_codeOf Znd Qz (by simp) ⟨_, rfl, by simp⟩ ?_
 obtain ⟨h1, h2, h3, h4⟩ := GSys.at t ha hb
 have := t.lo; have := t.hi; have := ha.1; have := ha.2; have := hb.1; have := hb.2
 simp (contextual := true) (disch := omega) [ZgW, Qv, Qt, Qf]
 have := t.lb
 simp (contextual := true) (disch := omega) [idx_LB, GSys.le]
theorem Zdf : Qd Tryz.prog QC [s.lv, N a, N b] (· = N (s.pl a b)) := by
 refine Qd.of_codeOf Zco Qz (by simp) ⟨_, rfl, by simp⟩ ?_
 obtain ⟨h1, h2, h3, h4⟩ := GSys.at t ha hb
 have := t.lo; have := t.hi; have := ha.1; have := ha.2; have := hb.1; have := hb.2
 simp (contextual := true) (disch := omega) [KQ, Qv, Qt, Qf]
 have := t.lp
 simp (contextual := true) (disch := omega) [Xh, GSys.pl]
theorem Zca : Qd Tryz.prog Qy [s.lv, N a, N b] (· = N (s.tm a b)) := by
 refine Qd.of_codeOf ZbT Qz (by simp) ⟨_, rfl, by simp⟩ ?_
 obtain ⟨h1, h2, h3, h4⟩ := GSys.at t ha hb
 have := t.lo; have := t.hi; have := ha.1; have := ha.2; have := hb.1; have := hb.2
 simp (contextual := true) (disch := omega) [J1, Qv, Qt, Qf]
 have := t.lt
 simp (contextual := true) (disch := omega) [Xh, GSys.tm]
theorem JU : Qd Tryz.prog QA [s.lv, N a, N b] (· = B (s.le a b)) := by
 refine Qd.of_codeOf ZbY Qz (by simp) ⟨_, rfl, by simp⟩ ?_
 obtain ⟨h1, h2, h3, h4⟩ := GSys.at t ha hb
 have := t.lo; have := t.hi; have := ha.1; have := ha.2; have := hb.1; have := hb.2
 simp (contextual := true) (disch := omega) [J5, Qv, Qt, Qf]
 have := t.lb
 simp (contextual := true) (disch := omega) [idx_LB, GSys.le]
end
theorem ZfF (a lo hi : Int) : Qd Tryz.prog Xd [N a, N lo, N hi] (· = B (QW a lo hi)) := by
 refine Qd.of_codeOf Znm Qz (by simp) ⟨_, rfl, by simp⟩ ?_
 simp (contextual := true) (disch := omega) [ZgT, QW]
theorem ZI (a lo hi : Int) : Qd Tryz.prog WM [N a, N lo, N hi] (· = B (QW a lo hi)) := by
 refine Qd.of_codeOf Zkz Qz (by simp) ⟨_, rfl, by simp⟩ ?_
 simp (contextual := true) (disch := omega) [ZdK, QW]
theorem ZiN (s : GSys) (h : I64 s.size) (h2 : -9223372036854775808 < s.size) (g : Int) : Qd Tryz.prog We [s.lv, N g] (· = B (QW g 0 (s.size - 1))) := by
 refine Qd.of_codeOf Zdu Qz (by simp) ⟨_, rfl, by simp⟩ ?_
 obtain ⟨h1, h2⟩ := h
 simp (contextual := true) (disch := omega) [Vd, Qv, Qt, Qf]
 refine Qa (ZI _ _ _) (by simp) ?_
 simp (contextual := true) (disch := omega)
end
def Yc (p : Int → Bool) : Nat → Nat → Int
 | _, 0 => -1
 | g, n + 1 => if p g = true then g else Yc p (g + 1) n
def YW (p : Nat → Bool) : Nat → Bool
 | 0 => true
 | n + 1 => YW p n && p n
@[simp] theorem allN_zero (p : Nat → Bool) : YW p 0 = true := rfl
theorem WC (p : Nat → Bool) (n : Nat) : YW p (n + 1) = (YW p n && p n) := rfl
theorem Yr {p : Nat → Bool} : ∀ {n : Nat}, YW p n = true ↔ ∀ i, i < n → p i = true
  | 0 => by simp
  | n + 1 => by
    rw [WC, Bool.and_eq_true, Yr]
    exact ⟨fun h i hi => by by_cases he : i = n; · exact he ▸ h.2
                            · exact h.1 i (by omega), fun h => ⟨fun i hi => h i (by omega), h n (by omega)⟩⟩
theorem Zia {p : Nat → Bool} {i n : Nat} (h : i ≤ n) (hf : YW p i = false) : YW p n = false := by
 cases hc : YW p n with
 | false => rfl
 | true =>
  rw [Yr] at hc
  rw [Yr.2 fun j hj => hc j (by omega)] at hf
  simp at hf
theorem XD {p : Nat → Bool} {i n : Nat} (h : i < n) (hf : p i = false) : YW p n = false :=
 Zia (i := i + 1) h (by rw [WC, hf]; simp)
def GSys.jn (s : GSys) (a b g h : Int) : Bool := !s.le a h || !s.le b h || s.le g h
def GSys.isJoin (s : GSys) (a b g : Int) : Bool := s.le a g && s.le b g && YW (fun h => s.jn a b g h) s.size.toNat
def GSys.join (s : GSys) (a b : Int) : Int := Yc (s.isJoin a b) 0 s.size.toNat
def GSys.three (s : GSys) (a b c : Int) : Bool :=
 eqB (s.pl (s.pl a b) c) (s.pl a (s.pl b c)) && eqB (s.tm (s.tm a b) c) (s.tm a (s.tm b c)) && eqB (s.tm a (s.pl b c)) (s.pl (s.tm a b) (s.tm a c)) && eqB (s.tm (s.pl a b) c) (s.pl (s.tm a c) (s.tm b c)) &&
  (!s.le a b || ((!s.le b c || s.le a c) && s.le (s.pl a c) (s.pl b c) && s.le (s.tm a c) (s.tm b c) && s.le (s.tm c a) (s.tm c b)))
section
variable {s : GSys} (t : s.Tab) {a b c : Int} (ha : s.G a) (hb : s.G b) (hc : s.G c)
include t ha hb hc
theorem Zpb : Qd Tryz.prog VN [s.lv, N a, N b, N c] (· = B (s.three a b c)) := by
 refine Qd.of_codeOf Zik Qz (by simp) ⟨_, rfl, by simp⟩ ?_
 simp (disch := omega) [Zdb, Qv, Qt]
 repeat' (first
  | with_reducible refine Qa (ZaT t (by first | assumption | exact GSys.Gpl t _ _ | exact GSys.Gtm t _ _ | exact GSys.Glt (by assumption) | exact GSys.G0 t | exact GSys.G1 t) (by first | assumption | exact GSys.Gpl t _ _ | exact GSys.Gtm t _ _ | exact GSys.Glt (by assumption) | exact GSys.G0 t | exact GSys.G1 t)) (by simp) ?_
  | with_reducible refine Qa (ZaJ t (by first | assumption | exact GSys.Gpl t _ _ | exact GSys.Gtm t _ _ | exact GSys.Glt (by assumption) | exact GSys.G0 t | exact GSys.G1 t) (by first | assumption | exact GSys.Gpl t _ _ | exact GSys.Gtm t _ _ | exact GSys.Glt (by assumption) | exact GSys.G0 t | exact GSys.G1 t)) (by simp) ?_
  | with_reducible refine Qa (XZ t (by first | assumption | exact GSys.Gpl t _ _ | exact GSys.Gtm t _ _ | exact GSys.Glt (by assumption) | exact GSys.G0 t | exact GSys.G1 t) (by first | assumption | exact GSys.Gpl t _ _ | exact GSys.Gtm t _ _ | exact GSys.Glt (by assumption) | exact GSys.G0 t | exact GSys.G1 t)) (by simp) ?_
  | (with_reducible (first | refine Qo (fun hb_ => ?_) (fun hb_ => ?_) | refine Qn (fun hb_ => ?_) (fun hb_ => ?_)) <;> simp (disch := omega) [hb_])
  | simp (disch := omega))
 all_goals simp_all [GSys.three]
theorem ZqE : Qd Tryz.prog Y0 [s.lv, N a, N b, N c] (· = B (s.three a b c)) := by
 refine Qd.of_codeOf Zbh Qz (by simp) ⟨_, rfl, by simp⟩ ?_
 simp (disch := omega) [JM, Qv, Qt]
 repeat' (first
  | with_reducible refine Qa (Zdf t (by first | assumption | exact GSys.Gpl t _ _ | exact GSys.Gtm t _ _ | exact GSys.Glt (by assumption) | exact GSys.G0 t | exact GSys.G1 t) (by first | assumption | exact GSys.Gpl t _ _ | exact GSys.Gtm t _ _ | exact GSys.Glt (by assumption) | exact GSys.G0 t | exact GSys.G1 t)) (by simp) ?_
  | with_reducible refine Qa (Zca t (by first | assumption | exact GSys.Gpl t _ _ | exact GSys.Gtm t _ _ | exact GSys.Glt (by assumption) | exact GSys.G0 t | exact GSys.G1 t) (by first | assumption | exact GSys.Gpl t _ _ | exact GSys.Gtm t _ _ | exact GSys.Glt (by assumption) | exact GSys.G0 t | exact GSys.G1 t)) (by simp) ?_
  | with_reducible refine Qa (JU t (by first | assumption | exact GSys.Gpl t _ _ | exact GSys.Gtm t _ _ | exact GSys.Glt (by assumption) | exact GSys.G0 t | exact GSys.G1 t) (by first | assumption | exact GSys.Gpl t _ _ | exact GSys.Gtm t _ _ | exact GSys.Glt (by assumption) | exact GSys.G0 t | exact GSys.G1 t)) (by simp) ?_
  | (with_reducible (first | refine Qo (fun hb_ => ?_) (fun hb_ => ?_) | refine Qn (fun hb_ => ?_) (fun hb_ => ?_)) <;> simp (disch := omega) [hb_])
  | simp (disch := omega))
 all_goals simp_all [GSys.three]
end
end Go.Proofs.YtclfngbealdbgaaGreat
namespace Go.Proofs.YtclfngbealdbgaaGreat
open Go Go.TL
set_option linter.unusedSimpArgs false
set_option linter.unusedVariables false
set_option maxRecDepth 20000
set_option maxHeartbeats 4000000
def ZF (sz : Nat) (left : Int) : Int := if (sz : Int) ≤ left then left - sz else -1
def fill {α : Type} (e : α → List LV) (z : List LV) (l : List α) (i : Nat) : List LV := ((l.take i).map e).flatten ++ (List.replicate (l.length - i) z).flatten
section
variable {α : Type} {e : α → List LV} {z : List LV} {l : List α} {sz : Nat} (he : ∀ x, (e x).length = sz) (hz : z.length = sz)
include he
theorem Zor (k : List α) : ((k.map e).flatten).length = k.length * sz := by
 induction k with
 | nil => simp
 | cons x k ih => simp [ih, he, Nat.add_mul, Nat.add_comm]
include hz
theorem Zm6 {i : Nat} (h : i ≤ l.length) : (fill e z l i).length = l.length * sz := by
 simp only [fill, List.length_append, Zor he, List.length_take, Nat.min_eq_left h]
 rw [List.length_flatten]
 simp only [List.map_replicate, hz, List.sum_replicate_nat]
 rw [← Nat.add_mul]; congr 1; omega
theorem ZkV {i : Nat} (h : i < l.length) : splice (fill e z l i) (i * sz) (e l[i]) = fill e z l (i + 1) := by
 have h1 : (((l.take i).map e).flatten).length = i * sz := by rw [Zor he]; simp [Nat.min_eq_left (Nat.le_of_lt h)]
 have h2 : l.length - i = (l.length - (i + 1)) + 1 := by omega
 unfold splice
 rw [fill, h2, List.replicate_succ, List.flatten_cons, fill, List.take_append_of_le_length (by omega), List.take_of_length_le (by omega), List.take_succ_eq_append_getElem h, List.map_append, List.flatten_append]
 simp only [List.map_cons, List.map_nil, List.flatten_cons, List.flatten_nil, List.append_nil]
 congr 1
 rw [List.drop_append, List.drop_of_length_le (by omega), he, h1, List.nil_append, List.drop_append, List.drop_of_length_le (by omega)]
 simp [hz]
end
theorem fill_end {α : Type} {e : α → List LV} {z : List LV} {l : List α} : fill e z l l.length = (l.map e).flatten := by simp [fill]
theorem ZkD {α : Type} {e : α → List LV} {z : List LV} {l : List α} : fill e z l 0 = (List.replicate l.length z).flatten := by simp [fill]
abbrev Wx := List (Bool × List Int)
abbrev eC (c : Bool × List Int) : LV := L c.1 c.2
abbrev LC (nl : Bool) (ctx : Wx) : LV := .sl false nl 1 (ctx.map fun c => [eC c])
theorem ZbN (ctx : Wx) (nl : Bool) (i : Nat) (h : i < ctx.length) : QQ 1 (LC nl ctx) (i : Int) = some (.rp [eC (ctx[i]'h)]) := by
 have := Zf6 eC (by simp) ctx false nl i (by omega) (by omega)
 rw [this]
 simp
def Wx.raw (ctx : Wx) : Prop := ctx.length ≤ 9223372036854775807 ∧ ∀ c ∈ ctx, c.2.length ≤ 9223372036854775807 ∧ ∀ n ∈ c.2, I64 n
def Wx.wf (ctx : Wx) : Prop := ctx.length ≤ 1099511627776 ∧ ∀ c ∈ ctx, Lok c.2
def Wx.norm (ctx : Wx) : Wx := ctx.map fun c => (false, c.2)
abbrev Wx.own (ctx : Wx) : LV := .sl true false 1 (ctx.map fun c => [OU true false c.2])
theorem share_own (ctx : Wx) : share ctx.own = LC false ctx.norm := by
 simp [Wx.own, Wx.norm]
theorem low_own (k : Nat) (ctx : Wx) : Low k ctx.own := by simp [Wx.own]
def cws : Wx → Nat
 | [] => 0
 | c :: cs => c.2.length + cws cs
theorem Zp6 : ∀ {ctx : Wx} {c : Bool × List Int}, c ∈ ctx → c.2.length ≤ cws ctx
 | d :: ctx, c, h => by
  simp only [List.mem_cons] at h
  simp only [cws]
  rcases h with rfl | h
  ·omega
  ·have := Zp6 h; omega
def sameC : Wx → Wx → Bool
 | [], [] => true
 | a :: a', b :: b' => (a.2 == b.2) && sameC a' b'
 | _, _ => false
end Go.Proofs.YtclfngbealdbgaaGreat
namespace Go.Proofs.YtclfngbealdbgaaGreat.Ty
def QM (c : Int) : Bool := (decide (3 ≤ c) && decide (c ≤ 18)) || c == 35
def W4 (c : Int) : Bool := (decide (19 ≤ c) && decide (c ≤ 34)) || c == 36
def Wv (c : Int) : Option Nat :=
 if c = 0 then some 0 else if c = 1 ∨ c = 2 ∨ QM c = true then some 2 else if W4 c = true then some 1 else none
def skip : Nat → List Int → Option (List Int)
 | 0, l => some l
 | _ + 1, [] => none
 | n + 1, c :: l => match Wv c with
  | none => none
  | some k => skip (n + k) l
def KI (n : Nat) (l : List Int) (len : Nat) : Int := match skip n l with
 | some r => (len : Int) - r.length
 | none => -1
def wty (l : List Int) : Bool := decide (1 ≤ l.length) && decide (l.length ≤ 40) && (skip 1 l == some [])
theorem Zon {c : Int} {k : Nat} (h : Wv c = some k) : k ≤ 2 := by
 unfold Wv at h
 split at h
 ·simp at h; omega
 ·split at h
  ·simp at h; omega
  ·split at h
   ·simp at h; omega
   ·simp at h
theorem ZhZ (b : Nat) : ∀ (l : List Int) (a : Nat), skip (a + b) l = (skip a l).bind (skip b)
 | [], 0 => by simp [skip]
 | [], a + 1 => by rw [show a + 1 + b = (a + b) + 1 by omega]; simp [skip]
 | c :: l, 0 => by simp [skip]
 | c :: l, a + 1 => by
  rw [show a + 1 + b = (a + b) + 1 by omega]
  simp only [skip]
  cases h : Wv c with
  | none => simp
  | some k =>
   simp only
   rw [show a + b + k = (a + k) + b by omega]
   exact ZhZ b l (a + k)
theorem ZfR : ∀ (l : List Int) (n : Nat) (r : List Int), skip n l = some r → ∃ m, r = l.drop m ∧ n ≤ m ∧ m ≤ l.length
 | l, 0, r, h => ⟨0, by simp [skip] at h; simp [h], by omega, by omega⟩
 | [], n + 1, r, h => by simp [skip] at h
 | c :: l, n + 1, r, h => by
  simp only [skip] at h
  cases hk : Wv c with
  | none => simp [hk] at h
  | some k =>
   simp only [hk] at h
   obtain ⟨m, hm, h1, h2⟩ := ZfR l (n + k) r h
   exact ⟨m + 1, by simpa using hm, by omega, by simp; omega⟩
theorem Zgx {l r : List Int} {n : Nat} (h : skip n l = some r) : r.length + n ≤ l.length := by
 obtain ⟨m, rfl, h1, h2⟩ := ZfR l n r h
 simp; omega
end Go.Proofs.YtclfngbealdbgaaGreat.Ty
namespace Go.Proofs.YtclfngbealdbgaaGreat
open Go Go.TL
open Go.Proofs.YtclfngbealdbgaaGreat.Ty
set_option linter.unusedSimpArgs false
set_option linter.unusedVariables false
set_option maxRecDepth 20000
set_option maxHeartbeats 4000000
def QF (k : Int) : Int × Int :=
 if QW k 0 2 = true then (k, -1) else if QW k 3 18 = true then (3, k - 3) else if QW k 19 34 = true then (4, k - 19)
 else if eqB k 35 = true then (3, -1) else if eqB k 36 = true then (4, -1) else (5, -1)
theorem Zaw (k : Int) (h : I64 k) : Qd Tryz.prog YZ [N k] (· = .tup [N (QF k).1, N (QF k).2]) := by
 obtain ⟨ha, hb⟩ := h
 refine Qd.of_codeOf Zlh Qz (by simp) ⟨_, rfl, by simp⟩ ?_
 simp (disch := omega) [Ze1]
 repeat' (first
  | with_reducible refine Qa (ZI _ _ _) (by simp) ?_
  | (with_reducible (first | refine Qo (fun hb_ => ?_) (fun hb_ => ?_) | refine Qn (fun hb_ => ?_) (fun hb_ => ?_)) <;> simp (disch := omega) [hb_])
  | simp (disch := omega))
 all_goals unfold QF
 ·simp_all
 ·rename_i h0
  rw [QV] at hb_
  rw [if_neg (by simp_all), if_pos (by rw [QV]; exact hb_)]
  simp (disch := omega) [Qf]
 ·rename_i h0 h1
  rw [QV] at hb_
  rw [if_neg (by simp_all), if_neg (by simp_all), if_pos (by rw [QV]; exact hb_)]
  simp (disch := omega) [Qf]
 all_goals simp_all
def Zw (l : List Int) (i : Int) : Int := if 0 ≤ i then KI 1 (l.drop i.toNat) l.length else -1
theorem Zn8 {l : List Int} {i : Int} (h : i < 0 ∨ l.length ≤ i) : Zw l i = -1 := by
 unfold Zw
 split
 ·rw [List.drop_eq_nil_of_le (by omega)]; simp [KI, Ty.skip]
 ·rfl
theorem ZoY {l : List Int} {i : Int} (h : 0 ≤ i) : Zw l i = -1 ∨ (i < Zw l i ∧ Zw l i ≤ l.length) := by
 unfold Zw KI
 rw [if_pos h]
 cases hs : Ty.skip 1 (l.drop i.toNat) with
 | none => exact .inl rfl
 | some r =>
  have := Zgx hs
  simp only [List.length_drop] at this ⊢
  right; omega
theorem kidsN' (c : Int) : Wv c = if c = 0 then some 0 else if (1 ≤ c ∧ c ≤ 18) ∨ c = 35 then some 2 else if (19 ≤ c ∧ c ≤ 34) ∨ c = 36 then some 1 else none := by
 have e1 : (c = 1 ∨ c = 2 ∨ QM c = true) ↔ ((1 ≤ c ∧ c ≤ 18) ∨ c = 35) := by simp [QM]; omega
 have e2 : (W4 c = true) ↔ ((19 ≤ c ∧ c ≤ 34) ∨ c = 36) := by simp [W4]
 unfold Wv
 simp only [e1, e2]
theorem Zpl (c : Int) : ((QF c).1 = 0 ∧ Wv c = some 0) ∨ ((QF c).1 = 4 ∧ Wv c = some 1) ∨ ((QF c).1 = 5 ∧ Wv c = none) ∨ ((QF c).1 ≠ 0 ∧ (QF c).1 ≠ 4 ∧ (QF c).1 ≠ 5 ∧ Wv c = some 2) := by
 rw [kidsN']
 unfold QF
 simp only [QV, Qe]
 by_cases h0 : 0 ≤ c ∧ c ≤ 2
 ·rw [if_pos h0]
  by_cases h : c = 0
  ·simp [h]
  ·rw [if_neg h, if_pos (by omega)]; simp; omega
 rw [if_neg h0, if_neg (show ¬ c = 0 by omega)]
 by_cases h1 : 3 ≤ c ∧ c ≤ 18
 ·rw [if_pos h1, if_pos (by omega)]; simp
 rw [if_neg h1]
 by_cases h2 : 19 ≤ c ∧ c ≤ 34
 ·rw [if_pos h2, if_neg (by omega), if_pos (by omega)]; simp
 rw [if_neg h2]
 by_cases h3 : c = 35
 ·simp [h3]
 rw [if_neg h3]
 by_cases h4 : c = 36
 ·simp [h4]
 rw [if_neg h4, if_neg (by omega), if_neg (by omega)]
 simp
theorem tEnd_in {l : List Int} {i : Int} (h0 : 0 ≤ i) (h1 : i < l.length) (c : Int) (hc : c = l[i.toNat]'(by omega)) :
  ((QF c).1 = 0 → Zw l i = i + 1) ∧ ((QF c).1 = 4 → Zw l i = Zw l (i + 1)) ∧ ((QF c).1 = 5 → Zw l i = -1) ∧
  ((QF c).1 ≠ 0 → (QF c).1 ≠ 4 → (QF c).1 ≠ 5 → Zw l i = Zw l (Zw l (i + 1))) := by
 have hd : l.drop i.toNat = c :: l.drop (i.toNat + 1) := by rw [hc]; exact List.drop_eq_getElem_cons (by omega)
 have e1 : (i + 1).toNat = i.toNat + 1 := by omega
 have key : Zw l i = match Wv c with
   | none => -1
   | some k => KI (0 + k) (l.drop (i.toNat + 1)) l.length := by
  unfold Zw KI
  rw [if_pos h0, hd]
  simp only [Ty.skip]
  cases Wv c <;> rfl
 rcases Zpl c with ⟨a, b⟩ | ⟨a, b⟩ | ⟨a, b⟩ | ⟨a1, a2, a3, b⟩
 ·rw [b] at key
  refine ⟨fun _ => ?_, fun h => by omega, fun h => by omega, fun h => absurd a h⟩
  rw [key]; simp [KI, Ty.skip]; omega
 ·rw [b] at key
  refine ⟨fun h => by omega, fun _ => ?_, fun h => by omega, fun _ h => absurd a h⟩
  rw [key]; unfold Zw; rw [if_pos (by omega), e1]
 ·rw [b] at key
  exact ⟨fun h => by omega, fun h => by omega, fun _ => key, fun _ _ h => absurd a h⟩
 ·rw [b] at key
  refine ⟨fun h => absurd h a1, fun h => absurd h a2, fun h => absurd h a3, fun _ _ _ => ?_⟩
  rw [key]
  show KI (1 + 1) _ _ = _
  unfold Zw
  rw [if_pos (show 0 ≤ i + 1 by omega), e1]
  unfold KI
  rw [ZhZ]
  cases hs : Ty.skip 1 (l.drop (i.toNat + 1)) with
  | none => simp
  | some r =>
   obtain ⟨m, hm, h2, h3⟩ := ZfR _ _ _ hs
   have hr : r.length ≤ l.length := by rw [hm]; simp
   simp only [Option.bind_some]
   rw [if_pos (by omega)]
   have : l.drop ((l.length : Int) - r.length).toNat = r := by
    rw [hm, List.drop_drop]
    simp only [List.length_drop] at h3 ⊢
    congr 1; omega
   rw [this]
def meas (l : List Int) (i : Int) : Nat := if i < 0 then 0 else (l.length + 1 - i).toNat
theorem Zh5 (nl : Bool) (l : List Int) (hl : Lok l) (i : Int) (hi : I64 i) : Qd Tryz.prog W8 [L nl l, N i] (· = N (Zw l i)) := by
 have hlen := hl.1
 generalize hd : meas l i = d
 induction d using Nat.strongRecOn generalizing i with
 | _ d ih =>
  obtain ⟨ha, hb⟩ := hi
  refine Qd.of_codeOf ZhU Qz (by simp) ⟨_, rfl, by simp⟩ ?_
  simp (disch := omega) [Zcb, Qf]
  (with_reducible first | refine Qo (fun h1 => ?_) (fun h1 => ?_) | refine Qn (fun h1 => ?_) (fun h1 => ?_))
  ·simp (disch := omega) [h1]
   simp only [Qi, Qg, Ql, Qk, Qe, Qc, Bool.not_true, Bool.not_false] at h1
   exact (Zn8 (.inl h1)).symm
  simp (disch := omega) [h1]
  (with_reducible first | refine Qo (fun h2 => ?_) (fun h2 => ?_) | refine Qn (fun h2 => ?_) (fun h2 => ?_))
  ·simp (disch := omega) [h2]
   simp only [Qi, Qg, Ql, Qk, Qe, Qc, Bool.not_true, Bool.not_false] at h2
   exact (Zn8 (.inr h2)).symm
  simp only [Qi, Qg, Ql, Qk, Qe, Qc, Bool.not_true, Bool.not_false] at h1 h2
  simp (disch := omega) [Xh]
  have hci : I64 (l[i.toNat]'(by omega)) := hl.2 _ (List.getElem_mem _)
  generalize hc : l[i.toNat]'(by omega) = c at *
  obtain ⟨g0, g4, g5, g2⟩ := tEnd_in h1 h2 c hc.symm
  have i1 : Qd Tryz.prog W8 [L nl l, N (i + 1)] (· = N (Zw l (i + 1))) := ih _ (by rw [← hd]; unfold meas; rw [if_neg (by omega), if_neg (by omega)]; omega) (i + 1) ⟨by omega, by omega⟩ rfl
  have hr := ZoY (l := l) (i := i + 1) (by omega)
  have i2 : Qd Tryz.prog W8 [L nl l, N (Zw l (i + 1))] (· = N (Zw l (Zw l (i + 1)))) := ih _ (by rw [← hd]; unfold meas; split <;> (rw [if_neg (by omega)]; omega)) _ ⟨by omega, by omega⟩ rfl
  repeat' (first
  | with_reducible refine Qa (Zaw _ hci) (by simp) ?_
  | with_reducible refine Qa (i1) (by simp) ?_
  | with_reducible refine Qa (i2) (by simp) ?_
  | (with_reducible (first | refine Qo (fun hb_ => ?_) (fun hb_ => ?_) | refine Qn (fun hb_ => ?_) (fun hb_ => ?_)) <;> simp (disch := omega) [hb_, Qf])
  | simp (disch := omega) [Qf])
  all_goals simp only [Qi, Qg, Ql, Qk, Qe, Qc, Bool.not_true, Bool.not_false] at *
  ·exact (g0 (by omega)).symm
  ·exact (g4 (by omega)).symm
  ·exact (g5 (by omega)).symm
  ·exact (g2 (by omega) (by omega) (by omega)).symm
theorem ZlT (l : List Int) : wty l = (QW l.length 1 40 && eqB (Zw l 0) l.length) := by
 have : (Ty.skip 1 l == some []) = eqB (Zw l 0) l.length := by
  unfold Zw KI eqB
  simp only [Int.le_refl, if_true, Int.toNat_zero, List.drop_zero]
  cases h : Ty.skip 1 l with
  | none => simp
  | some r =>
   have := Zgx h
   cases r with
   | nil => simp
   | cons a r => simp; omega
 rw [← this, wty]
 congr 1
 rw [Bool.eq_iff_iff]; simp [QW, leB]; omega
theorem ZaE (nl : Bool) (l : List Int) (hl : Lok l) : Qd Tryz.prog WU [L nl l] (· = B (wty l)) := by
 refine Qd.of_codeOf ZcL Qz (by simp) ⟨_, rfl, by simp⟩ ?_
 have h0 : I64 0 := ⟨by omega, by omega⟩
 have hl1 := hl.1
 simp (disch := omega) [KT]
 repeat' (first
  | with_reducible refine Qa (ZI _ _ _) (by simp) ?_
  | with_reducible refine Qa (Zh5 nl l hl 0 h0) (by simp) ?_
  | (with_reducible (first | refine Qo (fun hb_ => ?_) (fun hb_ => ?_) | refine Qn (fun hb_ => ?_) (fun hb_ => ?_)) <;> simp (disch := omega) [hb_])
  | simp (disch := omega))
 all_goals simp_all [ZlT]
theorem Zje (c : Int) : QM c = (QW c 3 18 || eqB c 35) := by
 unfold QM QW leB eqB
 by_cases h : c = 35 <;> simp [h]
theorem ZlA (c : Int) : W4 c = (QW c 19 34 || eqB c 36) := by
 unfold W4 QW leB eqB
 by_cases h : c = 36 <;> simp [h]
theorem KU (c : Int) : QM c = true ↔ (3 ≤ c ∧ c ≤ 18) ∨ c = 35 := by simp [QM]
theorem Zf4 (c : Int) : W4 c = true ↔ (19 ≤ c ∧ c ≤ 34) ∨ c = 36 := by simp [W4]
theorem Zm4 (c : Int) : Qd Tryz.prog JW [N c] (· = B (QM c)) := by
 refine Qd.of_codeOf Zh0 Qz (by simp) ⟨_, rfl, by simp⟩ ?_
 simp (disch := omega) [ZcI]
 repeat' (first
  | with_reducible refine Qa (ZfF _ _ _) (by simp) ?_
  | (with_reducible (first | refine Qo (fun hb_ => ?_) (fun hb_ => ?_) | refine Qn (fun hb_ => ?_) (fun hb_ => ?_)) <;> simp (disch := omega) [hb_])
  | simp (disch := omega))
 all_goals simp_all [Zje]
theorem Zms (c : Int) : Qd Tryz.prog JS [N c] (· = B (W4 c)) := by
 refine Qd.of_codeOf ZmC Qz (by simp) ⟨_, rfl, by simp⟩ ?_
 simp (disch := omega) [ZeY]
 repeat' (first
  | with_reducible refine Qa (ZfF _ _ _) (by simp) ?_
  | (with_reducible (first | refine Qo (fun hb_ => ?_) (fun hb_ => ?_) | refine Qn (fun hb_ => ?_) (fun hb_ => ?_)) <;> simp (disch := omega) [hb_])
  | simp (disch := omega))
 all_goals simp_all [ZlA]
def ZgA (c : Int) : Int := match Wv c with
 | some n => n
 | none => -1
theorem kidsI' (c : Int) : ZgA c = if c = 0 then 0 else if c = 1 ∨ c = 2 ∨ QM c = true then 2 else if W4 c = true then 1 else -1 := by
 unfold ZgA Wv
 split <;> rename_i h <;> (repeat' split at h) <;> simp_all
 all_goals omega
theorem ZpX (c : Int) : Qd Tryz.prog Kv [N c] (· = N (ZgA c)) := by
 refine Qd.of_codeOf ZjW Qz (by simp) ⟨_, rfl, by simp⟩ ?_
 simp (disch := omega) [ZdZ]
 repeat' (first
  | with_reducible refine Qa (Zm4 _) (by simp) ?_
  | with_reducible refine Qa (Zms _) (by simp) ?_
  | (with_reducible (first | refine Qo (fun hb_ => ?_) (fun hb_ => ?_) | refine Qn (fun hb_ => ?_) (fun hb_ => ?_)) <;> simp (disch := omega) [hb_])
  | simp (disch := omega))
 all_goals simp_all [kidsI', Qi, Qg, Ql, Qk, Qe, Qc, Bool.not_true, Bool.not_false]
def W1 (c : Int) : Int := if 35 ≤ c then -1 else if 19 ≤ c then c - 19 else c - 3
theorem ZcJ (c : Int) (h : I64 c) (hg : 0 ≤ c) : Qd Tryz.prog X6 [N c] (· = N (W1 c)) := by
 refine Qd.of_codeOf ZiZ Qz (by simp) ⟨_, rfl, by simp⟩ ?_
 obtain ⟨h1, h2⟩ := h
 simp (disch := omega) [ZcR, Qf]
 repeat' (first
  | (with_reducible (first | refine Qo (fun hb_ => ?_) (fun hb_ => ?_) | refine Qn (fun hb_ => ?_) (fun hb_ => ?_)) <;> simp (disch := omega) [hb_, Qf])
  | simp (disch := omega) [Qf])
 all_goals simp only [Qi, Qg, Ql, Qk, Qe, Qc, Bool.not_true, Bool.not_false, W1] at *
 ·rw [if_pos hb_]
 ·rename_i h
  rw [if_neg (by omega), if_pos hb_]
 ·rename_i h
  rw [if_neg (by omega), if_neg (by omega)]
theorem Zn5 (nl : Bool) (l : List Int) (hl : Lok l) (i : Nat) (hi : i ≤ l.length) : Qd Tryz.prog Vk [L nl l, N i] (· = N (Zw l i)) := by
 have hlen := hl.1
 refine Qd.of_codeOf ZlK Qz (by simp) ⟨_, rfl, by simp⟩ ?_
 simp (disch := omega) [Zfo]
 refine XH l.length i (fun j t _ => ∃ m : Nat, t 6 = N j ∧ t 5 = N (m + 1) ∧ m ≤ j ∧ Zw l i = KI (m + 1) (l.drop j) l.length) ⟨0, by simp, by simp, by omega, by unfold Zw; rw [if_pos (by omega)]; simp⟩ hi ?_
 rintro j t1 hh hf hj ⟨m, e6, e5, hm, he⟩
 (have e0 := hf 0 (by kernel_rfl); clear hf; simp [] at e0)
 simp (disch := omega) [e0, e5, e6]
 (with_reducible first | refine Qo (fun h6 => ?_) (fun h6 => ?_) | refine Qn (fun h6 => ?_) (fun h6 => ?_))
 ·simp only [Qi, Qg, Ql, Qk, Qe, Qc, Bool.not_true, Bool.not_false] at h6
  simp (disch := omega) [e0, e5, e6, Xh]
  have hd : l.drop j = l[j] :: l.drop (j + 1) := List.drop_eq_getElem_cons (by omega)
  generalize l[j]'(by omega) = c at *
  have key : Zw l i = match Wv c with
    | none => -1
    | some q => KI (m + q) (l.drop (j + 1)) l.length := by
   rw [he, hd]
   unfold KI
   simp only [Ty.skip]
   cases Wv c <;> rfl
  refine Qa (ZpX c) (by simp) ?_
  cases hq : Wv c with
  | none =>
   rw [hq] at key
   have hk1 : ZgA c = -1 := by simp [ZgA, hq]
   rw [hk1]
   have hn1 : ltB (-1) 0 = true := by simp [Qi, Qg, Ql, Qk, Qe, Qc, Bool.not_true, Bool.not_false]
   repeat' (first
  | (with_reducible (first | refine Qo (fun hb_ => ?_) (fun hb_ => ?_) | refine Qn (fun hb_ => ?_) (fun hb_ => ?_)) <;> simp (disch := omega) [hb_, e0, e5, e6, hn1])
  | simp (disch := omega) [e0, e5, e6, hn1])
   exact key.symm
  | some q =>
   rw [hq] at key
   have hk1 : ZgA c = q := by simp [ZgA, hq]
   have hq2 := Zon hq
   rw [hk1]
   simp (disch := omega) [e0, e5, e6, Qf]
   repeat' (first
  | (with_reducible (first | refine Qo (fun hb_ => ?_) (fun hb_ => ?_) | refine Qn (fun hb_ => ?_) (fun hb_ => ?_)) <;> simp (disch := omega) [hb_, e0, e5, e6, Qf])
  | simp (disch := omega) [e0, e5, e6, Qf])
   all_goals simp only [Qi, Qg, Ql, Qk, Qe, Qc, Bool.not_true, Bool.not_false] at *
   ·omega
   ·rw [key]
    show _ = KI (m + q) _ _
    rw [show m + q = 0 by omega]; simp [KI, Ty.skip]; omega
   ·refine ⟨by omega, m + q - 1, by omega, by omega, ?_⟩
    rw [key, show m + q - 1 + 1 = m + q by omega]
 ·simp only [Qi, Qg, Ql, Qk, Qe, Qc, Bool.not_true, Bool.not_false] at h6
  simp (disch := omega)
  rw [he, List.drop_eq_nil_of_le (by omega)]; simp [KI, Ty.skip]
theorem ZkS (nl : Bool) (l : List Int) (hl : Lok l) : Qd Tryz.prog Kq [L nl l] (· = B (wty l)) := by
 refine Qd.of_codeOf Zj0 Qz (by simp) ⟨_, rfl, by simp⟩ ?_
 have hl1 := hl.1
 have hE := Zn5 nl l hl 0 (by omega)
 simp (disch := omega) [ZdJ]
 repeat' (first
  | with_reducible refine Qa (hE) (by simp) ?_
  | (with_reducible (first | refine Qo (fun hb_ => ?_) (fun hb_ => ?_) | refine Qn (fun hb_ => ?_) (fun hb_ => ?_)) <;> simp (disch := omega) [hb_])
  | simp (disch := omega))
 ·rw [ZlT, hb_]
  simp_all [QW, ltB, leB]
  omega
 all_goals simp_all [ZlT, QW]
def okC (size : Int) (closed : Bool) (c : Int) : Bool := !(QM c || W4 c) || (ltB (W1 c) size && (!closed || leB 0 (W1 c)))
def Yp (size : Int) (closed : Bool) (l : List Int) (i : Nat) : Bool := okC size closed (l.getD i 0)
def Zq (size : Int) (closed : Bool) (l : List Int) : Bool := YW (Yp size closed l) l.length
theorem ZoA (c : Int) : (ltB 0 (ZgA c) && ltB 2 c) = (QM c || W4 c) := by
 rw [Bool.eq_iff_iff]
 simp only [kidsI', Bool.and_eq_true, Bool.or_eq_true, Qi, Qg, Ql, Qk, Qe, Qc, Bool.not_true, Bool.not_false, KU, Zf4]
 repeat' split
 all_goals omega
theorem ZgS (nl : Bool) (l : List Int) (hl : Lok l) (size : Int) (hs : I64 size) (closed : Bool) : Qd Tryz.prog Jf [L nl l, N size, B closed] (· = B (Zq size closed l)) := by
 have hlen := hl.1
 refine Qd.of_codeOf Zg3 Qz (by simp) ⟨_, rfl, by simp⟩ ?_
 simp (disch := omega) [ZbO]
 refine XH l.length 0 (fun i t _ => t 7 = N i ∧ YW (Yp size closed l) i = true) (by simp) (by omega) ?_
 rintro i t1 hh hf hi ⟨e7, hj⟩
 (have e0 := hf 0 (by kernel_rfl); have e1 := hf 1 (by kernel_rfl); have e2 := hf 2 (by kernel_rfl); clear hf; simp [] at e0 e1 e2)
 simp (disch := omega) [e0, e1, e2, e7]
 (with_reducible first | refine Qo (fun h6 => ?_) (fun h6 => ?_) | refine Qn (fun h6 => ?_) (fun h6 => ?_))
 ·simp only [Qi, Qg, Ql, Qk, Qe, Qc, Bool.not_true, Bool.not_false] at h6
  have hc := hl.at (i := i) (by omega)
  have hget : Yp size closed l i = okC size closed (l[i]'(by omega)) := by simp [Yp, show i < l.length by omega]
  obtain ⟨c, hce⟩ : ∃ c, l[i]'(by omega) = c := ⟨_, rfl⟩
  rw [hce] at hc hget
  have hkg := ZoA c
  simp (disch := omega) [e0, e1, e2, e7, Xh, hce]
  refine Qa (ZpX c) (by simp) ?_
  refine Zfz (fun t h => t 27 = B (QM c || W4 c)) ?_ ?_
  ·repeat' (first
  | (with_reducible (first | refine Qo (fun hb_ => ?_) (fun hb_ => ?_) | refine Qn (fun hb_ => ?_) (fun hb_ => ?_)) <;> simp (disch := omega) [hb_, e0, e1, e2, e7, Xh, hce])
  | simp (disch := omega) [e0, e1, e2, e7, Xh, hce])
   all_goals simp_all
  ·rintro t2 hh hf h27
   (have f0 := hf 0 (by kernel_rfl); have f1 := hf 1 (by kernel_rfl); have f2 := hf 2 (by kernel_rfl); have f7 := hf 7 (by kernel_rfl); clear hf; simp [e0, e1, e2, e7] at f0 f1 f2 f7)
   simp (disch := omega) [h27]
   (with_reducible first | refine Qo (fun h8 => ?_) (fun h8 => ?_) | refine Qn (fun h8 => ?_) (fun h8 => ?_))
   ·have hc0 : 0 ≤ c := by simp only [Bool.or_eq_true, KU, Zf4] at h8; omega
    rw [okC, h8, Zbt] at hget
    cases closed <;> repeat' (first
  | with_reducible refine Qa (ZcJ c hc hc0) (by simp) ?_
  | (with_reducible (first | refine Qo (fun hb_ => ?_) (fun hb_ => ?_) | refine Qn (fun hb_ => ?_) (fun hb_ => ?_)) <;> simp (disch := omega) [hb_, f0, f1, f2, f7, Xh, hce])
  | simp (disch := omega) [f0, f1, f2, f7, Xh, hce])
    ·exact XD (p := Yp size false l) (i := i) (by omega) (by simp [hget, hb_])
    ·exact ⟨by omega, Qf (by omega), by simp [WC, hj, hget, hb_]⟩
    ·exact XD (p := Yp size true l) (i := i) (by omega) (by simp [hget, hb_])
    ·exact XD (p := Yp size true l) (i := i) (by omega) (by rw [Zbt] at hb_; simp at hb_; simp [hget, hb_])
    ·refine ⟨by omega, Qf (by omega), ?_⟩
     rw [Zbt] at hb_
     simp_all [WC]
   ·simp (disch := omega) [f0, f1, f2, f7]
    exact ⟨by omega, Qf (by omega), by simp [WC, hj, hget, okC, h8]⟩
 ·simp only [Qi, Qg, Ql, Qk, Qe, Qc, Bool.not_true, Bool.not_false] at h6
  simp (disch := omega)
  rw [← hj, show i = l.length by omega, Zq]
theorem Zom {c : Int} (h : 0 ≤ c ∧ c ≤ 36) : ((eqB (QF c).1 3 || eqB (QF c).1 4) = (QM c || W4 c)) ∧ ((QM c || W4 c) = true → (QF c).2 = W1 c) := by
 unfold QF W1
 simp only [QV, Qe]
 refine ⟨?_, fun h1 => ?_⟩
 ·rw [Bool.eq_iff_iff]
  simp only [Bool.or_eq_true, KU, Zf4, Qe]
  repeat' split
  all_goals (simp; try omega)
 ·simp only [Bool.or_eq_true, KU, Zf4] at h1
  repeat' split
  all_goals (simp; try omega)
theorem ZgF {c : Int} {k : Nat} (h : Wv c = some k) : 0 ≤ c ∧ c ≤ 36 := by
 rw [kidsN'] at h
 repeat' split at h
 all_goals first | omega | simp at h
theorem Zi0 : ∀ (l : List Int) (n : Nat) (r : List Int), Ty.skip n l = some r → ∀ i, i + r.length < l.length → 0 ≤ l.getD i 0 ∧ l.getD i 0 ≤ 36
 | l, 0, r, h, i, hi => by simp [Ty.skip] at h; subst h; omega
 | [], n + 1, r, h, i, hi => by simp [Ty.skip] at h
 | c :: l, n + 1, r, h, i, hi => by
  simp only [Ty.skip] at h
  cases hk : Wv c with
  | none => simp [hk] at h
  | some k =>
   simp only [hk] at h
   cases i with
   | zero => simpa using ZgF hk
   | succ i =>
    have := Zi0 l (n + k) r h i (by simp at hi; omega)
    simpa using this
theorem Zf5 {l : List Int} (h : wty l = true) (i : Nat) (hi : i < l.length) : 0 ≤ l.getD i 0 ∧ l.getD i 0 ≤ 36 := by
 simp [wty] at h
 exact Zi0 l 1 [] h.2 i (by simpa using hi)
theorem ZgK {s : GSys} (t : s.Tab) (nl : Bool) (l : List Int) (hl : Lok l) : Qd Tryz.prog Jg [s.lv, L nl l] (· = B (wty l && Zq s.size true l)) := by
 have hlen := hl.1
 have h2 := t.lo; have h16 := t.hi
 refine Qd.of_codeOf Zha Qz (by simp) ⟨_, rfl, by simp⟩ ?_
 simp (disch := omega) [ZbJ, Qv, Qt]
 refine Qa (ZaE nl l hl) (by simp) ?_
 simp (disch := omega)
 (with_reducible first | refine Qo (fun h1 => ?_) (fun h1 => ?_) | refine Qn (fun h1 => ?_) (fun h1 => ?_))
 ·rw [h1, Bool.true_and]
  simp (disch := omega)
  refine XH l.length 0 (fun i t _ => t 14 = N i ∧ YW (Yp s.size true l) i = true) (by simp) (by omega) ?_
  rintro i t1 hh hf hi ⟨e14, hj⟩
  (have e2 := hf 2 (by kernel_rfl); have e12 := hf 12 (by kernel_rfl); have e13 := hf 13 (by kernel_rfl); clear hf; simp [] at e2 e12 e13)
  simp (disch := omega) [e2, e12, e13, e14]
  (with_reducible first | refine Qo (fun h6 => ?_) (fun h6 => ?_) | refine Qn (fun h6 => ?_) (fun h6 => ?_))
  ·simp only [Qi, Qg, Ql, Qk, Qe, Qc, Bool.not_true, Bool.not_false] at h6
   have hc := hl.at (i := i) (by omega)
   have hcr := Zf5 h1 i (by omega)
   have hget : Yp s.size true l i = okC s.size true (l[i]'(by omega)) := by simp [Yp, show i < l.length by omega]
   simp only [List.getD_eq_getElem?_getD, List.getElem?_eq_getElem (show i < l.length by omega), Option.getD_some] at hcr
   obtain ⟨c, hce⟩ : ∃ c, l[i]'(by omega) = c := ⟨_, rfl⟩
   rw [hce] at hc hget hcr
   obtain ⟨hs1, hs2⟩ := Zom hcr
   simp (disch := omega) [e2, e12, e13, e14, Xh, hce]
   refine Qa (Zaw c hc) (by simp) ?_
   simp (disch := omega) [e2, e12, e13, e14]
   rw [okC] at hget
   have hI : I64 s.size := ⟨by omega, by omega⟩
   have hlo : -9223372036854775808 < s.size := by omega
   have hwb : QW (QF c).2 0 (s.size - 1) = (leB 0 (QF c).2 && ltB (QF c).2 s.size) := by
    rw [Bool.eq_iff_iff]; simp [QW, Qi, Qg, Ql, Qk, Qe, Qc, Bool.not_true, Bool.not_false]; omega
   simp only [Bool.not_true, Bool.false_or] at hget
   repeat' (first
  | with_reducible refine Qa (ZiN s hI hlo _) (by simp) ?_
  | (with_reducible (first | refine Qo (fun hb_ => ?_) (fun hb_ => ?_) | refine Qn (fun hb_ => ?_) (fun hb_ => ?_)) <;> simp (disch := omega) [hb_, e2, e12, e13, e14])
  | simp (disch := omega) [e2, e12, e13, e14])
   all_goals first
    | exact ⟨by omega, Qf (by omega), by simp_all [WC]⟩
    | exact XD (p := Yp s.size true l) (i := i) (by omega) (by cases hB : leB 0 (W1 c) <;> cases hC : QM c <;> cases hD : W4 c <;> simp_all)
  ·simp only [Qi, Qg, Ql, Qk, Qe, Qc, Bool.not_true, Bool.not_false] at h6
   simp (disch := omega)
   rw [show i = l.length by omega] at hj
   rw [Zq, hj]
 ·simp_all
end Go.Proofs.YtclfngbealdbgaaGreat
namespace Go.Proofs.YtclfngbealdbgaaGreat
open Go Go.TL
open Go.Proofs.YtclfngbealdbgaaGreat.Ty
set_option linter.unusedSimpArgs false
set_option linter.unusedVariables false
set_option maxRecDepth 20000
set_option maxHeartbeats 4000000
inductive GTerm where
 | mk (op n : Int) (nl1 : Bool) (ty : List Int) (nl2 : Bool) (ks : List GTerm)
mutual
def GTerm.cells : GTerm → List LV
 | .mk op n nl1 ty nl2 ks => [N op, N n, L nl1 ty, .sl false nl2 4 (QS ks)]
def QS : List GTerm → List (List LV)
 | [] => []
 | k :: ks => k.cells :: QS ks
end
abbrev GTerm.lv (t : GTerm) : LV := .agg t.cells
mutual
def GTerm.size : GTerm → Nat
 | .mk _ _ _ _ _ ks => WX ks + 1
def WX : List GTerm → Nat
 | [] => 0
 | k :: ks => k.size + WX ks
end
mutual
def GTerm.wf : GTerm → Prop
 | .mk op n _ ty _ ks => I64 op ∧ I64 n ∧ Lok ty ∧ ks.length ≤ 1099511627776 ∧ wfs ks
def wfs : List GTerm → Prop
 | [] => True
 | k :: ks => k.wf ∧ wfs ks
end
theorem Zdj : ∀ ks : List GTerm, QS ks = ks.map GTerm.cells
 | [] => by simp [QS]
 | k :: ks => by simp [QS, Zdj ks]
@[simp] theorem Ky (ks : List GTerm) : (QS ks).length = ks.length := by simp [Zdj]
theorem V7 : ∀ {ks : List GTerm}, wfs ks ↔ ∀ k ∈ ks, k.wf
 | [] => by simp [wfs]
 | k :: ks => by simp [wfs, V7 (ks := ks)]
theorem GTerm.size_pos (t : GTerm) : 0 < t.size := by cases t; simp [GTerm.size]
theorem Zlb : ∀ a b : List GTerm, WX (a ++ b) = WX a + WX b
 | [], b => by simp [WX]
 | k :: a, b => by simp [WX, Zlb a b]; omega
theorem Zeo {ks : List GTerm} {i : Nat} (h : i < ks.length) : WX (ks.drop i) = ks[i].size + WX (ks.drop (i + 1)) := by
 rw [List.drop_eq_getElem_cons h, WX]
theorem Yt {ks : List GTerm} {i : Nat} (h : i < ks.length) : ks[i].size ≤ WX ks := by
 have := Zeo h
 have h2 := Zlb (ks.take i) (ks.drop i)
 rw [List.take_append_drop] at h2
 omega
mutual
theorem ZgN : ∀ t : GTerm, shareAll t.cells = t.cells
 | .mk op n nl1 ty nl2 ks => by
  simp only [GTerm.cells, shareAll, share, Zbz ks]
  congr 3
  simp
theorem Zbz : ∀ ks : List GTerm, Qu (QS ks) = QS ks
 | [] => by simp [QS, Qu]
 | k :: ks => by simp only [QS, Qu, ZgN k, Zbz ks]
end
attribute [simp] ZgN Zbz
@[simp] theorem cells_length (t : GTerm) : t.cells.length = 4 := by cases t; simp [GTerm.cells]
@[simp] theorem take_cells (t : GTerm) : t.cells.take 4 = t.cells := List.take_of_length_le (by simp)
mutual
theorem low_cells (k : Nat) : ∀ t : GTerm, QE k t.cells
 | .mk op n nl1 ty nl2 ks => by
  have := ZeD k ks
  simp [GTerm.cells, this]
theorem ZeD (k : Nat) : ∀ ks : List GTerm, Wj k (QS ks)
 | [] => by simp [QS]
 | t :: ks => by simp [QS, low_cells k t, ZeD k ks]
end
attribute [simp] low_cells ZeD
@[simp] theorem alive_cells (t : GTerm) : Wz t.cells = true := by
 cases t; simp [GTerm.cells]
theorem ZdL (ks : List GTerm) (u nl : Bool) (i : Nat) (h : i < ks.length) : QQ 4 (.sl u nl 4 (QS ks)) (i : Int) = some (.rp (ks[i]'h).cells) := by
 simp only [QQ]
 rw [if_pos ⟨trivial, by omega, by simpa using h⟩]
 have : (QS ks).getD (i : Int).toNat [] = (ks[i]'h).cells := by
  simp [List.getD_eq_getElem?_getD, Zdj, h]
 rw [this]
 simp
def YV (op : Int) : Int := if op = 0 ∨ op = 1 then 0 else if op = 2 ∨ op = 4 ∨ op = 5 ∨ op = 10 ∨ op = 12 then 2 else if op = 3 ∨ op = 8 then 3 else if op = 6 ∨ op = 7 ∨ op = 9 ∨ op = 11 then 1 else -1
def Z0 (op : Int) : Bool := eqB op 5 || eqB op 8 || eqB op 9 || eqB op 11 || eqB op 12
def Xs (op : Int) : Bool := eqB op 6 || eqB op 7 || eqB op 9
def Qp (op k : Int) : Int := if op = 5 ∧ k = 1 then 2 else if (op = 8 ∧ 0 < k) ∨ op = 9 ∨ (op = 12 ∧ k = 1) then 1 else 0
theorem Zhr (op k : Int) : Qd Tryz.prog KO [N op, N k] (· = N (Qp op k)) := by
 refine Qd.of_codeOf Zn3 Qz (by simp) ⟨_, rfl, by simp⟩ ?_
 simp (disch := omega) [ZgP]
 repeat' (first
  | (with_reducible (first | refine Qo (fun hb_ => ?_) (fun hb_ => ?_) | refine Qn (fun hb_ => ?_) (fun hb_ => ?_)) <;> simp (disch := omega) [hb_])
  | simp (disch := omega))
 all_goals simp only [Qi, Qg, Ql, Qk, Qe, Qc, Bool.not_true, Bool.not_false] at *
 all_goals simp_all [Qp]
theorem Zdn (op k : Int) : Qd Tryz.prog Zf [N op, N k] (· = N (Qp op k)) := by
 refine Qd.of_codeOf ZjH Qz (by simp) ⟨_, rfl, by simp⟩ ?_
 simp (disch := omega) [ZdP]
 repeat' (first
  | (with_reducible (first | refine Qo (fun hb_ => ?_) (fun hb_ => ?_) | refine Qn (fun hb_ => ?_) (fun hb_ => ?_)) <;> simp (disch := omega) [hb_])
  | simp (disch := omega))
 all_goals simp only [Qi, Qg, Ql, Qk, Qe, Qc, Bool.not_true, Bool.not_false] at *
 all_goals simp_all [Qp]
theorem l2Has_ok (op : Int) : Qd Tryz.prog Zba [N op] (· = B (Z0 op)) := by
 refine Qd.of_codeOf Zmp Qz (by simp) ⟨_, rfl, by simp⟩ ?_
 simp (disch := omega) [Zfj]
 repeat' (first
  | (with_reducible (first | refine Qo (fun hb_ => ?_) (fun hb_ => ?_) | refine Qn (fun hb_ => ?_) (fun hb_ => ?_)) <;> simp (disch := omega) [hb_])
  | simp (disch := omega))
 all_goals simp_all [Z0]
theorem ZoN (op : Int) : Qd Tryz.prog VR [N op] (· = B (Xs op)) := by
 refine Qd.of_codeOf Zh1 Qz (by simp) ⟨_, rfl, by simp⟩ ?_
 simp (disch := omega) [Zcq]
 repeat' (first
  | (with_reducible (first | refine Qo (fun hb_ => ?_) (fun hb_ => ?_) | refine Qn (fun hb_ => ?_) (fun hb_ => ?_)) <;> simp (disch := omega) [hb_])
  | simp (disch := omega))
 all_goals simp_all [Xs]
theorem ops13 {op : Int} (h : QW op 0 12 = true) : op = 0 ∨ op = 1 ∨ op = 2 ∨ op = 3 ∨ op = 4 ∨ op = 5 ∨ op = 6 ∨ op = 7 ∨ op = 8 ∨ op = 9 ∨ op = 10 ∨ op = 11 ∨ op = 12 := by
 rw [QV] at h; omega
theorem ZqX (op : Int) : Qd Tryz.prog Zan [N op] (· = N (YV op)) := by
 refine Qd.of_codeOf ZjF Qz (by simp) ⟨_, rfl, by simp⟩ ?_
 simp (disch := omega) [ZdI]
 refine Qa (ZfF _ _ _) (by simp) ?_
 simp (disch := omega)
 (with_reducible first | refine Qo (fun h1 => ?_) (fun h1 => ?_) | refine Qn (fun h1 => ?_) (fun h1 => ?_))
 ·rcases ops13 h1 with h | h | h | h | h | h | h | h | h | h | h | h | h <;> subst h <;> simp [QQ, YV, Qm]
 ·rw [ZfK] at h1
  simp [YV]
  repeat' split
  all_goals omega
def wordS (op : Int) : Value := if op = 0 then .string ⟨#[120]⟩ else if op = 2 then .string ⟨#[97, 100, 100]⟩ else if op = 3 then .string ⟨#[105, 102]⟩ else if op = 4 then .string ⟨#[112, 97, 105, 114]⟩ else if op = 5 then .string ⟨#[115, 112, 108, 105, 116]⟩
 else if op = 6 then .string ⟨#[108, 101, 102, 116]⟩ else if op = 7 then .string ⟨#[114, 105, 103, 104, 116]⟩ else if op = 8 then .string ⟨#[99, 97, 115, 101]⟩ else if op = 9 then .string ⟨#[102, 117, 110]⟩
 else if op = 10 then .string ⟨#[97, 112, 112]⟩ else if op = 11 then .string ⟨#[98, 111, 120]⟩ else if op = 12 then .string ⟨#[111, 112, 101, 110]⟩ else .string ⟨#[]⟩
abbrev wordV (op : Int) : LV := .sc (wordS op)
def Zh3 (op : Int) : LV := if QW op 0 12 = true then .tup [.agg [wordV op, N (YV op), B (Z0 op), B (Xs op)], B true] else .tup [.agg [.sc (.string ⟨#[]⟩), N 0, B false, B false], B false]
@[simp] theorem low_formV (op : Int) (k : Nat) : Low k (Zh3 op) := by
 unfold Zh3; split <;> simp
theorem ZqY (op : Int) : Qd Tryz.prog Zas [N op] (· = Zh3 op) := by
 refine Qd.of_codeOf ZkA Qz (by simp) ⟨_, rfl, by simp⟩ ?_
 simp (disch := omega) [ZdG]
 refine Qa (ZI _ _ _) (by simp) ?_
 simp (disch := omega)
 (with_reducible first | refine Qo (fun h1 => ?_) (fun h1 => ?_) | refine Qn (fun h1 => ?_) (fun h1 => ?_))
 ·rcases ops13 h1 with h | h | h | h | h | h | h | h | h | h | h | h | h <;> subst h <;> simp [QQ, Qm, YV, Zh3, wordS, Z0, Xs, QW, leB, eqB]
 ·simp [Zh3, h1]
end Go.Proofs.YtclfngbealdbgaaGreat
namespace Go.Proofs.YtclfngbealdbgaaGreat
open Go Go.TL
set_option linter.unusedSimpArgs false
set_option linter.unusedVariables false
set_option maxRecDepth 20000
set_option maxHeartbeats 4000000
mutual
def GTerm.raw : GTerm → Prop
 | .mk op n _ ty _ ks => I64 op ∧ I64 n ∧ (ty.length ≤ 9223372036854775807 ∧ ∀ c ∈ ty, I64 c) ∧ ks.length ≤ 9223372036854775807 ∧ raws ks
def raws : List GTerm → Prop
 | [] => True
 | k :: ks => k.raw ∧ raws ks
end
mutual
def GTerm.w : GTerm → Nat
 | .mk _ _ _ ty _ ks => ty.length + (ks.length + tws ks)
def tws : List GTerm → Nat
 | [] => 0
 | k :: ks => k.w + tws ks
end
mutual
def GTerm.norm : GTerm → GTerm
 | .mk op n _ ty _ ks => .mk op n false ty false (Znx ks)
def Znx : List GTerm → List GTerm
 | [] => []
 | k :: ks => k.norm :: Znx ks
end
mutual
def GTerm.own : GTerm → List LV
 | .mk op n _ ty _ ks => [N op, N n, OU true false ty, .sl true false 4 (owns ks)]
def owns : List GTerm → List (List LV)
 | [] => []
 | k :: ks => k.own :: owns ks
end
mutual
theorem ZiA : ∀ t : GTerm, shareAll t.own = t.norm.cells
 | .mk op n nl1 ty nl2 ks => by
  simp only [GTerm.own, GTerm.norm, GTerm.cells, shareAll, share, Zec ks]
  congr 3
  simp
theorem Zec : ∀ ks : List GTerm, Qu (owns ks) = QS (Znx ks)
 | [] => by simp [owns, Znx, QS, Qu]
 | k :: ks => by simp only [owns, Znx, QS, Qu, ZiA k, Zec ks]
end
attribute [simp] ZiA Zec
@[simp] theorem own_length (t : GTerm) : t.own.length = 4 := by cases t; simp [GTerm.own]
@[simp] theorem take_own (t : GTerm) : t.own.take 4 = t.own := List.take_of_length_le (by simp)
@[simp] theorem alive_own (t : GTerm) : Wz t.own = true := by cases t; simp [GTerm.own]
mutual
theorem Zoq (k : Nat) : ∀ t : GTerm, QE k t.own
 | .mk op n nl1 ty nl2 ks => by
  have := Zji k ks
  simp [GTerm.own, this]
theorem Zji (k : Nat) : ∀ ks : List GTerm, Wj k (owns ks)
 | [] => by simp [owns]
 | t :: ks => by simp [owns, Zoq k t, Zji k ks]
end
attribute [simp] Zoq Zji
mutual
def GTerm.same : GTerm → GTerm → Bool
 | .mk op n _ ty _ ks, .mk op' n' _ ty' _ ks' => eqB op op' && (eqB n n' && ((ty == ty') && sames ks ks'))
def sames : List GTerm → List GTerm → Bool
 | [], [] => true
 | a :: a', b :: b' => a.same b && sames a' b'
 | _, _ => false
end
end Go.Proofs.YtclfngbealdbgaaGreat
namespace Go.Proofs.YtclfngbealdbgaaGreat
open Go Go.TL
set_option linter.unusedSimpArgs false
set_option linter.unusedVariables false
set_option maxRecDepth 20000
set_option maxHeartbeats 4000000
end Go.Proofs.YtclfngbealdbgaaGreat
namespace Go.Proofs.YtclfngbealdbgaaGreat
open Go Go.TL
set_option linter.unusedSimpArgs false
set_option linter.unusedVariables false
set_option maxRecDepth 20000
set_option maxHeartbeats 4000000
theorem GSys.isJoin_n {s : GSys} {n : Nat} (hn : s.size = n) (a b g : Int) : s.isJoin a b g = (s.le a g && s.le b g && YW (fun h => s.jn a b g h) n) := by
 simp [GSys.isJoin, hn]
section
variable {s : GSys} (t : s.Tab) {a b : Int} (ha : s.G a) (hb : s.G b)
include t ha hb
theorem Vm : Qd Tryz.prog X3 [s.lv, N a, N b] (· = N (s.join a b)) := by
 refine Qd.of_codeOf Zks Qz (by simp) ⟨_, rfl, by simp⟩ ?_
 have h2 := t.lo; have h16 := t.hi
 obtain ⟨n, hn⟩ : ∃ n : Nat, s.size = n := ⟨s.size.toNat, by omega⟩
 simp (disch := omega) [Zd8, Qv, Qt]
 refine XH n 0 (fun g t _ => t 7 = N g ∧ s.join a b = Yc (s.isJoin a b) g (n - g)) (by simp [GSys.join, hn]) (by omega) ?_
 rintro g t1 hh hf hg ⟨e7, hj⟩
 (have e1 := hf 1 (by kernel_rfl); have e2 := hf 2 (by kernel_rfl); have e3 := hf 3 (by kernel_rfl); clear hf; simp [] at e1 e2 e3)
 simp (disch := omega) [e1, e2, e3, e7]
 (with_reducible first | refine Qo (fun h1 => ?_) (fun h1 => ?_) | refine Qn (fun h1 => ?_) (fun h1 => ?_))
 ·have hGg := GSys.Glt h1
  simp (disch := omega) [e1, e2, e3, e7]
  refine Qa (XZ t ha hGg) (by simp) ?_
  refine Zfz (fun t h => t 8 = B (s.le a g && s.le b g)) ?_ ?_
  ·repeat' (first
  | with_reducible refine Qa (XZ t (by first | assumption | exact GSys.Gpl t _ _ | exact GSys.Gtm t _ _ | exact GSys.Glt (by assumption) | exact GSys.G0 t | exact GSys.G1 t) (by first | assumption | exact GSys.Gpl t _ _ | exact GSys.Gtm t _ _ | exact GSys.Glt (by assumption) | exact GSys.G0 t | exact GSys.G1 t)) (by simp) ?_
  | (with_reducible (first | refine Qo (fun hb_ => ?_) (fun hb_ => ?_) | refine Qn (fun hb_ => ?_) (fun hb_ => ?_)) <;> simp (disch := omega) [hb_, e1, e2, e3, e7])
  | simp (disch := omega) [e1, e2, e3, e7])
  ·rintro t2 hh hf2 e8
   (have f1 := hf2 1 (by kernel_rfl); have f2 := hf2 2 (by kernel_rfl); have f3 := hf2 3 (by kernel_rfl); have f7 := hf2 7 (by kernel_rfl); clear hf2; simp [e1, e2, e3, e7] at f1 f2 f3 f7)
   simp (disch := omega)
   refine Wf n 0 (fun i t _ => t 9 = N i ∧ t 8 = B (s.le a g && s.le b g && YW (fun h => s.jn a b g h) i)) (fun t h => t 8 = B (s.isJoin a b g)) (by simp [e8]) (by omega) ?_ ?_
   ·rintro i t3 hh hf3 hi ⟨g9, g8⟩
    (have q1 := hf3 1 (by kernel_rfl); have q2 := hf3 2 (by kernel_rfl); have q3 := hf3 3 (by kernel_rfl); have q7 := hf3 7 (by kernel_rfl); clear hf3; simp [f1, f2, f3, f7] at q1 q2 q3 q7)
    simp (disch := omega) [q1, q2, q3, q7, g8, g9]
    repeat' (first
  | with_reducible refine Qa (XZ t (by first | assumption | exact GSys.Gpl t _ _ | exact GSys.Gtm t _ _ | exact GSys.Glt (by assumption) | exact GSys.G0 t | exact GSys.G1 t) (by first | assumption | exact GSys.Gpl t _ _ | exact GSys.Gtm t _ _ | exact GSys.Glt (by assumption) | exact GSys.G0 t | exact GSys.G1 t)) (by simp) ?_
  | (with_reducible (first | refine Qo (fun hb_ => ?_) (fun hb_ => ?_) | refine Qn (fun hb_ => ?_) (fun hb_ => ?_)) <;> simp (disch := omega) [hb_, q1, q2, q3, q7, g8, g9])
  | simp (disch := omega) [q1, q2, q3, q7, g8, g9])
    all_goals (try simp only [Qi, Qg, Ql, Qk, Qe, Qc, Bool.not_true, Bool.not_false] at *)
    ·refine ⟨by omega, Qf (by omega), ?_⟩
     simp_all [WC, GSys.jn]
    ·refine ⟨by omega, Qf (by omega), ?_⟩
     simp_all [WC, GSys.jn]
    ·refine ⟨by omega, Qf (by omega), ?_⟩
     simp_all [WC, GSys.jn]
    ·rw [GSys.isJoin_n hn]
     cases h : YW (fun h => s.jn a b g h) i with
     | false => simp [Zia hi h]
     | true => simp_all
    ·rw [GSys.isJoin_n hn, show i = n by omega]
   ·rintro t4 hh hf4 g8
    (have q1 := hf4 1 (by kernel_rfl); have q2 := hf4 2 (by kernel_rfl); have q3 := hf4 3 (by kernel_rfl); have q7 := hf4 7 (by kernel_rfl); clear hf4; simp [f1, f2, f3, f7] at q1 q2 q3 q7)
    repeat' (first
  | (with_reducible (first | refine Qo (fun hb_ => ?_) (fun hb_ => ?_) | refine Qn (fun hb_ => ?_) (fun hb_ => ?_)) <;> simp (disch := omega) [hb_, q1, q2, q3, q7, g8])
  | simp (disch := omega) [q1, q2, q3, q7, g8])
    all_goals (try simp only [Qi, Qg, Ql, Qk, Qe, Qc, Bool.not_true, Bool.not_false] at *)
    ·rw [hj, show n - g = (n - (g + 1)) + 1 by omega, Yc, if_pos hb_]
    ·rw [hj, show n - g = (n - (g + 1)) + 1 by omega, Yc, if_neg (by simp [hb_])]
     exact ⟨by omega, Qf (by omega), by simp⟩
 ·all_goals (try simp only [Qi, Qg, Ql, Qk, Qe, Qc, Bool.not_true, Bool.not_false] at *)
  have : g = n := by omega
  simp_all [Yc]
theorem ZpE : Qd Tryz.prog WT [s.lv, N a, N b] (· = N (s.join a b)) := by
  refine Qd.of_codeOf Zcf Qz (by simp) ⟨_, rfl, by simp⟩ ?_
  have h2 := t.lo; have h16 := t.hi
  obtain ⟨n, hn⟩ : ∃ n : Nat, s.size = n := ⟨s.size.toNat, by omega⟩
  simp (disch := omega) [KN, Qv, Qt]
  refine XH n 0 (fun g t _ => t 7 = N g ∧ s.join a b = Yc (s.isJoin a b) g (n - g)) (by simp [GSys.join, hn]) (by omega) ?_
  rintro g t1 hh hf hg ⟨e7, hj⟩
  (have e1 := hf 1 (by kernel_rfl); have e2 := hf 2 (by kernel_rfl); have e3 := hf 3 (by kernel_rfl); clear hf; simp [] at e1 e2 e3)
  simp (disch := omega) [e1, e2, e3, e7]
  (with_reducible first | refine Qo (fun h1 => ?_) (fun h1 => ?_) | refine Qn (fun h1 => ?_) (fun h1 => ?_))
  · have hGg := GSys.Glt h1
    simp (disch := omega) [e1, e2, e3, e7]
    refine Qa (JU t ha hGg) (by simp) ?_
    refine Zfz (fun t h => t 27 = B (!s.le a g || !s.le b g)) ?_ ?_
    · repeat' (first
    | with_reducible refine Qa (JU t (by first | assumption | exact GSys.Gpl t _ _ | exact GSys.Gtm t _ _ | exact GSys.Glt (by assumption) | exact GSys.G0 t | exact GSys.G1 t) (by first | assumption | exact GSys.Gpl t _ _ | exact GSys.Gtm t _ _ | exact GSys.Glt (by assumption) | exact GSys.G0 t | exact GSys.G1 t)) (by simp) ?_
    | (with_reducible (first | refine Qo (fun hb_ => ?_) (fun hb_ => ?_) | refine Qn (fun hb_ => ?_) (fun hb_ => ?_)) <;> simp (disch := omega) [hb_, e1, e2, e3, e7])
    | simp (disch := omega) [e1, e2, e3, e7])
    · rintro t2 hh hf2 e8
      (have f1 := hf2 1 (by kernel_rfl); have f2 := hf2 2 (by kernel_rfl); have f3 := hf2 3 (by kernel_rfl); have f7 := hf2 7 (by kernel_rfl); clear hf2; simp [e1, e2, e3, e7] at f1 f2 f3 f7)
      simp (disch := omega) [e8]
      (with_reducible first | refine Qo (fun h3 => ?_) (fun h3 => ?_) | refine Qn (fun h3 => ?_) (fun h3 => ?_))
      · simp (disch := omega) [f7]
        all_goals (try simp only [Qi, Qg, Ql, Qk, Qe, Qc, Bool.not_true, Bool.not_false] at *)
        rw [hj, show n - g = (n - (g + 1)) + 1 by omega, Yc, if_neg (by rw [GSys.isJoin_n hn]; simp at h3; rcases h3 with h3 | h3 <;> simp [h3])]
        exact ⟨by omega, Qf (by omega), by simp⟩
      · simp (disch := omega) [f1, f2, f3, f7]
        refine Wf n 0 (fun i t _ => t 9 = N i ∧ t 8 = B (YW (fun h => s.jn a b g h) i)) (fun t h => t 8 = B (s.isJoin a b g)) (by simp) (by omega) ?_ ?_
        · rintro i t3 hh hf3 hi ⟨g9, g8⟩
          (have q1 := hf3 1 (by kernel_rfl); have q2 := hf3 2 (by kernel_rfl); have q3 := hf3 3 (by kernel_rfl); have q7 := hf3 7 (by kernel_rfl); clear hf3; simp [f1, f2, f3, f7] at q1 q2 q3 q7)
          simp (disch := omega) [q1, q2, q3, q7, g8, g9]
          repeat' (first
    | with_reducible refine Qa (JU t (by first | assumption | exact GSys.Gpl t _ _ | exact GSys.Gtm t _ _ | exact GSys.Glt (by assumption) | exact GSys.G0 t | exact GSys.G1 t) (by first | assumption | exact GSys.Gpl t _ _ | exact GSys.Gtm t _ _ | exact GSys.Glt (by assumption) | exact GSys.G0 t | exact GSys.G1 t)) (by simp) ?_
    | (with_reducible (first | refine Qo (fun hb_ => ?_) (fun hb_ => ?_) | refine Qn (fun hb_ => ?_) (fun hb_ => ?_)) <;> simp (disch := omega) [hb_, q1, q2, q3, q7, g8, g9])
    | simp (disch := omega) [q1, q2, q3, q7, g8, g9])
          all_goals (try simp only [Qi, Qg, Ql, Qk, Qe, Qc, Bool.not_true, Bool.not_false] at *)
          · refine ⟨by omega, Qf (by omega), ?_⟩
            simp_all [WC, GSys.jn]
          · refine ⟨by omega, Qf (by omega), ?_⟩
            simp_all [WC, GSys.jn]
          · refine ⟨by omega, Qf (by omega), ?_⟩
            simp_all [WC, GSys.jn]
          · refine ⟨by omega, Qf (by omega), ?_⟩
            simp_all [WC]
          · rw [GSys.isJoin_n hn, show i = n by omega]
            simp_all
        · rintro t4 hh hf4 g8
          (have q1 := hf4 1 (by kernel_rfl); have q2 := hf4 2 (by kernel_rfl); have q3 := hf4 3 (by kernel_rfl); have q7 := hf4 7 (by kernel_rfl); clear hf4; simp [f1, f2, f3, f7] at q1 q2 q3 q7)
          repeat' (first
    | (with_reducible (first | refine Qo (fun hb_ => ?_) (fun hb_ => ?_) | refine Qn (fun hb_ => ?_) (fun hb_ => ?_)) <;> simp (disch := omega) [hb_, q1, q2, q3, q7, g8])
    | simp (disch := omega) [q1, q2, q3, q7, g8])
          all_goals (try simp only [Qi, Qg, Ql, Qk, Qe, Qc, Bool.not_true, Bool.not_false] at *)
          · rw [hj, show n - g = (n - (g + 1)) + 1 by omega, Yc, if_pos hb_]
          · rw [hj, show n - g = (n - (g + 1)) + 1 by omega, Yc, if_neg (by simp [hb_])]
            exact ⟨by omega, Qf (by omega), by simp⟩
  · all_goals (try simp only [Qi, Qg, Ql, Qk, Qe, Qc, Bool.not_true, Bool.not_false] at *)
    have : g = n := by omega
    simp_all [Yc]
end
def GSys.one (s : GSys) (a : Int) : Bool := eqB (s.pl 0 a) a && eqB (s.tm 1 a) a && eqB (s.tm a 1) a && eqB (s.tm 0 a) 0 && eqB (s.tm a 0) 0 && s.le a a
def GSys.two (s : GSys) (a b : Int) : Bool := eqB (s.pl a b) (s.pl b a) && (eqB a b || !s.le a b || !s.le b a) && leB 0 (s.join a b)
section
variable {s : GSys} (t : s.Tab) {a b : Int} (ha : s.G a) (hb : s.G b)
include t ha
theorem l1One_ok : Qd Tryz.prog Zbn [s.lv, N a] (· = B (s.one a)) := by
 refine Qd.of_codeOf Zlk Qz (by simp) ⟨_, rfl, by simp⟩ ?_
 simp (disch := omega) [Zfm, Qv, Qt]
 repeat' (first
  | with_reducible refine Qa (ZaT t (by first | assumption | exact GSys.Gpl t _ _ | exact GSys.Gtm t _ _ | exact GSys.Glt (by assumption) | exact GSys.G0 t | exact GSys.G1 t) (by first | assumption | exact GSys.Gpl t _ _ | exact GSys.Gtm t _ _ | exact GSys.Glt (by assumption) | exact GSys.G0 t | exact GSys.G1 t)) (by simp) ?_
  | with_reducible refine Qa (ZaJ t (by first | assumption | exact GSys.Gpl t _ _ | exact GSys.Gtm t _ _ | exact GSys.Glt (by assumption) | exact GSys.G0 t | exact GSys.G1 t) (by first | assumption | exact GSys.Gpl t _ _ | exact GSys.Gtm t _ _ | exact GSys.Glt (by assumption) | exact GSys.G0 t | exact GSys.G1 t)) (by simp) ?_
  | with_reducible refine Qa (XZ t (by first | assumption | exact GSys.Gpl t _ _ | exact GSys.Gtm t _ _ | exact GSys.Glt (by assumption) | exact GSys.G0 t | exact GSys.G1 t) (by first | assumption | exact GSys.Gpl t _ _ | exact GSys.Gtm t _ _ | exact GSys.Glt (by assumption) | exact GSys.G0 t | exact GSys.G1 t)) (by simp) ?_
  | (with_reducible (first | refine Qo (fun hb_ => ?_) (fun hb_ => ?_) | refine Qn (fun hb_ => ?_) (fun hb_ => ?_)) <;> simp (disch := omega) [hb_])
  | simp (disch := omega))
 all_goals simp_all [GSys.one]
include hb
theorem l1Two_ok : Qd Tryz.prog Zbb [s.lv, N a, N b] (· = B (s.two a b)) := by
 refine Qd.of_codeOf Zly Qz (by simp) ⟨_, rfl, by simp⟩ ?_
 simp (disch := omega) [Zfu, Qv, Qt]
 repeat' (first
  | with_reducible refine Qa (ZaT t (by first | assumption | exact GSys.Gpl t _ _ | exact GSys.Gtm t _ _ | exact GSys.Glt (by assumption) | exact GSys.G0 t | exact GSys.G1 t) (by first | assumption | exact GSys.Gpl t _ _ | exact GSys.Gtm t _ _ | exact GSys.Glt (by assumption) | exact GSys.G0 t | exact GSys.G1 t)) (by simp) ?_
  | with_reducible refine Qa (XZ t (by first | assumption | exact GSys.Gpl t _ _ | exact GSys.Gtm t _ _ | exact GSys.Glt (by assumption) | exact GSys.G0 t | exact GSys.G1 t) (by first | assumption | exact GSys.Gpl t _ _ | exact GSys.Gtm t _ _ | exact GSys.Glt (by assumption) | exact GSys.G0 t | exact GSys.G1 t)) (by simp) ?_
  | with_reducible refine Qa (Vm t (by first | assumption | exact GSys.Gpl t _ _ | exact GSys.Gtm t _ _ | exact GSys.Glt (by assumption) | exact GSys.G0 t | exact GSys.G1 t) (by first | assumption | exact GSys.Gpl t _ _ | exact GSys.Gtm t _ _ | exact GSys.Glt (by assumption) | exact GSys.G0 t | exact GSys.G1 t)) (by simp) ?_
  | (with_reducible (first | refine Qo (fun hb_ => ?_) (fun hb_ => ?_) | refine Qn (fun hb_ => ?_) (fun hb_ => ?_)) <;> simp (disch := omega) [hb_])
  | simp (disch := omega))
 all_goals simp_all [GSys.two]
end
def GSys.cell (s : GSys) (i : Nat) : Bool := QW (s.plus.getD i 0) 0 (s.size - 1) && QW (s.times.getD i 0) 0 (s.size - 1)
def GSys.tabB (s : GSys) : Bool := QW s.size 2 16 && eqB s.plus.length (s.size * s.size) && eqB s.times.length (s.size * s.size) && eqB s.below.length (s.size * s.size) && YW s.cell s.plus.length
theorem GSys.tab_iff {s : GSys} : s.tabB = true ↔ s.Tab := by
 simp only [GSys.tabB, Bool.and_eq_true, QV, Qe, Yr, GSys.cell]
 constructor
 ·rintro ⟨⟨⟨⟨h1, h2⟩, h3⟩, h4⟩, h5⟩
  refine ⟨h1.1, h1.2, h2, h3, h4, fun i => ?_, fun i => ?_⟩
  ·by_cases hi : i < s.plus.length
   ·have := (h5 i hi).1; omega
   ·rw [List.getD_eq_getElem?_getD, List.getElem?_eq_none (by omega)]; simp; omega
  ·by_cases hi : i < s.plus.length
   ·have := (h5 i hi).2; omega
   ·rw [List.getD_eq_getElem?_getD, List.getElem?_eq_none (by omega)]; simp; omega
 ·intro t
  refine ⟨⟨⟨⟨⟨t.lo, t.hi⟩, t.lp⟩, t.lt⟩, t.lb⟩, fun i _ => ?_⟩
  have := t.rp i; have := t.rt i
  omega
theorem GSys.sq {s : GSys} (h : QW s.size 2 16 = true) : 0 ≤ s.size * s.size ∧ s.size * s.size ≤ 256 ∧ 2 ≤ s.size ∧ s.size ≤ 16 := by
 rw [QV] at h
 have h4 : s.size * s.size ≤ 16 * 16 := Int.mul_le_mul h.2 h.2 (by omega) (by omega)
 exact ⟨Int.mul_nonneg (by omega) (by omega), by omega, h⟩
theorem ZnU (s : GSys) (hw : s.wf) : Qd Tryz.prog K2 [s.lv] (· = B s.tabB) := by
 refine Qd.of_codeOf ZgY Qz (by simp) ⟨_, rfl, by simp⟩ ?_
 simp (disch := omega) [ZbF, Qv, Qt]
 refine Qa (ZfF _ _ _) (by simp) ?_
 simp (disch := omega)
 (with_reducible first | refine Qo (fun h1 => ?_) (fun h1 => ?_) | refine Qn (fun h1 => ?_) (fun h1 => ?_))
 ·obtain ⟨h2, h3, h4, h5⟩ := GSys.sq (s := s) h1
  simp (disch := omega) [h1, Qf]
  repeat' (first
  | (with_reducible (first | refine Qo (fun hb_ => ?_) (fun hb_ => ?_) | refine Qn (fun hb_ => ?_) (fun hb_ => ?_)) <;> simp (disch := omega) [hb_, h1, Qf])
  | simp (disch := omega) [h1, Qf])
  all_goals try (simp_all [GSys.tabB]; done)
  ·rename_i g1 g2
   have e0 : s.tabB = YW s.cell s.plus.length := by simp [GSys.tabB, h1, g1, g2, hb_]
   rw [e0]
   all_goals (try simp only [Qi, Qg, Ql, Qk, Qe, Qc, Bool.not_true, Bool.not_false] at *)
   refine XH s.plus.length 0 (fun i t _ => t 3 = N i ∧ YW s.cell i = true) (by simp) (by omega) ?_
   rintro i t1 hh hf hi ⟨e3, hj⟩
   (have e1 := hf 1 (by kernel_rfl); clear hf; simp [] at e1)
   simp (disch := omega) [e1, e3]
   (with_reducible first | refine Qo (fun h6 => ?_) (fun h6 => ?_) | refine Qn (fun h6 => ?_) (fun h6 => ?_))
   ·simp only [Qi, Qg, Ql, Qk, Qe, Qc, Bool.not_true, Bool.not_false] at h6
    simp (disch := omega) [e1, e3, Qf, Xh]
    have ec : s.cell i = (QW (s.plus[i]'(by omega)) 0 (s.size - 1) && QW (s.times[i]'(by omega)) 0 (s.size - 1)) := by
     simp [GSys.cell, show i < s.plus.length by omega, show i < s.times.length by omega]
    repeat' (first
  | with_reducible refine Qa (ZfF _ _ _) (by simp) ?_
  | (with_reducible (first | refine Qo (fun hb_ => ?_) (fun hb_ => ?_) | refine Qn (fun hb_ => ?_) (fun hb_ => ?_)) <;> simp (disch := omega) [hb_, e1, e3, Qf, Xh])
  | simp (disch := omega) [e1, e3, Qf, Xh])
    ·refine ⟨by omega, by simp_all [WC]⟩
    ·exact XD (p := s.cell) (i := i) (by omega) (by simp_all)
    ·exact XD (p := s.cell) (i := i) (by omega) (by simp_all)
   ·simp only [Qi, Qg, Ql, Qk, Qe, Qc, Bool.not_true, Bool.not_false] at h6
    simp (disch := omega) [e1, e3]
    rw [← hj, show i = s.plus.length by omega]
 ·simp_all [GSys.tabB]
def GSys.sysC (s : GSys) (n : Nat) (a b : Int) : Bool := s.two a b && YW (fun c => s.three a b c) n
def GSys.sysB (s : GSys) (n : Nat) (a : Int) : Bool := s.one a && YW (fun b => s.sysC n a b) n
def GSys.sys (s : GSys) : Bool := s.tabB && YW (fun a => s.sysB s.size.toNat a) s.size.toNat
theorem GSys.sys_n {s : GSys} {n : Nat} (hn : s.size = n) : s.sys = (s.tabB && YW (fun a => s.sysB n a) n) := by simp [GSys.sys, hn]
theorem GSys.sys_of {s : GSys} (h : s.sys = true) : s.Tab := GSys.tab_iff.1 (by simp [GSys.sys] at h; exact h.1)
theorem Jj (s : GSys) (hw : s.wf) : Qd Tryz.prog Yi [s.lv] (· = B s.sys) := by
  refine Qd.of_codeOf Zg7 Qz (by simp) ⟨_, rfl, by simp⟩ ?_
  simp (disch := omega) [ZbG, Qv, Qt]
  refine Qa (ZnU s hw) (by simp) ?_
  simp (disch := omega)
  (with_reducible first | refine Qo (fun h1 => ?_) (fun h1 => ?_) | refine Qn (fun h1 => ?_) (fun h1 => ?_))
  · have t := GSys.tab_iff.1 h1
    have h2 := t.lo; have h16 := t.hi
    obtain ⟨n, hn⟩ : ∃ n : Nat, s.size = n := ⟨s.size.toNat, by omega⟩
    rw [GSys.sys_n hn, h1, Bool.true_and]
    simp (disch := omega) [h1]
    refine XH n 0 (fun a t _ => t 3 = N a ∧ YW (fun a => s.sysB n a) a = true) (by simp) (by omega) ?_
    rintro a t1 hh hf ha ⟨e3, hj⟩
    (have e1 := hf 1 (by kernel_rfl); clear hf; simp [] at e1)
    simp (disch := omega) [e1, e3]
    (with_reducible first | refine Qo (fun h3 => ?_) (fun h3 => ?_) | refine Qn (fun h3 => ?_) (fun h3 => ?_))
    · have hGa := GSys.Glt h3
      simp only [Qi, Qg, Ql, Qk, Qe, Qc, Bool.not_true, Bool.not_false] at h3
      simp (disch := omega) [e1, e3]
      refine Qa (l1One_ok t hGa) (by simp) ?_
      simp (disch := omega) [e1, e3]
      (with_reducible first | refine Qo (fun h4 => ?_) (fun h4 => ?_) | refine Qn (fun h4 => ?_) (fun h4 => ?_))
      · simp (disch := omega) [e1, e3]
        refine Wf n 0 (fun b t _ => t 4 = N b ∧ YW (fun b => s.sysC n a b) b = true) (fun t h => YW (fun b => s.sysC n a b) n = true) (by simp) (by omega) ?_ ?_
        · rintro b t2 hh hf2 hb ⟨e4, hj2⟩
          (have f1 := hf2 1 (by kernel_rfl); have f3 := hf2 3 (by kernel_rfl); clear hf2; simp [e1, e3] at f1 f3)
          simp (disch := omega) [f1, f3, e4]
          (with_reducible first | refine Qo (fun h5 => ?_) (fun h5 => ?_) | refine Qn (fun h5 => ?_) (fun h5 => ?_))
          · have hGb := GSys.Glt h5
            simp only [Qi, Qg, Ql, Qk, Qe, Qc, Bool.not_true, Bool.not_false] at h5
            simp (disch := omega) [f1, f3, e4]
            refine Qa (l1Two_ok t hGa hGb) (by simp) ?_
            simp (disch := omega) [f1, f3, e4]
            (with_reducible first | refine Qo (fun h6 => ?_) (fun h6 => ?_) | refine Qn (fun h6 => ?_) (fun h6 => ?_))
            · simp (disch := omega) [f1, f3, e4]
              refine Wf n 0 (fun c t _ => t 5 = N c ∧ YW (fun c => s.three a b c) c = true) (fun t h => YW (fun c => s.three a b c) n = true) (by simp) (by omega) ?_ ?_
              · rintro c t3 hh hf3 hc ⟨e5, hj3⟩
                (have g1 := hf3 1 (by kernel_rfl); have g3 := hf3 3 (by kernel_rfl); have g4 := hf3 4 (by kernel_rfl); clear hf3; simp [f1, f3, e4] at g1 g3 g4)
                simp (disch := omega) [g1, g3, g4, e5]
                (with_reducible first | refine Qo (fun h7 => ?_) (fun h7 => ?_) | refine Qn (fun h7 => ?_) (fun h7 => ?_))
                · have hGc := GSys.Glt h7
                  simp only [Qi, Qg, Ql, Qk, Qe, Qc, Bool.not_true, Bool.not_false] at h7
                  simp (disch := omega) [g1, g3, g4, e5]
                  repeat' (first
    | with_reducible refine Qa (Zpb t hGa hGb hGc) (by simp) ?_
    | (with_reducible (first | refine Qo (fun hb_ => ?_) (fun hb_ => ?_) | refine Qn (fun hb_ => ?_) (fun hb_ => ?_)) <;> simp (disch := omega) [hb_, g1, g3, g4, e5])
    | simp (disch := omega) [g1, g3, g4, e5])
                  · refine ⟨by omega, Qf (by omega), by simp [WC, hj3, hb_]⟩
                  · exact XD (i := a) (by omega) (by simp [GSys.sysB, h4, XD (p := fun b => s.sysC n a b) (i := b) (n := n) (by omega) (by simp [GSys.sysC, h6, XD (p := fun c => s.three a b c) (i := c) (n := n) (by omega) (by simpa using hb_)])])
                · simp only [Qi, Qg, Ql, Qk, Qe, Qc, Bool.not_true, Bool.not_false] at h7
                  simp (disch := omega) [g1, g3, g4, e5]
                  rw [← hj3, show c = n by omega]
              · rintro t4 hh hf4 hj3
                (have g1 := hf4 1 (by kernel_rfl); have g3 := hf4 3 (by kernel_rfl); have g4 := hf4 4 (by kernel_rfl); clear hf4; simp [f1, f3, e4] at g1 g3 g4)
                simp (disch := omega) [g1, g3, g4]
                exact ⟨by omega, Qf (by omega), by simp [WC, hj2, show s.sysC n a b = true by simp [GSys.sysC, h6, hj3]]⟩
            · simp (disch := omega)
              exact XD (i := a) (by omega) (by simp [GSys.sysB, h4, XD (p := fun b => s.sysC n a b) (i := b) (n := n) (by omega) (by simp_all [GSys.sysC])])
          · simp only [Qi, Qg, Ql, Qk, Qe, Qc, Bool.not_true, Bool.not_false] at h5
            simp (disch := omega) [f1, f3, e4]
            rw [← hj2, show b = n by omega]
        · rintro t2 hh hf2 hj2
          (have f1 := hf2 1 (by kernel_rfl); have f3 := hf2 3 (by kernel_rfl); clear hf2; simp [e1, e3] at f1 f3)
          simp (disch := omega) [f1, f3]
          exact ⟨by omega, Qf (by omega), by simp [WC, hj, show s.sysB n a = true by simp [GSys.sysB, h4, hj2]]⟩
      · simp (disch := omega)
        exact XD (i := a) (by omega) (by simp_all [GSys.sysB])
    · simp only [Qi, Qg, Ql, Qk, Qe, Qc, Bool.not_true, Bool.not_false] at h3
      simp (disch := omega) [e1, e3]
      rw [← hj, show a = n by omega]
  · simp_all [GSys.sys]
end Go.Proofs.YtclfngbealdbgaaGreat
namespace Go.Proofs.YtclfngbealdbgaaGreat
open Go Go.TL
set_option linter.unusedSimpArgs false
set_option linter.unusedVariables false
set_option maxRecDepth 20000
set_option maxHeartbeats 4000000
theorem ZbQ (s : GSys) (hw : s.wf) : Qd Tryz.prog Je [s.lv] (· = B s.sys) := by
  refine Qd.of_codeOf Zhh Qz (by simp) ⟨_, rfl, by simp⟩ ?_
  simp (disch := omega) [ZbM, Qv, Qt]
  refine Qa (ZI _ _ _) (by simp) ?_
  simp (disch := omega)
  (with_reducible first | refine Qo (fun h1 => ?_) (fun h1 => ?_) | refine Qn (fun h1 => ?_) (fun h1 => ?_))
  · obtain ⟨h2, h3, h4, h5⟩ := GSys.sq (s := s) h1
    simp (disch := omega) [h1, Qf]
    repeat' (first
    | (with_reducible (first | refine Qo (fun hb_ => ?_) (fun hb_ => ?_) | refine Qn (fun hb_ => ?_) (fun hb_ => ?_)) <;> simp (disch := omega) [hb_, h1, Qf])
    | simp (disch := omega) [h1, Qf])
    all_goals try (simp_all [GSys.tabB, GSys.sys]; done)
    · rename_i g1 g2
      have e0 : s.tabB = YW s.cell s.plus.length := by simp [GSys.tabB, h1, g1, g2, hb_]
      all_goals (try simp only [Qi, Qg, Ql, Qk, Qe, Qc, Bool.not_true, Bool.not_false] at *)
      refine Wf s.plus.length 0 (fun i t _ => t 43 = N i ∧ YW s.cell i = true) (fun _ _ => s.tabB = true) (by simp) (by omega) ?_ ?_
      · rintro i t1 hh hf hi ⟨e3, hj⟩
        (have e1 := hf 1 (by kernel_rfl); have e42 := hf 42 (by kernel_rfl); clear hf; simp [] at e1 e42)
        simp (disch := omega) [e1, e42, e3]
        (with_reducible first | refine Qo (fun h6 => ?_) (fun h6 => ?_) | refine Qn (fun h6 => ?_) (fun h6 => ?_))
        · simp only [Qi, Qg, Ql, Qk, Qe, Qc, Bool.not_true, Bool.not_false] at h6
          simp (disch := omega) [e1, e3, e42, Qf, Xh]
          have ec : s.cell i = (QW (s.plus[i]'(by omega)) 0 (s.size - 1) && QW (s.times[i]'(by omega)) 0 (s.size - 1)) := by
            simp [GSys.cell, show i < s.plus.length by omega, show i < s.times.length by omega]
          have hlo : -9223372036854775808 < s.size := by omega
          have hI : I64 s.size := hw.1
          repeat' (first
    | with_reducible refine Qa (ZiN s hI hlo _) (by simp) ?_
    | (with_reducible (first | refine Qo (fun hb_ => ?_) (fun hb_ => ?_) | refine Qn (fun hb_ => ?_) (fun hb_ => ?_)) <;> simp (disch := omega) [hb_, e1, e3, e42, Qf, Xh])
    | simp (disch := omega) [e1, e3, e42, Qf, Xh])
          · refine ⟨by omega, by simp_all [WC]⟩
          · simp only [GSys.sys, e0, XD (p := s.cell) (i := i) (n := s.plus.length) (by omega) (by simp_all)]; simp
          · simp only [GSys.sys, e0, XD (p := s.cell) (i := i) (n := s.plus.length) (by omega) (by simp_all)]; simp
        · simp only [Qi, Qg, Ql, Qk, Qe, Qc, Bool.not_true, Bool.not_false] at h6
          simp (disch := omega) [e1, e3, e42]
          rw [e0, ← hj, show i = s.plus.length by omega]
      · rintro t0 hh hf0 ht
        (have d1 := hf0 1 (by kernel_rfl); have d3 := hf0 3 (by kernel_rfl); clear hf0; simp [] at d1 d3)
        simp (disch := omega) [d1, d3]
        have t := GSys.tab_iff.1 ht
        obtain ⟨n, hn⟩ : ∃ n : Nat, s.size = n := ⟨s.size.toNat, by omega⟩
        rw [GSys.sys_n hn, ht, Bool.true_and]
        refine XH n 0 (fun a t _ => t 5 = N a ∧ YW (fun a => s.sysB n a) a = true) (by simp) (by omega) ?_
        rintro a t1 hh hf ha ⟨e5, hj⟩
        (have e1 := hf 1 (by kernel_rfl); have e3 := hf 3 (by kernel_rfl); clear hf; simp [d1, d3] at e1 e3)
        simp (disch := omega) [e1, e3, e5]
        (with_reducible first | refine Qo (fun h6 => ?_) (fun h6 => ?_) | refine Qn (fun h6 => ?_) (fun h6 => ?_))
        · have hGa := GSys.Glt h6
          simp only [Qi, Qg, Ql, Qk, Qe, Qc, Bool.not_true, Bool.not_false] at h6
          simp (disch := omega) [e1, e3, e5]
          refine Qa (Zdf t (GSys.G0 t) hGa) (by simp) ?_
          refine Zfz (fun t h => t 107 = B (!s.one a)) ?_ ?_
          · repeat' (first
    | with_reducible refine Qa (Zca t (by first | assumption | exact GSys.Gpl t _ _ | exact GSys.Gtm t _ _ | exact GSys.Glt (by assumption) | exact GSys.G0 t | exact GSys.G1 t) (by first | assumption | exact GSys.Gpl t _ _ | exact GSys.Gtm t _ _ | exact GSys.Glt (by assumption) | exact GSys.G0 t | exact GSys.G1 t)) (by simp) ?_
    | with_reducible refine Qa (JU t (by first | assumption | exact GSys.Gpl t _ _ | exact GSys.Gtm t _ _ | exact GSys.Glt (by assumption) | exact GSys.G0 t | exact GSys.G1 t) (by first | assumption | exact GSys.Gpl t _ _ | exact GSys.Gtm t _ _ | exact GSys.Glt (by assumption) | exact GSys.G0 t | exact GSys.G1 t)) (by simp) ?_
    | (with_reducible (first | refine Qo (fun hb_ => ?_) (fun hb_ => ?_) | refine Qn (fun hb_ => ?_) (fun hb_ => ?_)) <;> simp (disch := omega) [hb_, e1, e3, e5])
    | simp (disch := omega) [e1, e3, e5])
            all_goals simp_all [GSys.one]
          · rintro t2 hh hf e107
            (have f1 := hf 1 (by kernel_rfl); have f3 := hf 3 (by kernel_rfl); have f5 := hf 5 (by kernel_rfl); clear hf; simp [e1, e3, e5] at f1 f3 f5)
            simp (disch := omega) [e107]
            (with_reducible first | refine Qo (fun h7 => ?_) (fun h7 => ?_) | refine Qn (fun h7 => ?_) (fun h7 => ?_))
            · simp (disch := omega)
              refine Wf n 0 (fun b t _ => t 6 = N b ∧ YW (fun b => s.sysC n a b) b = true) (fun t h => YW (fun b => s.sysC n a b) n = true) (by simp) (by omega) ?_ ?_
              · rintro b t3 hh hf hb ⟨g6, hj2⟩
                (have g1 := hf 1 (by kernel_rfl); have g3 := hf 3 (by kernel_rfl); have g5 := hf 5 (by kernel_rfl); clear hf; simp [f1, f3, f5] at g1 g3 g5)
                simp (disch := omega) [g1, g3, g5, g6]
                (with_reducible first | refine Qo (fun h8 => ?_) (fun h8 => ?_) | refine Qn (fun h8 => ?_) (fun h8 => ?_))
                · have hGb := GSys.Glt h8
                  simp only [Qi, Qg, Ql, Qk, Qe, Qc, Bool.not_true, Bool.not_false] at h8
                  simp (disch := omega) [g1, g3, g5, g6]
                  refine Qa (Zdf t hGa hGb) (by simp) ?_
                  refine Zfz (fun t h => t 145 = B (!s.two a b)) ?_ ?_
                  · repeat' (first
    | with_reducible refine Qa (Zdf t (by first | assumption | exact GSys.Gpl t _ _ | exact GSys.Gtm t _ _ | exact GSys.Glt (by assumption) | exact GSys.G0 t | exact GSys.G1 t) (by first | assumption | exact GSys.Gpl t _ _ | exact GSys.Gtm t _ _ | exact GSys.Glt (by assumption) | exact GSys.G0 t | exact GSys.G1 t)) (by simp) ?_
    | with_reducible refine Qa (JU t (by first | assumption | exact GSys.Gpl t _ _ | exact GSys.Gtm t _ _ | exact GSys.Glt (by assumption) | exact GSys.G0 t | exact GSys.G1 t) (by first | assumption | exact GSys.Gpl t _ _ | exact GSys.Gtm t _ _ | exact GSys.Glt (by assumption) | exact GSys.G0 t | exact GSys.G1 t)) (by simp) ?_
    | with_reducible refine Qa (ZpE t (by first | assumption | exact GSys.Gpl t _ _ | exact GSys.Gtm t _ _ | exact GSys.Glt (by assumption) | exact GSys.G0 t | exact GSys.G1 t) (by first | assumption | exact GSys.Gpl t _ _ | exact GSys.Gtm t _ _ | exact GSys.Glt (by assumption) | exact GSys.G0 t | exact GSys.G1 t)) (by simp) ?_
    | (with_reducible (first | refine Qo (fun hb_ => ?_) (fun hb_ => ?_) | refine Qn (fun hb_ => ?_) (fun hb_ => ?_)) <;> simp (disch := omega) [hb_, g1, g3, g5, g6])
    | simp (disch := omega) [g1, g3, g5, g6])
                    all_goals simp_all [GSys.two, Zbt]
                  · rintro t4 hh hf e145
                    (have q1 := hf 1 (by kernel_rfl); have q3 := hf 3 (by kernel_rfl); have q5 := hf 5 (by kernel_rfl); have q6 := hf 6 (by kernel_rfl); clear hf; simp [g1, g3, g5, g6] at q1 q3 q5 q6)
                    simp (disch := omega) [e145]
                    (with_reducible first | refine Qo (fun h9 => ?_) (fun h9 => ?_) | refine Qn (fun h9 => ?_) (fun h9 => ?_))
                    · simp (disch := omega)
                      refine Wf n 0 (fun c t _ => t 7 = N c ∧ YW (fun c => s.three a b c) c = true) (fun t h => YW (fun c => s.three a b c) n = true) (by simp) (by omega) ?_ ?_
                      · rintro c t3 hh hf hc ⟨r7, hj3⟩
                        (have r1 := hf 1 (by kernel_rfl); have r3 := hf 3 (by kernel_rfl); have r5 := hf 5 (by kernel_rfl); have r6 := hf 6 (by kernel_rfl); clear hf; simp [q1, q3, q5, q6] at r1 r3 r5 r6)
                        simp (disch := omega) [r1, r3, r5, r6, r7]
                        (with_reducible first | refine Qo (fun h10 => ?_) (fun h10 => ?_) | refine Qn (fun h10 => ?_) (fun h10 => ?_))
                        · have hGc := GSys.Glt h10
                          simp only [Qi, Qg, Ql, Qk, Qe, Qc, Bool.not_true, Bool.not_false] at h10
                          simp (disch := omega) [r1, r3, r5, r6, r7]
                          repeat' (first
    | with_reducible refine Qa (ZqE t hGa hGb hGc) (by simp) ?_
    | (with_reducible (first | refine Qo (fun hb_ => ?_) (fun hb_ => ?_) | refine Qn (fun hb_ => ?_) (fun hb_ => ?_)) <;> simp (disch := omega) [hb_, r1, r3, r5, r6, r7])
    | simp (disch := omega) [r1, r3, r5, r6, r7])
                          · refine ⟨by omega, Qf (by omega), by simp [WC, hj3, hb_]⟩
                          · exact XD (i := a) (by omega) (by simp [GSys.sysB, h7, XD (p := fun b => s.sysC n a b) (i := b) (n := n) (by omega) (by simp [GSys.sysC, h9, XD (p := fun c => s.three a b c) (i := c) (n := n) (by omega) (by simpa using hb_)])])
                        · simp only [Qi, Qg, Ql, Qk, Qe, Qc, Bool.not_true, Bool.not_false] at h10
                          simp (disch := omega)
                          rw [← hj3, show c = n by omega]
                      · rintro t4 hh hf hj3
                        (have r1 := hf 1 (by kernel_rfl); have r3 := hf 3 (by kernel_rfl); have r5 := hf 5 (by kernel_rfl); have r6 := hf 6 (by kernel_rfl); clear hf; simp [q1, q3, q5, q6] at r1 r3 r5 r6)
                        simp (disch := omega) [r1, r3, r5, r6]
                        exact ⟨by omega, Qf (by omega), by simp [WC, hj2, show s.sysC n a b = true by simp [GSys.sysC, h9, hj3]]⟩
                    · simp (disch := omega)
                      exact XD (i := a) (by omega) (by simp [GSys.sysB, h7, XD (p := fun b => s.sysC n a b) (i := b) (n := n) (by omega) (by simp_all [GSys.sysC])])
                · simp only [Qi, Qg, Ql, Qk, Qe, Qc, Bool.not_true, Bool.not_false] at h8
                  simp (disch := omega)
                  rw [← hj2, show b = n by omega]
              · rintro t4 hh hf hj2
                (have r1 := hf 1 (by kernel_rfl); have r3 := hf 3 (by kernel_rfl); have r5 := hf 5 (by kernel_rfl); clear hf; simp [f1, f3, f5] at r1 r3 r5)
                simp (disch := omega) [r1, r3, r5]
                exact ⟨by omega, Qf (by omega), by simp [WC, hj, show s.sysB n a = true by simp [GSys.sysB, h7, hj2]]⟩
            · simp (disch := omega)
              exact XD (i := a) (by omega) (by simp_all [GSys.sysB])
        · simp only [Qi, Qg, Ql, Qk, Qe, Qc, Bool.not_true, Bool.not_false] at h6
          simp (disch := omega)
          rw [← hj, show a = n by omega]
  · simp_all [GSys.tabB, GSys.sys]
end Go.Proofs.YtclfngbealdbgaaGreat
namespace Go.Proofs.YtclfngbealdbgaaGreat
open Go Go.TL
open Go.Proofs.YtclfngbealdbgaaGreat.Ty
set_option linter.unusedSimpArgs false
set_option linter.unusedVariables false
set_option maxRecDepth 20000
set_option maxHeartbeats 4000000
def ZbV (nv size : Int) (closed : Bool) (op n : Int) : Bool :=
 if eqB op 0 = true then QW n 0 (nv - 1) else if eqB op 1 = true then QW n 0 2 else if Z0 op = true then ltB n size && (leB (-1) n && (!closed || leB 0 n)) else eqB n 0
def tyB (size : Int) (closed : Bool) (op : Int) (ty : List Int) : Bool := if Xs op = true then wty ty && Zq size closed ty else eqB ty.length 0
def YQ (nv size : Int) (closed : Bool) (op n : Int) (ty : List Int) (len : Nat) : Bool := eqB len (YV op) && (ZbV nv size closed op n && tyB size closed op ty)
mutual
def WE (nv size : Int) (closed : Bool) : GTerm → Bool
 | .mk op n _ ty _ ks => YQ nv size closed op n ty ks.length && WR nv size closed op 0 ks
def WR (nv size : Int) (closed : Bool) (op : Int) (k : Nat) : List GTerm → Bool
 | [] => true
 | t :: ts => WE (nv + Qp op k) size closed t && WR nv size closed op (k + 1) ts
end
theorem Zqr (nv size : Int) (closed : Bool) (t : GTerm) (hw : t.wf) (hs : I64 size) (hv : 0 ≤ nv ∧ nv ≤ 1000000) :
  Qd Tryz.prog Zap [t.lv, N nv, N size, B closed] (· = B (match t with | .mk op n _ ty _ ks => YQ nv size closed op n ty ks.length)) := by
 obtain ⟨op, n, nl1, ty, nl2, ks⟩ := t
 simp only [GTerm.wf] at hw
 obtain ⟨hop, hn, hty, hk, hks⟩ := hw
 refine Qd.of_codeOf Zjw Qz (by simp) ⟨_, rfl, by simp⟩ ?_
 simp (disch := omega) [Zd1, Qv, Qt, GTerm.cells]
 repeat' (first
  | with_reducible refine Qa (ZqX op) (by simp) ?_
  | with_reducible refine Qa (ZfF _ _ _) (by simp) ?_
  | with_reducible refine Qa (l2Has_ok op) (by simp) ?_
  | with_reducible refine Qa (ZoN op) (by simp) ?_
  | with_reducible refine Qa (ZkS nl1 ty hty) (by simp) ?_
  | with_reducible refine Qa (ZgS nl1 ty hty size hs _) (by simp) ?_
  | (with_reducible (first | refine Qo (fun hb_ => ?_) (fun hb_ => ?_) | refine Qn (fun hb_ => ?_) (fun hb_ => ?_)) <;> simp (disch := omega) [hb_, Qf])
  | simp (disch := omega) [Qf])
 all_goals simp_all [YQ, ZbV, tyB, Zbt]
theorem Vq : ∀ (d : Nat) (t : GTerm), t.size ≤ d → t.wf → ∀ left : Int, 0 ≤ left → left ≤ 1000000 → Qd Tryz.prog XE [t.lv, N left] (· = N (ZF t.size left)) := by
 intro d
 induction d with
 | zero => intro t h; have := t.size_pos; omega
 | succ d ih =>
  rintro ⟨op, n, nl1, ty, nl2, ks⟩ hd hw left h0 h1
  simp only [GTerm.wf] at hw
  obtain ⟨hop, hn, hty, hk, hks⟩ := hw
  simp only [GTerm.size, GTerm.lv, GTerm.cells] at hd ⊢
  refine Qd.of_codeOf Zku Qz (by simp) ⟨_, rfl, by simp⟩ ?_
  simp (disch := omega) [Zd4, Qv, Qt, GTerm.cells, Qf]
  refine XH ks.length 0 (fun i t _ => ∃ m : Int, t 5 = N i ∧ t 1 = N m ∧ -1 ≤ m ∧ m ≤ left ∧ ZF (WX ks + 1) left = ZF (WX (ks.drop i)) m) ⟨left - 1, by simp, by simp, by omega, by omega, by unfold ZF; simp; split <;> split <;> omega⟩ (by omega) ?_
  rintro i t1 hh hf hi ⟨m, e5, e1, hm, hml, he⟩
  (have e2 := hf 2 (by kernel_rfl); clear hf; simp [] at e2)
  simp (disch := omega) [e1, e2, e5]
  (with_reducible first | refine Qo (fun h6 => ?_) (fun h6 => ?_) | refine Qn (fun h6 => ?_) (fun h6 => ?_))
  ·simp (disch := omega) [e1, e2, e5, h6]
   simp only [Qi, Qg, Ql, Qk, Qe, Qc, Bool.not_true, Bool.not_false] at h6
   have hsd := Zeo (ks := ks) (i := i) (by omega)
   have hsk := Yt (ks := ks) (i := i) (by omega)
   have hwk : (ks[i]'(by omega)).wf := V7.1 hks _ (List.getElem_mem _)
   (with_reducible first | refine Qo (fun h7 => ?_) (fun h7 => ?_) | refine Qn (fun h7 => ?_) (fun h7 => ?_))
   ·simp only [Qi, Qg, Ql, Qk, Qe, Qc, Bool.not_true, Bool.not_false] at h7
    have hc := ih (ks[i]'(by omega)) (by omega) hwk m h7 (by omega)
    simp (disch := omega) [e1, e2, e5, ZdL]
    repeat' (first
  | with_reducible refine Qa (hc) (by simp) ?_
  | (with_reducible (first | refine Qo (fun hb_ => ?_) (fun hb_ => ?_) | refine Qn (fun hb_ => ?_) (fun hb_ => ?_)) <;> simp (disch := omega) [hb_, e1, e2, e5])
  | simp (disch := omega) [e1, e2, e5])
    rw [he, hsd]
    refine ⟨by omega, Qf (by omega), ?_⟩
    unfold ZF; repeat' split
    all_goals omega
   ·simp only [Qi, Qg, Ql, Qk, Qe, Qc, Bool.not_true, Bool.not_false] at h7
    simp (disch := omega) [e1, e2, e5]
    rw [he, show m = -1 by omega]; unfold ZF; split <;> omega
  ·simp (disch := omega) [e1, e2, e5, h6]
   simp only [Qi, Qg, Ql, Qk, Qe, Qc, Bool.not_true, Bool.not_false] at h6
   rw [he, show i = ks.length by omega, List.drop_length]; simp [WX, ZF]; try omega
theorem ZkJ (size : Int) (closed : Bool) (hs : I64 size) : ∀ (d : Nat) (t : GTerm), t.size ≤ d → t.wf → ∀ nv : Int, 0 ≤ nv → nv + 2 * t.size ≤ 1000000 → Qd Tryz.prog Z8 [t.lv, N nv, N size, B closed] (· = B (WE nv size closed t)) := by
 intro d
 induction d with
 | zero => intro t h; have := t.size_pos; omega
 | succ d ih =>
  rintro ⟨op, n, nl1, ty, nl2, ks⟩ hd hw nv h0 h1
  have hN := Zqr nv size closed (.mk op n nl1 ty nl2 ks) hw hs ⟨h0, by omega⟩
  simp only [GTerm.wf] at hw
  obtain ⟨hop, hn, hty, hk, hks⟩ := hw
  simp only [GTerm.size, GTerm.lv, GTerm.cells] at hd h1 hN ⊢
  refine Qd.of_codeOf Zjz Qz (by simp) ⟨_, rfl, by simp⟩ ?_
  simp (disch := omega) [Zd5, Qv, Qt, GTerm.cells]
  refine Qa hN (by simp) ?_
  simp (disch := omega)
  (with_reducible first | refine Qo (fun h3 => ?_) (fun h3 => ?_) | refine Qn (fun h3 => ?_) (fun h3 => ?_))
  ·simp (disch := omega)
   refine XH ks.length 0 (fun i t _ => t 9 = N i ∧ WE nv size closed (.mk op n nl1 ty nl2 ks) = WR nv size closed op i (ks.drop i)) (by simp [WE, h3]) (by omega) ?_
   rintro i t1 hh hf hi ⟨e9, he⟩
   (have e1 := hf 1 (by kernel_rfl); have e2 := hf 2 (by kernel_rfl); have e3 := hf 3 (by kernel_rfl); have e4 := hf 4 (by kernel_rfl); clear hf; simp [] at e1 e2 e3 e4)
   simp (disch := omega) [e1, e2, e3, e4, e9]
   (with_reducible first | refine Qo (fun h6 => ?_) (fun h6 => ?_) | refine Qn (fun h6 => ?_) (fun h6 => ?_))
   ·simp only [Qi, Qg, Ql, Qk, Qe, Qc, Bool.not_true, Bool.not_false] at h6
    have hsk := Yt (ks := ks) (i := i) (by omega)
    have hwk : (ks[i]'(by omega)).wf := V7.1 hks _ (List.getElem_mem _)
    have hA : 0 ≤ Qp op i ∧ Qp op i ≤ 2 := by (unfold Qp; repeat' split) <;> omega
    have hc := ih (ks[i]'(by omega)) (by omega) hwk (nv + Qp op i) (by omega) (by omega)
    have hfd : WR nv size closed op i (ks.drop i) = (WE (nv + Qp op i) size closed (ks[i]'(by omega)) && WR nv size closed op (i + 1) (ks.drop (i + 1))) := by
     rw [List.drop_eq_getElem_cons (by omega), WR]
    simp (disch := omega) [e1, e2, e3, e4, e9, ZdL]
    repeat' (first
  | with_reducible refine Qa (Zdn op i) (by simp) ?_
  | with_reducible refine Qa (hc) (by simp) ?_
  | (with_reducible (first | refine Qo (fun hb_ => ?_) (fun hb_ => ?_) | refine Qn (fun hb_ => ?_) (fun hb_ => ?_)) <;> simp (disch := omega) [hb_, e1, e2, e3, e4, e9, Qf])
  | simp (disch := omega) [e1, e2, e3, e4, e9, Qf])
    ·exact ⟨by omega, by rw [he, hfd, hb_, Bool.true_and]⟩
    ·rw [he, hfd, hb_, Bool.false_and]
   ·simp only [Qi, Qg, Ql, Qk, Qe, Qc, Bool.not_true, Bool.not_false] at h6
    simp (disch := omega) [e1, e2]
    rw [he, show i = ks.length by omega, List.drop_length]; simp [WR]
  ·simp (disch := omega)
   simp [WE, h3]
end Go.Proofs.YtclfngbealdbgaaGreat
namespace Go.Proofs.YtclfngbealdbgaaGreat
open Go Go.TL
open Go.Proofs.YtclfngbealdbgaaGreat.Ty
set_option linter.unusedSimpArgs false
set_option linter.unusedVariables false
set_option linter.unusedSectionVars false
set_option maxRecDepth 20000
set_option maxHeartbeats 4000000
def FnB (P : Program) (f v : LV) (b : Bool) : Prop := ∃ fid vals, YN f [v] = some (fid, vals) ∧ QE 0 vals ∧ Qd P fid vals (· = B b)
theorem Zlj {P : Program} {f v : LV} {b : Bool} {d : Nat} {K : St → Prop} {s : St} (h : FnB P f v b) (hk : K { t := upd s.t d (B b), h := s.h }) : onFn P .no f [v] (some d) K s := by
 obtain ⟨fid, vals, h1, h2, h3⟩ := h
 exact ⟨fid, vals, h1, Qa (rw := .no) h3 h2 hk⟩
def numG (pg : Int → Bool) (nv : Int) (op n : Int) : Bool :=
 if eqB op 0 = true then QW n 0 (nv - 1) else if eqB op 1 = true then QW n 0 2 else if Z0 op = true then pg n else eqB n 0
def tyG (pt : List Int → Bool) (op : Int) (ty : List Int) : Bool := if Xs op = true then pt ty else eqB ty.length 0
def ZhK (pg : Int → Bool) (pt : List Int → Bool) (nv : Int) (op n : Int) (ty : List Int) (len : Nat) : Bool := eqB len (YV op) && (numG pg nv op n && tyG pt op ty)
mutual
def Zdz (pg : Int → Bool) (pt : List Int → Bool) (nv : Int) : GTerm → Bool
 | .mk op n _ ty _ ks => ZhK pg pt nv op n ty ks.length && Zav pg pt nv op 0 ks
def Zav (pg : Int → Bool) (pt : List Int → Bool) (nv : Int) (op : Int) (k : Nat) : List GTerm → Bool
 | [] => true
 | t :: ts => Zdz pg pt (nv + Qp op k) t && Zav pg pt nv op (k + 1) ts
end
section
variable {pg : Int → Bool} {pt : List Int → Bool} {size : Int} {closed : Bool} (hg : ∀ n, pg n = (ltB n size && (leB (-1) n && (!closed || leB 0 n)))) (ht : ∀ ty, pt ty = (wty ty && Zq size closed ty))
include hg ht
mutual
theorem ZhN : ∀ (t : GTerm) (nv : Int), Zdz pg pt nv t = WE nv size closed t
 | .mk op n nl1 ty nl2 ks, nv => by
  simp only [Zdz, WE, ZkL ks, ZhK, YQ, numG, ZbV, tyG, tyB, hg, ht]
theorem ZkL : ∀ (ks : List GTerm) (nv op : Int) (k : Nat), Zav pg pt nv op k ks = WR nv size closed op k ks
 | [], _, _, _ => by simp [Zav, WR]
 | t :: ts, nv, op, k => by simp only [Zav, WR, ZhN t, ZkL ts]
end
end
def Zdv (f : Bool) (nodes : Int) (sz : Nat) : Int := if f = true ∧ nodes + sz ≤ 400 then nodes + sz else 401
theorem Zle {op : Int} (h : QW op 0 12 = false) : YV op = -1 := by
 rw [ZfK] at h
 unfold YV; repeat' split
 all_goals omega
theorem Zpt {op : Int} {n : Nat} (h : eqB n (YV op) = true) : QW op 0 12 = true := by
 cases hc : QW op 0 12 with
 | true => rfl
 | false => rw [Zle hc, Qe] at h; omega
theorem ZnK (fg ft : LV) (pg : Int → Bool) (pt : List Int → Bool) (sg : share fg = fg) (st : share ft = ft) (lg : Low 0 fg) (lt : Low 0 ft)
    (hg : ∀ n, I64 n → FnB Tryz.prog fg (N n) (pg n)) (ht : ∀ nl ty, Lok ty → FnB Tryz.prog ft (L nl ty) (pt ty)) : ∀ (d : Nat) (t : GTerm), t.size ≤ d → t.wf → ∀ nv nodes : Int, 0 ≤ nodes → nodes ≤ 400 → 0 ≤ nv → nv ≤ 8 + 2 * nodes →
    Qd Tryz.prog JH [t.lv, N nv, fg, ft, N nodes] (· = N (Zdv (Zdz pg pt nv t) nodes t.size)) := by
  intro d
  induction d with
  | zero => intro t h; have := t.size_pos; omega
  | succ d ih =>
    rintro ⟨op, n, nl1, ty, nl2, ks⟩ hd hw nv nodes h0 h1 h2 h3
    simp only [GTerm.wf] at hw
    obtain ⟨hop, hn, hty, hk, hks⟩ := hw
    simp only [GTerm.size, GTerm.lv, GTerm.cells] at hd ⊢
    refine Qd.of_codeOf Zmq Qz (by simp) ⟨_, rfl, by simp⟩ ?_
    simp (disch := omega) [Zfe, Qv, Qt, GTerm.cells, Qf, sg, st]
    refine Qa (ZqY op) (by simp) ?_
    by_cases hf : QW op 0 12 = true
    · rw [Zh3, if_pos hf]
      simp (disch := omega) [sg, st]
      (with_reducible first | refine Qo (fun h4 => ?_) (fun h4 => ?_) | refine Qn (fun h4 => ?_) (fun h4 => ?_))
      · simp (disch := omega) [h4]
        simp only [Qi, Qg, Ql, Qk, Qe, Qc, Bool.not_true, Bool.not_false] at h4
        unfold Zdv; rw [if_neg (by omega)]
      · simp (disch := omega) [h4]
        simp only [Qi, Qg, Ql, Qk, Qe, Qc, Bool.not_true, Bool.not_false] at h4
        (with_reducible first | refine Qo (fun h5 => ?_) (fun h5 => ?_) | refine Qn (fun h5 => ?_) (fun h5 => ?_))
        · simp only [wpC_skip, ZmS]
          refine Zdl (fun t h => t 12 = B (numG pg nv op n) ∧ h[1]? = some (some [wordV op, N (YV op), B (Z0 op), B (Xs op)])) ?_ ?_
          · repeat' (first
    | with_reducible refine Qa (ZI _ _ _) (by simp) ?_
    | with_reducible refine Zlj (hg n hn) ?_
    | (with_reducible (first | refine Qo (fun hb_ => ?_) (fun hb_ => ?_) | refine Qn (fun hb_ => ?_) (fun hb_ => ?_)) <;> simp (disch := omega) [hb_, sg, st, Qf])
    | simp (disch := omega) [sg, st, Qf])
            all_goals simp_all [numG]
          · rintro t1 hh hf1 ⟨e12, eh⟩
            (have e1 := hf1 1 (by kernel_rfl); have e2 := hf1 2 (by kernel_rfl); have e3 := hf1 3 (by kernel_rfl); have e4 := hf1 4 (by kernel_rfl); have e5 := hf1 5 (by kernel_rfl); have e11 := hf1 11 (by kernel_rfl); clear hf1; simp [sg, st] at e1 e2 e3 e4 e5 e11)
            obtain ⟨q, hq⟩ : ∃ q, (numG pg nv op n && tyG pt op ty) = q := ⟨_, rfl⟩
            refine Zdl (fun t h => t 12 = B q) ?_ ?_
            · repeat' (first
    | with_reducible refine Zlj (ht nl1 ty hty) ?_
    | (with_reducible (first | refine Qo (fun hb_ => ?_) (fun hb_ => ?_) | refine Qn (fun hb_ => ?_) (fun hb_ => ?_)) <;> simp (disch := omega) [hb_, sg, st, e1, e2, e3, e4, e5, e11, e12, eh])
    | simp (disch := omega) [sg, st, e1, e2, e3, e4, e5, e11, e12, eh])
              all_goals rw [← hq]
              all_goals simp_all [tyG]
            · rintro t2 hh hf1 f12
              (have f1 := hf1 1 (by kernel_rfl); have f2 := hf1 2 (by kernel_rfl); have f3 := hf1 3 (by kernel_rfl); have f4 := hf1 4 (by kernel_rfl); have f5 := hf1 5 (by kernel_rfl); clear hf1; simp [e1, e2, e3, e4, e5] at f1 f2 f3 f4 f5)
              simp (disch := omega) [f12]
              (with_reducible first | refine Qo (fun h6 => ?_) (fun h6 => ?_) | refine Qn (fun h6 => ?_) (fun h6 => ?_))
              · have hN : ZhK pg pt nv op n ty ks.length = true := by simp only [ZhK, h5, hq, h6, Bool.true_and]
                simp (disch := omega) [f1, f2, f3, f4, f5]
                refine XH ks.length 0 (fun i t _ => ∃ nd : Int, t 84 = N i ∧ t 4 = N nd ∧ nodes + 1 ≤ nd ∧ nd ≤ 400 ∧ Zdv (Zdz pg pt nv (.mk op n nl1 ty nl2 ks)) nodes (WX ks + 1) = Zdv (Zav pg pt nv op i (ks.drop i)) nd (WX (ks.drop i)))
                  ⟨nodes + 1, by simp, by simp [f4], by omega, by omega, ?_⟩ (by omega) ?_
                · simp only [Zdz, hN, Bool.true_and, List.drop_zero, Zdv]
                  congr 1 <;> grind
                rintro i t3 hh hf1 hi ⟨nd, g84, g4, hnd, hnd2, he⟩
                (have g1 := hf1 1 (by kernel_rfl); have g2 := hf1 2 (by kernel_rfl); have g3 := hf1 3 (by kernel_rfl); have g5 := hf1 5 (by kernel_rfl); have g82 := hf1 82 (by kernel_rfl); have g83 := hf1 83 (by kernel_rfl); clear hf1; simp [f1, f2, f3, f5] at g1 g2 g3 g5 g82 g83)
                simp (disch := omega) [g1, g2, g3, g4, g5, g82, g83, g84]
                (with_reducible first | refine Qo (fun h7 => ?_) (fun h7 => ?_) | refine Qn (fun h7 => ?_) (fun h7 => ?_))
                · simp only [Qi, Qg, Ql, Qk, Qe, Qc, Bool.not_true, Bool.not_false] at h7
                  have hsd := Zeo (ks := ks) (i := i) (by omega)
                  have hsk := Yt (ks := ks) (i := i) (by omega)
                  have hwk : (ks[i]'(by omega)).wf := V7.1 hks _ (List.getElem_mem _)
                  have hA : 0 ≤ Qp op i ∧ Qp op i ≤ 2 := by (unfold Qp; repeat' split) <;> omega
                  have hc := ih (ks[i]'(by omega)) (by omega) hwk (nv + Qp op i) nd (by omega) (by omega) (by omega) (by omega)
                  have hfd : Zav pg pt nv op i (ks.drop i) = (Zdz pg pt (nv + Qp op i) (ks[i]'(by omega)) && Zav pg pt nv op (i + 1) (ks.drop (i + 1))) := by
                    rw [List.drop_eq_getElem_cons (by omega), Zav]
                  simp (disch := omega) [g1, g2, g3, g4, g5, g82, g83, g84, ZdL, sg, st]
                  repeat' (first
    | with_reducible refine Qa (Zhr op i) (by simp) ?_
    | with_reducible refine Qa hc (by simp [lg, lt]) ?_
    | (with_reducible (first | refine Qo (fun hb_ => ?_) (fun hb_ => ?_) | refine Qn (fun hb_ => ?_) (fun hb_ => ?_)) <;> simp (disch := omega) [hb_, g1, g2, g3, g4, g5, g82, g83, g84, Qf, sg, st])
    | simp (disch := omega) [g1, g2, g3, g4, g5, g82, g83, g84, Qf, sg, st])
                  all_goals simp only [Qi, Qg, Ql, Qk, Qe, Qc, Bool.not_true, Bool.not_false] at hb_
                  all_goals rw [he, hfd, hsd]
                  · unfold Zdv at hb_ ⊢
                    grind
                  · refine ⟨by omega, ?_⟩
                    unfold Zdv at hb_ ⊢
                    grind
                · simp only [Qi, Qg, Ql, Qk, Qe, Qc, Bool.not_true, Bool.not_false] at h7
                  simp (disch := omega) [g4]
                  rw [he, show i = ks.length by omega, List.drop_length]; simp [Zav, Zdv, WX]; omega
              · simp (disch := omega)
                unfold Zdv Zdz ZhK; rw [hq]; simp [h5, h6]
        · simp (disch := omega)
          unfold Zdv Zdz ZhK; simp [h5]
    · simp only [Bool.not_eq_true] at hf
      rw [Zh3, if_neg (by simp [hf])]
      simp (disch := omega) [sg, st]
      unfold Zdv Zdz ZhK
      rw [Zle hf, show eqB (ks.length : Int) (-1) = false by rw [Qc]; omega]
      simp
theorem ZoG {ty : List Int} (h : wty ty = true) : Zq 16 false ty = true := by
 rw [Zq, Yr]
 intro i hi
 have := Zf5 h i hi
 simp only [Yp, okC, W1]
 generalize ty.getD i 0 = c at *
 have h3 : ltB (if 35 ≤ c then -1 else if 19 ≤ c then c - 19 else c - 3) 16 = true := by
  rw [Qi]; repeat' split
  all_goals omega
 rw [h3]; simp
theorem Zgl (n : Int) (h : I64 n) : FnB Tryz.prog (.fn XK []) (N n) (QW n (-1) 15) := by
 refine ⟨XK, [N n], by simp [YN], by simp, ?_⟩
 refine Qd.of_codeOf ZcC Qz (by simp) ⟨_, rfl, by simp⟩ ?_
 simp (disch := omega) [KJ]
 repeat' (first
  | with_reducible refine Qa (ZI _ _ _) (by simp) ?_
  | (with_reducible (first | refine Qo (fun hb_ => ?_) (fun hb_ => ?_) | refine Qn (fun hb_ => ?_) (fun hb_ => ?_)) <;> simp (disch := omega) [hb_])
  | simp (disch := omega))
theorem Zgs (nl : Bool) (ty : List Int) (h : Lok ty) : FnB Tryz.prog (.fn WU []) (L nl ty) (wty ty) :=
 ⟨WU, [L nl ty], by simp [YN], by simp, ZaE nl ty h⟩
def GTerm.writ (t : GTerm) : Bool := decide (t.size ≤ 400) && WE 8 16 false t
theorem Zin (t : GTerm) (hw : t.wf) : Qd Tryz.prog Jl [t.lv] (· = N (Zdv (WE 8 16 false t) 0 t.size)) := by
 refine Qd.of_codeOf Zeg Qz (by simp) ⟨_, rfl, by simp⟩ ?_
 have hc := ZnK (.fn XK []) (.fn WU []) (fun n => QW n (-1) 15) wty (by simp) (by simp) (by simp) (by simp) Zgl Zgs t.size t (by omega) hw 8 0 (by omega) (by omega) (by omega) (by omega)
 rw [ZhN (size := 16) (closed := false) (fun n => by rw [Bool.eq_iff_iff]; simp [QW, Qi, Qg, Ql, Qk, Qe, Qc, Bool.not_true, Bool.not_false]; omega) (fun ty => by
  cases h : wty ty with
  | false => simp
  | true => simp [ZoG h])] at hc
 simp (disch := omega) [Vr, Qv, Qt]
 repeat' (first
  | with_reducible refine Qa (hc) (by simp) ?_
  | (with_reducible (first | refine Qo (fun hb_ => ?_) (fun hb_ => ?_) | refine Qn (fun hb_ => ?_) (fun hb_ => ?_)) <;> simp (disch := omega) [hb_])
  | simp (disch := omega))
theorem J9 (t : GTerm) (hw : t.wf) : Qd Tryz.prog YM [t.lv] (· = B t.writ) := by
 refine Qd.of_codeOf Zf8 Qz (by simp) ⟨_, rfl, by simp⟩ ?_
 have h2 : leB (Zdv (WE 8 16 false t) 0 t.size) 400 = t.writ := by
  rw [Bool.eq_iff_iff]
  simp only [Qi, Qg, Ql, Qk, Qe, Qc, Bool.not_true, Bool.not_false, Zdv, GTerm.writ, Bool.and_eq_true, decide_eq_true_eq]
  split <;> grind
 simp (disch := omega) [ZaK, Qv, Qt]
 repeat' (first
  | with_reducible refine Qa (Zin t hw) (by simp) ?_
  | (with_reducible (first | refine Qo (fun hb_ => ?_) (fun hb_ => ?_) | refine Qn (fun hb_ => ?_) (fun hb_ => ?_)) <;> simp (disch := omega) [hb_, h2])
  | simp (disch := omega) [h2])
theorem Kj (t : GTerm) (hw : t.wf) : Qd Tryz.prog YU [t.lv] (· = B t.writ) := by
 refine Qd.of_codeOf ZfP Qz (by simp) ⟨_, rfl, by simp⟩ ?_
 have hl := Vq t.size t (by omega) hw 400 (by omega) (by omega)
 have h16 : I64 16 := ⟨by omega, by omega⟩
 have h2 : leB 0 (ZF t.size 400) = decide (t.size ≤ 400) := by
  rw [Bool.eq_iff_iff]
  simp only [Qi, Qg, Ql, Qk, Qe, Qc, Bool.not_true, Bool.not_false, ZF, decide_eq_true_eq]
  split <;> omega
 by_cases hs : t.size ≤ 400
 ·have hf := ZkJ 16 false h16 t.size t (by omega) hw 8 (by omega) (by omega)
  simp (disch := omega) [Kh, Qv, Qt]
  repeat' (first
  | with_reducible refine Qa (hl) (by simp) ?_
  | with_reducible refine Qa (hf) (by simp) ?_
  | (with_reducible (first | refine Qo (fun hb_ => ?_) (fun hb_ => ?_) | refine Qn (fun hb_ => ?_) (fun hb_ => ?_)) <;> simp (disch := omega) [hb_, h2])
  | simp (disch := omega) [h2])
  all_goals simp_all [GTerm.writ]
 ·simp (disch := omega) [Kh, Qv, Qt]
  repeat' (first
  | with_reducible refine Qa (hl) (by simp) ?_
  | (with_reducible (first | refine Qo (fun hb_ => ?_) (fun hb_ => ?_) | refine Qn (fun hb_ => ?_) (fun hb_ => ?_)) <;> simp (disch := omega) [hb_, h2])
  | simp (disch := omega) [h2])
  ·simp at hb_; omega
  ·simp_all [GTerm.writ]; omega
end Go.Proofs.YtclfngbealdbgaaGreat
namespace Go.Proofs.YtclfngbealdbgaaGreat
open Go Go.TL
open Go.Proofs.YtclfngbealdbgaaGreat.Ty
set_option linter.unusedSimpArgs false
set_option linter.unusedVariables false
set_option maxRecDepth 20000
set_option maxHeartbeats 4000000
def okT (size : Int) (c : Bool × List Int) : Bool := wty c.2 && Zq size true c.2
def okAt (size : Int) (ctx : Wx) (i : Nat) : Bool := okT size (ctx.getD i (true, []))
theorem ZmR {size : Int} {ctx : Wx} {i : Nat} (h : i < ctx.length) : okAt size ctx i = okT size ctx[i] := by simp [okAt, h]
def Zf3 (size : Int) (ctx : Wx) : Bool := leB ctx.length 8 && YW (okAt size ctx) ctx.length
theorem Zma (s : GSys) (t : s.Tab) (nl : Bool) (ctx : Wx) (hw : ctx.wf) : Qd Tryz.prog Kl [s.lv, LC nl ctx] (· = B (Zf3 s.size ctx)) := by
 refine Qd.of_codeOf Zf7 Qz (by simp) ⟨_, rfl, by simp⟩ ?_
 have h2 := t.lo; have h16 := t.hi
 have hlen := hw.1
 have hI : I64 s.size := ⟨by omega, by omega⟩
 simp (disch := omega) [ZaY, Qv, Qt]
 (with_reducible first | refine Qo (fun h1 => ?_) (fun h1 => ?_) | refine Qn (fun h1 => ?_) (fun h1 => ?_))
 ·simp (disch := omega)
  rw [Zbt] at h1; simp at h1; simp [Zf3, h1]
 ·simp (disch := omega)
  have e8 : Zf3 s.size ctx = YW (okAt s.size ctx) ctx.length := by rw [Zbt] at h1; simp at h1; simp [Zf3, h1]
  rw [e8]
  refine XH ctx.length 0 (fun i t _ => t 5 = N i ∧ YW (okAt s.size ctx) i = true) (by simp) (by omega) ?_
  rintro i t1 hh hf hi ⟨e5, hj⟩
  (have e1 := hf 1 (by kernel_rfl); have e2 := hf 2 (by kernel_rfl); clear hf; simp [] at e1 e2)
  simp (disch := omega) [e1, e2, e5]
  (with_reducible first | refine Qo (fun h6 => ?_) (fun h6 => ?_) | refine Qn (fun h6 => ?_) (fun h6 => ?_))
  ·simp only [Qi, Qg, Ql, Qk, Qe, Qc, Bool.not_true, Bool.not_false] at h6
   have hL : Lok (ctx[i]'(by omega)).2 := hw.2 _ (List.getElem_mem _)
   have ha := ZmR (size := s.size) (ctx := ctx) (i := i) (by omega)
   simp (disch := omega) [e1, e2, e5, ZbN]
   rcases h : ctx[i]'(by omega) with ⟨nl1, ty⟩
   rw [h] at hL ha
   simp only at hL
   repeat' (first
  | with_reducible refine Qa (ZkS nl1 ty hL) (by simp) ?_
  | with_reducible refine Qa (ZgS nl1 ty hL s.size hI true) (by simp) ?_
  | (with_reducible (first | refine Qo (fun hb_ => ?_) (fun hb_ => ?_) | refine Qn (fun hb_ => ?_) (fun hb_ => ?_)) <;> simp (disch := omega) [hb_, e1, e2, e5, ZbN, h])
  | simp (disch := omega) [e1, e2, e5, ZbN, h])
   all_goals first
    | exact ⟨by omega, Qf (by omega), by simp_all [WC, okT]⟩
    | exact (XD (p := okAt s.size ctx) (i := i) (by omega) (by simp_all [okT]))
  ·simp only [Qi, Qg, Ql, Qk, Qe, Qc, Bool.not_true, Bool.not_false] at h6
   simp (disch := omega)
   rw [show i = ctx.length by omega] at hj
   rw [hj]
theorem Zi1 (s : GSys) (t : s.Tab) (c : Bool × List Int) (hL : Lok c.2) : FnB Tryz.prog (.fn Yb [.rp s.cells]) (eC c) (!okT s.size c) := by
 refine ⟨Yb, [eC c, .rp s.cells], by simp [YN], by simp, ?_⟩
 refine Qd.of_codeOf ZeG Qz (by simp) ⟨_, rfl, by simp⟩ ?_
 obtain ⟨nl1, ty⟩ := c
 simp (disch := omega) [VZ]
 repeat' (first
  | with_reducible refine Qa (ZgK t nl1 ty hL) (by simp) ?_
  | (with_reducible (first | refine Qo (fun hb_ => ?_) (fun hb_ => ?_) | refine Qn (fun hb_ => ?_) (fun hb_ => ?_)) <;> simp (disch := omega) [hb_])
  | simp (disch := omega))
 all_goals simp [okT]
theorem Zl3 (f : LV) (p : Bool × List Int → Bool) (sf : share f = f) (lf : Low 0 f) (nl : Bool) (ctx : Wx) (hw : ctx.wf) (hp : ∀ c ∈ ctx, FnB Tryz.prog f (eC c) (p c)) :
  Qd Tryz.prog Xg [LC nl ctx, f] (fun r => ∃ n : Int, r = N n ∧ leB 0 n = ctx.any p) := by
 have hlen := hw.1
 refine Qd.of_codeOf JC Qz (by simp) ⟨N (if ctx.any p = true then 0 else -1), ⟨_, rfl, by split <;> simp_all [leB]⟩, by simp⟩ ?_
 simp (disch := omega) [Ye]
 refine XH ctx.length 0 (fun i t _ => t 8 = N i ∧ ctx.any p = (ctx.drop i).any p) (by simp) (by omega) ?_
 rintro i t1 hh hf hi ⟨e8, hj⟩
 (have e0 := hf 0 (by kernel_rfl); have e1 := hf 1 (by kernel_rfl); have e6 := hf 6 (by kernel_rfl); have e7 := hf 7 (by kernel_rfl); clear hf; simp [sf] at e0 e1 e6 e7)
 simp (disch := omega) [e0, e1, e6, e7, e8]
 (with_reducible first | refine Qo (fun h6 => ?_) (fun h6 => ?_) | refine Qn (fun h6 => ?_) (fun h6 => ?_))
 ·simp only [Qi, Qg, Ql, Qk, Qe, Qc, Bool.not_true, Bool.not_false] at h6
  have hd := List.drop_eq_getElem_cons (l := ctx) (i := i) (by omega)
  have hpc := hp (ctx[i]'(by omega)) (List.getElem_mem _)
  simp (disch := omega) [e0, e1, e6, e7, e8, ZbN, sf]
  repeat' (first
  | with_reducible refine Zlj hpc ?_
  | (with_reducible (first | refine Qo (fun hb_ => ?_) (fun hb_ => ?_) | refine Qn (fun hb_ => ?_) (fun hb_ => ?_)) <;> simp (disch := omega) [hb_, e0, e1, e6, e7, e8, ZbN, sf])
  | simp (disch := omega) [e0, e1, e6, e7, e8, ZbN, sf])
  ·rw [hj, hd, List.any_cons, hb_, Bool.true_or, Ql]; omega
  ·exact ⟨by omega, Qf (by omega), by rw [hj, hd, List.any_cons, hb_, Bool.false_or]⟩
 ·simp only [Qi, Qg, Ql, Qk, Qe, Qc, Bool.not_true, Bool.not_false] at h6
  simp (disch := omega)
  rw [hj, show i = ctx.length by omega, List.drop_length]; simp [leB]
theorem Zm9 {P : Program} {K : St → Prop} {s : St} {rw : Rw} {d : Nat} {f : FuncId} {vals : List LV} {R : LV → Prop} (c : Qd P f vals R) (hl : QE 0 vals) (hk : ∀ r, R r → K { t := upd s.t d r, h := s.h }) (hrw : rw ≠ .fr := by simp) : Z5 P rw f vals (some d) K s := Qh c hl hk hrw
theorem Zg5 (f : LV) (p : Bool × List Int → Bool) (sf : share f = f) (lf : Low 0 f) (nl : Bool) (ctx : Wx) (hw : ctx.wf) (hp : ∀ c ∈ ctx, FnB Tryz.prog f (eC c) (p c)) :
  Qd Tryz.prog W2 [LC nl ctx, f] (· = B (ctx.any p)) := by
 refine Qd.of_codeOf ZY Qz (by simp) ⟨_, rfl, by simp⟩ ?_
 simp (disch := omega) [XT, sf]
 refine Zm9 (Zl3 f p sf lf nl ctx hw hp) (by simp [lf]) ?_
 rintro r ⟨n, rfl, hn⟩
 simp (disch := omega) [sf, hn]
theorem ZnM {ctx : Wx} {size : Int} : ∀ n, n ≤ ctx.length → YW (okAt size ctx) n = !((ctx.take n).any fun c => !okT size c)
 | 0, _ => by simp
 | n + 1, h => by
  rw [WC, ZnM n (by omega), ZmR (by omega), List.take_succ_eq_append_getElem (by omega), List.any_append]
  simp [Bool.not_or]
theorem Zlp (s : GSys) (t : s.Tab) (nl : Bool) (ctx : Wx) (hw : ctx.wf) : Qd Tryz.prog Kn [s.lv, LC nl ctx] (· = B (Zf3 s.size ctx)) := by
 refine Qd.of_codeOf Zgb Qz (by simp) ⟨_, rfl, by simp⟩ ?_
 have hlen := hw.1
 have hc := Zg5 (.fn Yb [.rp s.cells]) (fun c => !okT s.size c) (by simp) (by simp) nl ctx hw (fun c hc => Zi1 s t c (hw.2 c hc))
 have ha := ZnM (ctx := ctx) (size := s.size) ctx.length (by omega)
 rw [List.take_length] at ha
 simp (disch := omega) [ZaH, Qv, Qt]
 repeat' (first
  | with_reducible refine Qa (hc) (by simp) ?_
  | (with_reducible (first | refine Qo (fun hb_ => ?_) (fun hb_ => ?_) | refine Qn (fun hb_ => ?_) (fun hb_ => ?_)) <;> simp (disch := omega) [hb_])
  | simp (disch := omega))
 all_goals simp_all [Zf3]
structure GSes where
 sys : GSys
 nl : Bool
 ctx : Wx
 term : GTerm
def GSes.cells (x : GSes) : List LV := x.sys.cells ++ (LC x.nl x.ctx :: x.term.cells)
abbrev GSes.lv (x : GSes) : LV := .agg x.cells
def GSes.wf (x : GSes) : Prop := x.sys.wf ∧ x.ctx.wf ∧ x.term.wf
def GSes.ok (x : GSes) : Bool := x.sys.sys && (Zf3 x.sys.size x.ctx && x.term.writ)
end Go.Proofs.YtclfngbealdbgaaGreat
namespace Go.Proofs.YtclfngbealdbgaaGreat
open Go Go.TL
set_option linter.unusedSimpArgs false
set_option linter.unusedVariables false
set_option maxRecDepth 20000
set_option maxHeartbeats 4000000
def Rok (l : List Int) : Prop := l.length ≤ 9223372036854775807 ∧ ∀ n ∈ l, I64 n
def GSys.raw (s : GSys) : Prop := I64 s.size ∧ Rok s.plus ∧ Rok s.times ∧ s.below.length ≤ 9223372036854775807
def GSys.w (s : GSys) : Nat := s.plus.length + (s.times.length + s.below.length)
def GSys.norm (s : GSys) : GSys := { s with n1 := false, n2 := false, n3 := false }
def GSys.own (s : GSys) : List LV := [N s.size, OU true false s.plus, OU true false s.times, OB true false s.below]
@[simp] theorem GSys.share_own (s : GSys) : shareAll s.own = s.norm.cells := by simp [GSys.own, GSys.norm]
@[simp] theorem GSys.low_own (s : GSys) (k : Nat) : QE k s.own := by simp [GSys.own]
@[simp] theorem GSys.own_length (s : GSys) : s.own.length = 4 := rfl
def GSys.same (a b : GSys) : Bool := eqB a.size b.size && ((a.plus == b.plus) && ((a.times == b.times) && (a.below == b.below)))
def GSes.raw (x : GSes) : Prop := x.sys.raw ∧ x.ctx.raw ∧ x.term.raw
def GSes.w (x : GSes) : Nat := x.sys.w + ((x.ctx.length + cws x.ctx) + x.term.w)
def GSes.norm (x : GSes) : GSes := ⟨x.sys.norm, false, x.ctx.norm, x.term.norm⟩
def GSes.own (x : GSes) : List LV := x.sys.own ++ (x.ctx.own :: x.term.own)
@[simp] theorem Ze5 : ∀ a b : List LV, shareAll (a ++ b) = shareAll a ++ shareAll b
 | [], b => by simp [shareAll]
 | x :: a, b => by simp [shareAll, Ze5 a b]
@[simp] theorem Zjl (k : Nat) : ∀ a b : List LV, QE k (a ++ b) ↔ QE k a ∧ QE k b
 | [], b => by simp
 | x :: a, b => by simp [Zjl k a b, and_assoc]
@[simp] theorem GSes.share_own (x : GSes) : shareAll x.own = x.norm.cells := by
 simp [GSes.own, GSes.norm, GSes.cells, Wx.norm]
@[simp] theorem GSes.low_own (x : GSes) (k : Nat) : QE k x.own := by simp [GSes.own]
@[simp] theorem GSes.low_cells (x : GSes) (k : Nat) : QE k x.cells := by simp [GSes.cells]
@[simp] theorem GSes.share_cells (x : GSes) : shareAll x.cells = x.cells := by simp [GSes.cells]
@[simp] theorem GSes.cells_length (x : GSes) : x.cells.length = 9 := by simp [GSes.cells]
@[simp] theorem GSes.own_length (x : GSes) : x.own.length = 9 := by simp [GSes.own]
@[simp] theorem GSes.take_cells (x : GSes) : x.cells.take 9 = x.cells := List.take_of_length_le (by simp)
@[simp] theorem GSes.take_own (x : GSes) : x.own.take 9 = x.own := List.take_of_length_le (by simp)
@[simp] theorem GSes.alive_own (x : GSes) : Wz x.own = true := by simp [GSes.own, GSys.own]
@[simp] theorem GSes.alive_cells (x : GSes) : Wz x.cells = true := by simp [GSes.cells]
def GSes.same (a b : GSes) : Bool := a.sys.same b.sys && (sameC a.ctx b.ctx && a.term.same b.term)
end Go.Proofs.YtclfngbealdbgaaGreat
namespace Go.Proofs.YtclfngbealdbgaaGreat
open Go
open Go.TL (GM.all Rep Qb Qw Qx LV)
open Go.TL (N B)
set_option linter.unusedVariables false
set_option maxRecDepth 20000
variable {H : Type} {enc : TypeId × Value → H} {P : Program} {w : World} {base : Nat} {spare : Nat → Bool} {held : Bool}
def K9 (w : World) (xs : List LV) (cs : List Value) : Prop := Qb (GM.all w) [] xs cs [] ∧ ∀ c ∈ cs, c.oneCell' = true
theorem K9.nil : K9 w [] [] := ⟨by simp [Qb], by simp⟩
theorem K9.cons {x : LV} {v : Value} {xs : List LV} {cs : List Value} (h : Rep (GM.all w) [] x v []) (h1 : v.oneCell' = true) (ht : K9 w xs cs) : K9 w (x :: xs) (v :: cs) := by
  refine ⟨?_, by intro c hc; simp only [List.mem_cons] at hc; rcases hc with rfl | hc; · exact h1
                 · exact ht.2 c hc⟩
  simp only [Qb]
  exact ⟨v, cs, [], [], rfl, rfl, h, ht.1⟩
theorem K9.app {xs ys : List LV} {cs ds : List Value} (h1 : K9 w xs cs) (h2 : K9 w ys ds) : K9 w (xs ++ ys) (cs ++ ds) := by
 induction xs generalizing cs with
 | nil =>
  obtain ⟨h, _⟩ := h1
  simp only [Qb] at h
  rw [h.1]; simpa using h2
 | cons x xs ih =>
  obtain ⟨h, hc⟩ := h1
  simp only [Qb] at h
  obtain ⟨v, ws, O1, O2, rfl, hO, g1, g2⟩ := h
  obtain ⟨rfl, rfl⟩ := List.append_eq_nil_iff.1 hO.symm
  exact K9.cons g1 (hc v (by simp)) (ih ⟨g2, fun c hc' => hc c (by simp [hc'])⟩)
theorem K9.length {xs : List LV} {cs : List Value} (h : K9 w xs cs) : cs.length = xs.length := by
 induction xs generalizing cs with
 | nil => have := h.1; simp only [Qb] at this; rw [this.1]; rfl
 | cons x xs ih =>
  obtain ⟨h, hc⟩ := h
  simp only [Qb] at h
  obtain ⟨v, ws, O1, O2, rfl, hO, g1, g2⟩ := h
  obtain ⟨rfl, rfl⟩ := List.append_eq_nil_iff.1 hO.symm
  simp [ih ⟨g2, fun c hc' => hc c (by simp [hc'])⟩]
theorem K9.cells {xs : List LV} {cs : List Value} (h : K9 w xs cs) (b off : Nat) (hc : ∀ i, i < cs.length → w.cell? ⟨b, off + i, none⟩ = cs[i]?) : Qw (GM.all w) [] xs b off [] := by
 induction xs generalizing cs off with
 | nil => simp [Qw]
 | cons x xs ih =>
  obtain ⟨h, h1⟩ := h
  simp only [Qb] at h
  obtain ⟨v, ws, O1, O2, rfl, hO, g1, g2⟩ := h
  obtain ⟨rfl, rfl⟩ := List.append_eq_nil_iff.1 hO.symm
  simp only [Qw]
  refine ⟨v, [], [], rfl, by simpa [GM.all] using hc 0 (by simp), h1 v (by simp), g1, ih ⟨g2, fun c hc' => h1 c (by simp [hc'])⟩ (off + 1) fun i hi => ?_⟩
  have := hc (i + 1) (by simpa using hi)
  rw [show off + 1 + i = off + (i + 1) by omega]
  simpa using this
theorem Zig {a : Addr} {n : Nat} {cs : List Value} (h : w.cells? base a n = some cs) : cs.length = n ∧ ∀ i, i < n → w.cell? (a.add i) = cs[i]? := by
 unfold World.cells? at h
 split at h
 ·refine ⟨by simpa using mapM_some_length h, fun i hi => by simpa [hi] using mapM_some_get h i i (by simp [hi])⟩
 ·simp at h
theorem ZkF {a : Addr} {v : Value} (h : w.cell? a = some v) : a.spot = none := by
 unfold World.cell? at h
 split at h
 ·split at h
  ·simp at h
  ·rename_i hs; simpa using hs
 ·simp at h
theorem add_at {b off i : Nat} : (⟨b, off, none⟩ : Addr).add i = ⟨b, off + i, none⟩ := by
 unfold Addr.add; split <;> simp_all
theorem rd_slice {α : Type} (e : α → List LV) (Q : α → Prop) {t et : TypeId} {sz : Nat} (hsz : P.cellsOf et = sz) (hpos : 0 < sz) (ht : P.underlying t = some (.slice et)) {fuel : Nat}
  (each : ∀ n cs y, n < fuel → DataW.trod enc P w base spare held n et cs = some y → ∃ r, Q r ∧ K9 w (e r) cs ∧ (e r).length = sz)
  {cs : List Value} {x : DataW H × List MemPlace} (h : DataW.trod enc P w base spare held fuel t cs = some x) :
  ∃ (nl : Bool) (l : List α), (∀ r ∈ l, Q r) ∧ l.length ≤ 9223372036854775807 ∧ K9 w [.sl false nl sz (l.map e)] cs := by
 rcases DataW.trod_slice ht h with ⟨rfl, _⟩ | ⟨a, len, cap, elems, rest, n, rfl, rfl, _, _, hlc, hcm, hlen, hel, _, _⟩
 ·exact ⟨true, [], by simp, by simp, K9.cons (by simp [Rep]) rfl K9.nil⟩
 ·rw [hsz] at hel
  have get : ∀ i, i < len → ∃ r, Q r ∧ (e r).length = sz ∧ a.spot = none ∧ Qw (GM.all w) [] (e r) a.block (a.off + i * sz) [] := by
   intro i hi
   have h1 := hel i hi
   have h2 : elems[i]? = some (elems[i]'(by omega)) := List.getElem?_eq_getElem _
   rw [h2, Option.bind_eq_some_iff] at h1
   obtain ⟨cs', hc, htr⟩ := h1
   obtain ⟨r, hq, hv, hl⟩ := each n cs' _ (by omega) htr
   obtain ⟨hcl, hcg⟩ := Zig hc
   have hs : a.spot = none := by
    by_cases hi0 : i = 0
    ·have := hcg 0 hpos
     rw [List.getElem?_eq_getElem (by omega)] at this
     have hs := ZkF this
     simpa [hi0, Addr.add] using hs
    ·have h0 := hel 0 (by omega)
     have h2 : elems[0]? = some (elems[0]'(by omega)) := List.getElem?_eq_getElem _
     rw [h2, Option.bind_eq_some_iff] at h0
     obtain ⟨cs0, hc0, _⟩ := h0
     obtain ⟨hcl0, hcg0⟩ := Zig hc0
     have := hcg0 0 hpos
     rw [List.getElem?_eq_getElem (by omega)] at this
     have hs := ZkF this
     simpa [Addr.add] using hs
   refine ⟨r, hq, hl, hs, hv.cells _ _ fun j hj => ?_⟩
   have := hcg j (by omega)
   rw [← this]
   obtain ⟨b, off, sp⟩ := a
   simp only at hs
   subst hs
   rw [add_at, add_at]
  have Qj : ∀ k i, i + k = len → ∃ l : List α, l.length = k ∧ (∀ r ∈ l, Q r) ∧ Qx (GM.all w) [] (l.map e) sz a.block (a.off + i * sz) [] := by
   intro k
   induction k with
   | zero => intro i hi; exact ⟨[], rfl, by simp, by simp [Qx]⟩
   | succ k ih =>
    intro i hi
    obtain ⟨r, hq, hl, _, hc⟩ := get i (by omega)
    obtain ⟨l, h1, h2, h3⟩ := ih (i + 1) (by omega)
    refine ⟨r :: l, by simp [h1], by simpa using ⟨hq, h2⟩, ?_⟩
    simp only [List.map_cons, Qx]
    refine ⟨[], [], rfl, hl, hc, ?_⟩
    rw [show a.off + i * sz + sz = a.off + (i + 1) * sz by rw [Nat.add_mul]; omega]
    exact h3
  obtain ⟨l, h1, h2, h3⟩ := Qj len 0 (by omega)
  have hmx : maxLen = 9223372036854775807 := by decide
  refine ⟨false, l, h2, by omega, K9.cons ?_ rfl K9.nil⟩
  obtain ⟨b, off, sp⟩ := a
  simp only [Rep]
  refine .inr ⟨trivial, b, off, sp, cap, [], by simp [h1], ?_, by simp [h1, hlc], by simpa using h3, .inr ⟨.inl trivial, rfl⟩⟩
  by_cases h0 : len = 0
  ·right
   refine ⟨?_, .inl trivial⟩
   simp; exact List.eq_nil_of_length_eq_zero (by omega)
  ·left
   obtain ⟨_, _, _, hs, _⟩ := get 0 (by omega)
   exact hs
theorem rd_byte {t : TypeId} (ht : P.underlying t = some (.int .u8)) {fuel : Nat} {cs : List Value} {x : DataW H × List MemPlace} (h : DataW.trod enc P w base spare held fuel t cs = some x) :
  ∃ n : Int, (0 ≤ n ∧ n ≤ 255) ∧ K9 w [.sc (.int .u8 n)] cs := by
 obtain ⟨n, rfl, _, hw⟩ := DataW.trod_int ht h
 refine ⟨n, ?_, K9.cons (by simp [Rep]) rfl K9.nil⟩
 simp [Lit.wf, IntKind.min, IntKind.max, IntKind.signed, IntKind.bits] at hw
 omega
theorem rd_bytes {t et : TypeId} (he : P.underlying et = some (.int .u8)) (hsz : P.cellsOf et = 1) (ht : P.underlying t = some (.slice et)) {fuel : Nat} {cs : List Value} {x : DataW H × List MemPlace}
  (h : DataW.trod enc P w base spare held fuel t cs = some x) : ∃ D : Go.TL.Dr, (∀ b ∈ D.bs, 0 ≤ b ∧ b ≤ 255) ∧ K9 w [D.lv] cs := by
 obtain ⟨nl, l, hq, hl, hv⟩ := rd_slice (fun n => [.sc (.int .u8 n)]) (fun n => 0 ≤ n ∧ n ≤ 255) hsz (by omega) ht (fun n cs y _ hy => by
  obtain ⟨m, h1, h2⟩ := rd_byte he hy
  exact ⟨m, h1, h2, rfl⟩) h
 exact ⟨⟨nl, l⟩, hq, hv⟩
end Go.Proofs.YtclfngbealdbgaaGreat
namespace Go.Proofs.YtclfngbealdbgaaGreat.Ty
inductive RT where
 | nd (c : Int) (ks : List RT)
mutual
def RT.flat : RT → List Int
 | .nd c ks => c :: WF ks
def WF : List RT → List Int
 | [] => []
 | t :: ts => t.flat ++ WF ts
end
mutual
def RT.ok : RT → Prop
 | .nd c ks => Wv c = some ks.length ∧ oks ks
def oks : List RT → Prop
 | [] => True
 | t :: ts => t.ok ∧ oks ts
end
theorem Zho : ∀ {ts : List RT}, oks ts ↔ ∀ t ∈ ts, t.ok
 | [] => by simp [oks]
 | t :: ts => by simp [oks, Zho (ts := ts)]
theorem Ki : ∀ (ts us : List RT), WF (ts ++ us) = WF ts ++ WF us
 | [], us => by simp [WF]
 | t :: ts, us => by simp [WF, Ki ts us]
theorem parse : ∀ (l : List Int) (n : Nat) (r : List Int), Ty.skip n l = some r → ∃ ts : List RT, ts.length = n ∧ oks ts ∧ l = WF ts ++ r
 | l, 0, r, h => by simp [Ty.skip] at h; exact ⟨[], rfl, by simp [oks], by simp [WF, h]⟩
 | [], n + 1, r, h => by simp [Ty.skip] at h
 | c :: l, n + 1, r, h => by
  simp only [Ty.skip] at h
  cases hk : Wv c with
  | none => simp [hk] at h
  | some k =>
   simp only [hk] at h
   obtain ⟨ts, h1, h2, h3⟩ := parse l (n + k) r h
   refine ⟨.nd c (ts.take k) :: ts.drop k, by simp; omega, ?_, ?_⟩
   ·rw [Zho] at h2
    simp only [oks, RT.ok, Zho, hk]
    refine ⟨⟨by simp; omega, fun t ht => h2 t (List.mem_of_mem_take ht)⟩, fun t ht => h2 t (List.mem_of_mem_drop ht)⟩
   ·rw [h3]
    simp only [WF, RT.flat, List.cons_append]
    rw [← Ki, List.take_append_drop]
mutual
theorem RT.skip_flat : ∀ (t : RT) (r : List Int), t.ok → Ty.skip 1 (t.flat ++ r) = some r
 | .nd c ks, r, h => by
  simp only [RT.ok] at h
  simp only [RT.flat, List.cons_append, Ty.skip, h.1]
  rw [Nat.zero_add]
  exact ZhC ks r h.2
theorem ZhC : ∀ (ts : List RT) (r : List Int), oks ts → Ty.skip ts.length (WF ts ++ r) = some r
 | [], r, _ => by simp [WF, Ty.skip]
 | t :: ts, r, h => by
  simp only [oks] at h
  simp only [WF, List.append_assoc, List.length_cons]
  rw [Nat.add_comm, ZhZ, RT.skip_flat t _ h.1]
  exact ZhC ts r h.2
end
theorem RT.flat_pos (t : RT) : 0 < t.flat.length := by cases t; simp [RT.flat]
theorem ZnD {l : List Int} (h : wty l = true) : ∃ t : RT, t.ok ∧ l = t.flat ∧ l.length ≤ 40 := by
 simp [wty] at h
 obtain ⟨⟨h1, h2⟩, h3⟩ := h
 obtain ⟨ts, g1, g2, g3⟩ := parse l 1 [] h3
 match ts, g1 with
 | [t], _ =>
  simp only [oks] at g2
  exact ⟨t, g2.1, by simpa [WF] using g3, h2⟩
theorem tree_wty {t : RT} (h : t.ok) (hl : t.flat.length ≤ 40) : wty t.flat = true := by
 have := RT.skip_flat t [] h
 rw [List.append_nil] at this
 have := t.flat_pos
 simp [wty, *]; omega
theorem Zed {t : RT} (h : t.ok) (r : List Int) (len : Nat) : KI 1 (t.flat ++ r) len = (len : Int) - r.length := by
 unfold KI
 rw [RT.skip_flat t r h]
end Go.Proofs.YtclfngbealdbgaaGreat.Ty
namespace Go.Proofs.YtclfngbealdbgaaGreat
open Go Go.TL
open Go.Proofs.YtclfngbealdbgaaGreat.Ty
set_option linter.unusedSimpArgs false
set_option linter.unusedVariables false
set_option maxRecDepth 20000
set_option maxHeartbeats 4000000
def okL (size : Int) (l : List Int) : Bool := wty l && Zq size true l
def Ws (l : List Int) : List Int := (Ty.skip 1 l.tail).getD []
def QI (l : List Int) : List Int := l.tail.take (l.tail.length - (Ws l).length)
def hd (l : List Int) : Int := l.headD 0
@[simp] theorem ZmP (c : Int) (l : List Int) : hd (c :: l) = c := rfl
theorem Zpx {size : Int} {closed : Bool} {l : List Int} : Zq size closed l = true ↔ ∀ c ∈ l, okC size closed c = true := by
 unfold Zq
 rw [Yr]
 constructor
 ·intro h c hc
  obtain ⟨i, hi, rfl⟩ := List.getElem_of_mem hc
  have := h i hi
  simpa [Yp, hi] using this
 ·intro h i hi
  have := h l[i] (List.getElem_mem _)
  simpa [Yp, hi] using this
theorem YG {size : Int} {l : List Int} : okL size l = true ↔ ∃ t : RT, t.ok ∧ l = t.flat ∧ l.length ≤ 40 ∧ ∀ c ∈ l, okC size true c = true := by
 unfold okL
 rw [Bool.and_eq_true, Zpx]
 constructor
 ·rintro ⟨h1, h2⟩
  obtain ⟨t, h3, h4, h5⟩ := ZnD h1
  exact ⟨t, h3, h4, h5, h2⟩
 ·rintro ⟨t, h3, rfl, h5, h2⟩
  exact ⟨tree_wty h3 h5, h2⟩
theorem ZpO {l : List Int} (h : wty l = true) : 1 ≤ l.length ∧ l.length ≤ 40 := by
 simp [wty] at h; omega
theorem JT {size : Int} {l : List Int} (h : okL size l = true) : wty l = true := by
 unfold okL at h; rw [Bool.and_eq_true] at h; exact h.1
theorem QG {size : Int} {l : List Int} (h : okL size l = true) : 1 ≤ l.length ∧ l.length ≤ 40 := ZpO (JT h)
theorem Zp7 {l : List Int} (h : wty l = true) : ∀ n ∈ l, 0 ≤ n ∧ n ≤ 36 := by
 intro n hn
 obtain ⟨i, hi, rfl⟩ := List.getElem_of_mem hn
 have := Zf5 h i hi
 simpa [List.getD_eq_getElem?_getD, hi] using this
theorem ZbB {l : List Int} (h : wty l = true) : Lok l := ⟨by have := ZpO h; omega, fun n hn => by have := Zp7 h n hn; unfold I64; omega⟩
theorem Za4 {c : Int} {t : RT} {r : List Int} (h : t.ok) : Ws (c :: (t.flat ++ r)) = r := by
 unfold Ws
 rw [List.tail_cons, RT.skip_flat t r h]; rfl
theorem Za3 {c : Int} {t : RT} {r : List Int} (h : t.ok) : QI (c :: (t.flat ++ r)) = t.flat := by
 unfold QI
 rw [Za4 h, List.tail_cons]
 simp
theorem JQ {size : Int} {l : List Int} (h : okL size l = true) (h2 : Wv (hd l) = some 2) : l = hd l :: (QI l ++ Ws l) ∧ okL size (QI l) = true ∧ okL size (Ws l) = true := by
 obtain ⟨⟨c, ks⟩, h3, rfl, h5, h6⟩ := YG.1 h
 simp only [RT.ok] at h3
 simp only [RT.flat] at h2 h5 h6 ⊢
 simp only [ZmP] at h2
 rw [h2] at h3
 obtain ⟨a, b, rfl⟩ : ∃ a b, ks = [a, b] := by
  match ks, h3.1 with
  | [a, b], _ => exact ⟨a, b, rfl⟩
  | [], h => simp at h
  | [_], h => simp at h
  | _ :: _ :: _ :: _, h => simp at h
 simp only [oks] at h3
 simp only [WF, List.append_nil] at h5 h6 ⊢
 rw [Za3 h3.2.1, Za4 h3.2.1]
 simp only [List.length_cons, List.length_append] at h5
 refine ⟨rfl, YG.2 ⟨a, h3.2.1, rfl, by omega, fun c hc => h6 c (by simp [hc])⟩, YG.2 ⟨b, h3.2.2.1, rfl, by omega, fun c hc => h6 c (by simp [hc])⟩⟩
theorem Zhp {size : Int} {l : List Int} (h : okL size l = true) (h2 : Wv (hd l) = some 1) : l = hd l :: QI l ∧ Ws l = [] ∧ okL size (QI l) = true := by
 obtain ⟨⟨c, ks⟩, h3, rfl, h5, h6⟩ := YG.1 h
 simp only [RT.ok] at h3
 simp only [RT.flat] at h2 h5 h6 ⊢
 simp only [ZmP] at h2
 rw [h2] at h3
 obtain ⟨a, rfl⟩ : ∃ a, ks = [a] := by
  match ks, h3.1 with
  | [a], _ => exact ⟨a, rfl⟩
  | [], h => simp at h
  | _ :: _ :: _, h => simp at h
 simp only [oks] at h3
 simp only [WF] at h5 h6 ⊢
 rw [Za3 h3.2.1, Za4 h3.2.1]
 simp only [List.length_cons, List.length_append] at h5
 refine ⟨by simp, rfl, YG.2 ⟨a, h3.2.1, rfl, by omega, fun c hc => h6 c (by simp [hc])⟩⟩
theorem okL_none {size : Int} {l : List Int} (h : okL size l = true) (h2 : Wv (hd l) = some 0) : l = [hd l] := by
 obtain ⟨⟨c, ks⟩, h3, rfl, h5, h6⟩ := YG.1 h
 simp only [RT.ok] at h3
 simp only [RT.flat] at h2 h5 h6 ⊢
 simp only [ZmP] at h2
 rw [h2] at h3
 obtain rfl : ks = [] := by
  match ks, h3.1 with
  | [], _ => rfl
  | _ :: _, h => simp at h
 simp [WF]
theorem Zbv {size c : Int} {a b : List Int} (ha : okL size a = true) (hb : okL size b = true) (hc : Wv c = some 2) (h2 : okC size true c = true) (hl : (c :: (a ++ b)).length ≤ 40) : okL size (c :: (a ++ b)) = true := by
 obtain ⟨t, h3, rfl, _, h4⟩ := YG.1 ha
 obtain ⟨u, h5, rfl, _, h6⟩ := YG.1 hb
 refine YG.2 ⟨.nd c [t, u], ?_, by simp [RT.flat, WF], hl, fun x hx => ?_⟩
 ·simp only [RT.ok, oks]
  exact ⟨hc, h3, h5, trivial⟩
 ·rcases List.mem_cons.1 hx with rfl | hx
  ·exact h2
  ·rcases List.mem_append.1 hx with hx | hx
   ·exact h4 x hx
   ·exact h6 x hx
theorem ZpR {size c : Int} {a : List Int} (ha : okL size a = true) (hc : Wv c = some 1) (h2 : okC size true c = true) (hl : (c :: a).length ≤ 40) : okL size (c :: a) = true := by
 obtain ⟨t, h3, rfl, _, h4⟩ := YG.1 ha
 refine YG.2 ⟨.nd c [t], ?_, by simp [RT.flat, WF], hl, fun x hx => ?_⟩
 ·simp only [RT.ok, oks]
  exact ⟨hc, h3, trivial⟩
 ·rcases List.mem_cons.1 hx with rfl | hx
  ·exact h2
  ·exact h4 x hx
theorem Zhv (size : Int) : okL size [0] = true :=
 YG.2 ⟨.nd 0 [], by simp [RT.ok, oks, Wv], by simp [RT.flat, WF], by simp, fun c hc => by simp at hc; subst hc; simp [okC, QM, W4]⟩
theorem X8 {size : Int} {l : List Int} (h : okL size l = true) : okC size true (hd l) = true ∧ 0 ≤ hd l ∧ hd l ≤ 36 ∧ l ≠ [] ∧ hd l ∈ l := by
 obtain ⟨⟨c, ks⟩, h3, rfl, h5, h6⟩ := YG.1 h
 simp only [RT.ok] at h3
 have := ZgF h3.1
 simp only [RT.flat] at h6 ⊢
 refine ⟨h6 c (by simp), by simpa using this.1, by simpa using this.2, by simp, by simp⟩
theorem Ke {size c : Int} (h : okC size true c = true) (h2 : QM c = true ∨ W4 c = true) : 0 ≤ W1 c ∧ W1 c < size := by
 unfold okC at h
 have : (QM c || W4 c) = true := by rcases h2 with h | h <;> simp [h]
 rw [this] at h
 simp [Ql, Qi] at h
 omega
inductive TT where
 | mk (ty needs : List Int) (kids : List TT)
def TT.ty : TT → List Int | .mk t _ _ => t
def TT.needs : TT → List Int | .mk _ n _ => n
def TT.kids : TT → List TT | .mk _ _ k => k
@[simp] theorem TT.ty_mk {a b : List Int} {c : List TT} : (TT.mk a b c).ty = a := rfl
@[simp] theorem TT.needs_mk {a b : List Int} {c : List TT} : (TT.mk a b c).needs = b := rfl
@[simp] theorem TT.kids_mk {a b : List Int} {c : List TT} : (TT.mk a b c).kids = c := rfl
inductive Res where
 | ok (x : TT)
 | bad (f : Int) (p : List Int)
def QB (op : Int) (ty : List Int) (i : Nat) (first : List Int) : List (List Int) :=
 if op = 9 then [ty] else if Qp op i = 0 then [] else if op = 5 then [Ws first, QI first] else if op = 8 then [if i = 1 then QI first else Ws first] else [QI first]
def Jt (op : Int) (i : Nat) : Int × Int :=
 if op = 2 ∨ (op = 3 ∧ i = 0) then (0, 2) else if op = 5 ∧ i = 0 then (1, 4) else if op = 8 ∧ i = 0 then (2, 5) else if op = 10 ∧ i = 0 then (3, 6) else if op = 12 ∧ i = 0 then (4, 7) else (-1, 0)
def QL (s : GSys) (op n : Int) (i : Nat) (c : Int) : Int :=
 if 0 ≤ (Jt op i).1 ∧ (QF c).1 ≠ (Jt op i).1 then (Jt op i).2 else if i = 0 ∧ (op = 5 ∨ op = 8 ∨ op = 12) ∧ s.le 1 n = false then 8 else 0
def XV (s : GSys) (a b : List Int) : List Int := List.zipWith s.pl a b
def XO (s : GSys) (a b : List Int) : List Int := List.zipWith s.join a b
def QT (s : GSys) (g : Int) (a : List Int) : List Int := a.map (s.tm g)
def Wp (s : GSys) (l : List Int) (g : Int) : Bool := l.all fun u => s.le u g
def zeros (n : Nat) : List Int := List.replicate n 0
def Xf (ty nd : List Int) : Int × List Int × List Int := if ty.length ≤ 40 then (0, ty, nd) else (3, [], [])
def ndP (op : Int) (ds : List TT) (i : Nat) : List Int := (ds.getD i (.mk [] [] [])).needs.drop (Qp op i).toNat
def usP (op : Int) (ds : List TT) (i : Nat) : List Int := (ds.getD i (.mk [] [] [])).needs.take (Qp op i).toNat
def tyP (ds : List TT) (i : Nat) : List Int := (ds.getD i (.mk [] [] [])).ty
def Wc (s : GSys) (ctx : List (List Int)) (op n : Int) (ty : List Int) (ds : List TT) : Int × List Int × List Int :=
 if op = 0 then (0, ctx.getD n.toNat [], (zeros ctx.length).set n.toNat 1)
 else if op = 1 then (0, [0], zeros ctx.length)
 else if op = 2 then (0, [0], XV s (ndP op ds 0) (ndP op ds 1))
 else if op = 3 then (if tyP ds 1 = tyP ds 2 then (0, tyP ds 1, XV s (ndP op ds 0) (XO s (ndP op ds 1) (ndP op ds 2))) else (3, [], []))
 else if op = 4 then Xf (1 :: (tyP ds 0 ++ tyP ds 1)) (XV s (ndP op ds 0) (ndP op ds 1))
 else if op = 5 then (if Wp s (usP op ds 1) n = true then (0, tyP ds 1, XV s (QT s n (ndP op ds 0)) (ndP op ds 1)) else (9, [], []))
 else if op = 6 then Xf (2 :: (tyP ds 0 ++ ty)) (ndP op ds 0)
 else if op = 7 then Xf (2 :: (ty ++ tyP ds 0)) (ndP op ds 0)
 else if op = 8 then (if tyP ds 1 = tyP ds 2 then (if Wp s (usP op ds 1) n = true ∧ Wp s (usP op ds 2) n = true then (0, tyP ds 1, XV s (QT s n (ndP op ds 0)) (XO s (ndP op ds 1) (ndP op ds 2))) else (9, [], [])) else (3, [], []))
 else if op = 9 then (if Wp s (usP op ds 0) n = true then Xf ((3 + n) :: (ty ++ tyP ds 0)) (ndP op ds 0) else (9, [], []))
 else if op = 10 then (0, Ws (tyP ds 0), XV s (ndP op ds 0) (QT s (QF (hd (tyP ds 0))).2 (ndP op ds 1)))
 else if op = 11 then Xf ((19 + n) :: tyP ds 0) (QT s n (ndP op ds 0))
 else (if Wp s (usP op ds 1) (s.tm n (QF (hd (tyP ds 0))).2) = true then (0, tyP ds 1, XV s (QT s n (ndP op ds 0)) (ndP op ds 1)) else (9, [], []))
inductive KRes where
 | ok (ds : List TT)
 | bad (f : Int) (p : List Int)
def first (ds : List TT) : List Int := tyP ds 0
mutual
def Qr (s : GSys) (ctx : List (List Int)) : GTerm → Res
 | .mk op n _ ty _ ks => match Q6 s ctx op n ty [] ks with
  | .bad f p => .bad f p
  | .ok ds => if (Wc s ctx op n ty ds).1 = 0 then .ok (.mk (Wc s ctx op n ty ds).2.1 (Wc s ctx op n ty ds).2.2 ds) else .bad (Wc s ctx op n ty ds).1 []
def Q6 (s : GSys) (ctx : List (List Int)) (op n : Int) (ty : List Int) (ds : List TT) : List GTerm → KRes
 | [] => .ok ds
 | k :: ks => match Qr s (QB op ty ds.length (first ds) ++ ctx) k with
  | .bad f p => .bad f ((ds.length : Int) :: p)
  | .ok x => if QL s op n ds.length (hd x.ty) ≠ 0 then .bad (QL s op n ds.length (hd x.ty)) []
   else if op = 10 ∧ ds.length = 1 ∧ x.ty ≠ QI (first ds) then .bad 3 [] else Q6 s ctx op n ty (ds ++ [x]) ks
end
def TT.good (s : GSys) (n : Nat) (x : TT) : Prop := okL s.size x.ty = true ∧ x.needs.length = n ∧ ∀ u ∈ x.needs, s.G u
end Go.Proofs.YtclfngbealdbgaaGreat
namespace Go.Proofs.YtclfngbealdbgaaGreat
open Go Go.TL
open Go.Proofs.YtclfngbealdbgaaGreat.Ty
set_option linter.unusedSimpArgs false
set_option linter.unusedVariables false
set_option maxRecDepth 20000
set_option maxHeartbeats 4000000
theorem Znu : ∀ n : Fin 37, ((QF ((n.val : Nat) : Int)).1 = 0 ↔ n.val = 0) ∧ ((QF ((n.val : Nat) : Int)).1 = 1 ↔ n.val = 1) ∧ ((QF ((n.val : Nat) : Int)).1 = 2 ↔ n.val = 2) ∧
  ((QF ((n.val : Nat) : Int)).1 = 3 ↔ QM ((n.val : Nat) : Int) = true) ∧ ((QF ((n.val : Nat) : Int)).1 = 4 ↔ W4 ((n.val : Nat) : Int) = true) ∧
  ((QM ((n.val : Nat) : Int) = true ∨ W4 ((n.val : Nat) : Int) = true) → (QF ((n.val : Nat) : Int)).2 = W1 ((n.val : Nat) : Int)) := by decide
theorem Kg {c : Int} (h0 : 0 ≤ c) (h1 : c ≤ 36) : ((QF c).1 = 0 ↔ c = 0) ∧ ((QF c).1 = 1 ↔ c = 1) ∧ ((QF c).1 = 2 ↔ c = 2) ∧ ((QF c).1 = 3 ↔ QM c = true) ∧ ((QF c).1 = 4 ↔ W4 c = true) ∧ ((QM c = true ∨ W4 c = true) → (QF c).2 = W1 c) := by
 have := Znu ⟨c.toNat, by omega⟩
 simp only [show ((c.toNat : Nat) : Int) = c by omega] at this
 obtain ⟨a, b, c', d, e, f⟩ := this
 exact ⟨a.trans (by omega), b.trans (by omega), c'.trans (by omega), d, e, f⟩
theorem Xo : Wv 1 = some 2 ∧ Wv 2 = some 2 := by decide
theorem JG {c : Int} (h : QM c = true) : Wv c = some 2 := by
 unfold Wv
 rw [KU] at h
 rw [if_neg (by omega), if_pos]
 right; right; rw [KU]; exact h
theorem Zdk {c : Int} (h : W4 c = true) : Wv c = some 1 := by
 have h' := h
 rw [Zf4] at h
 unfold Wv
 rw [if_neg (by omega), if_neg (by rw [KU]; omega), if_pos h']
def ZeM (op : Int) (c : Int) : Prop := (op = 2 ∨ op = 3 → c = 0) ∧ (op = 5 → c = 1) ∧ (op = 8 → c = 2) ∧ (op = 10 → QM c = true) ∧ (op = 12 → W4 c = true)
theorem Zmz {s : GSys} {op n c : Int} (h0 : 0 ≤ c) (h1 : c ≤ 36) (h : QL s op n 0 c = 0) : ZeM op c ∧ (op = 5 ∨ op = 8 ∨ op = 12 → s.le 1 n = true) := by
 obtain ⟨a, b, c', d, e, _⟩ := Kg h0 h1
 unfold QL at h
 have hw : ¬ (0 ≤ (Jt op 0).1 ∧ (QF c).1 ≠ (Jt op 0).1) := by
  intro hh
  rw [if_pos hh] at h
  unfold Jt at hh h
  repeat' split at h
  all_goals simp_all
 rw [if_neg hw] at h
 have hl : ¬ (op = 5 ∨ op = 8 ∨ op = 12) ∨ s.le 1 n = true := by
  by_cases g : s.le 1 n = true
  ·exact .inr g
  ·left
   intro g2
   rw [if_pos ⟨rfl, g2, by simpa using g⟩] at h
   omega
 refine ⟨?_, fun g => hl.resolve_left (fun k => k g)⟩
 unfold Jt at hw
 refine ⟨fun g => ?_, fun g => ?_, fun g => ?_, fun g => ?_, fun g => ?_⟩
 ·have : (QF c).1 = 0 := by rcases g with rfl | rfl <;> simpa using hw
  exact a.1 this
 ·subst g; simp at hw; exact b.1 hw
 ·subst g; simp at hw; exact c'.1 hw
 ·subst g; simp at hw; exact d.1 hw
 ·subst g; simp at hw; exact e.1 hw
theorem WV (op k : Int) : 0 ≤ Qp op k ∧ Qp op k ≤ 2 := by
 unfold Qp; split
 ·omega
 ·split <;> omega
theorem ZaN (op : Int) (ty : List Int) (i : Nat) (f : List Int) : (QB op ty i f).length = (Qp op i).toNat := by
 unfold QB Qp
 by_cases h9 : op = 9
 ·subst h9; simp
 ·rw [if_neg h9]
  by_cases h5 : op = 5 ∧ (i : Int) = 1
  ·rw [if_pos h5, if_pos h5.1]; simp
  ·rw [if_neg h5]
   by_cases h8 : (op = 8 ∧ 0 < (i : Int)) ∨ op = 9 ∨ (op = 12 ∧ (i : Int) = 1)
   ·rw [if_pos h8]
    have : op ≠ 5 := by omega
    rw [if_neg (by omega), if_neg this]
    split <;> simp
   ·rw [if_neg h8]; simp
theorem ZnS {size : Int} {op : Int} {ty : List Int} {i : Nat} {f : List Int} (hty : op = 9 → okL size ty = true) (hf : i ≠ 0 → okL size f = true ∧ ZeM op (hd f)) : ∀ l ∈ QB op ty i f, okL size l = true := by
 unfold QB
 by_cases h9 : op = 9
 ·rw [if_pos h9]; intro l hl; simp at hl; subst hl; exact hty h9
 ·rw [if_neg h9]
  split
  ·simp
  ·rename_i ha
   have hi : i ≠ 0 := by rintro rfl; apply ha; unfold Qp; rw [if_neg (by omega), if_neg (by omega)]
   obtain ⟨hf1, hf2⟩ := hf hi
   obtain ⟨q2, q5, q8, q10, q12⟩ := hf2
   split
   ·rename_i h5
    have := JQ hf1 (by rw [q5 h5]; exact Xo.1)
    intro l hl; simp at hl
    rcases hl with rfl | rfl
    ·exact this.2.2
    ·exact this.2.1
   ·split
    ·rename_i h8
     have := JQ hf1 (by rw [q8 h8]; exact Xo.2)
     intro l hl; simp at hl; subst hl
     split
     ·exact this.2.1
     ·exact this.2.2
    ·have h12 : op = 12 := by
      unfold Qp at ha
      rename_i h5 h8
      rw [if_neg (by omega)] at ha
      by_cases g : (op = 8 ∧ 0 < (i : Int)) ∨ op = 9 ∨ (op = 12 ∧ (i : Int) = 1)
      ·omega
      ·rw [if_neg g] at ha; simp at ha
     have := Zhp hf1 (Zdk (q12 h12))
     intro l hl; simp at hl; subst hl; exact this.2.2
structure KidsOk (s : GSys) (c : Nat) (op n : Int) (ds : List TT) : Prop where
 each : ∀ (i : Nat) (x : TT), ds[i]? = some x → x.good s (c + (Qp op i).toNat) ∧ QL s op n i (hd x.ty) = 0
 app : op = 10 → ∀ x, ds[1]? = some x → x.ty = QI (first ds)
theorem KidsOk.first {s : GSys} {c : Nat} {op n : Int} {ds : List TT} (k : KidsOk s c op n ds) (h : ds ≠ []) : okL s.size (first ds) = true ∧ ZeM op (hd (first ds)) ∧ (op = 5 ∨ op = 8 ∨ op = 12 → s.le 1 n = true) := by
 obtain ⟨x, ds, rfl⟩ : ∃ x l, ds = x :: l := by
  cases ds with
  | nil => exact absurd rfl h
  | cons x l => exact ⟨x, l, rfl⟩
 obtain ⟨⟨h1, _, _⟩, h2⟩ := k.each 0 x rfl
 have := X8 h1
 simp only [Go.Proofs.YtclfngbealdbgaaGreat.first, List.getD_eq_getElem?_getD, List.getElem?_cons_zero, Option.getD_some]
 exact ⟨h1, Zmz this.2.1 this.2.2.1 h2⟩
theorem KidsOk.snoc {s : GSys} {c : Nat} {op n : Int} {ds : List TT} {x : TT} (k : KidsOk s c op n ds) (h1 : x.good s (c + (Qp op ds.length).toNat)) (h2 : QL s op n ds.length (hd x.ty) = 0) (h3 : ¬ (op = 10 ∧ ds.length = 1 ∧ x.ty ≠ QI (Go.Proofs.YtclfngbealdbgaaGreat.first ds))) : KidsOk s c op n (ds ++ [x]) := by
 refine ⟨fun i y hy => ?_, fun h10 y hy => ?_⟩
 ·rcases Nat.lt_trichotomy i ds.length with g | g | g
  ·rw [List.getElem?_append_left g] at hy; exact k.each i y hy
  ·subst g
   rw [List.getElem?_append_right (Nat.le_refl _)] at hy
   simp at hy; subst hy; exact ⟨h1, h2⟩
  ·rw [List.getElem?_append_right (by omega), List.getElem?_eq_none (by simp; omega)] at hy; simp at hy
 ·have hf : ds ≠ [] → Go.Proofs.YtclfngbealdbgaaGreat.first (ds ++ [x]) = Go.Proofs.YtclfngbealdbgaaGreat.first ds := by
   intro g
   cases ds with
   | nil => exact absurd rfl g
   | cons a l => simp [Go.Proofs.YtclfngbealdbgaaGreat.first, tyP]
  rcases Nat.lt_trichotomy 1 ds.length with g | g | g
  ·rw [List.getElem?_append_left g] at hy
   rw [hf (by rintro rfl; simp at g)]
   exact k.app h10 y hy
  ·rw [List.getElem?_append_right (by omega), ← g] at hy
   simp at hy; subst hy
   rw [hf (by rintro rfl; simp at g)]
   by_cases e : x.ty = QI (Go.Proofs.YtclfngbealdbgaaGreat.first ds)
   ·exact e
   ·exact absurd ⟨h10, g.symm, e⟩ h3
  ·rw [List.getElem?_append_right (by omega), List.getElem?_eq_none (by simp; omega)] at hy; simp at hy
theorem Zc1 {s : GSys} (t : s.Tab) {a b : List Int} {n : Nat} (ha : a.length = n) (hb : b.length = n) : (XV s a b).length = n ∧ ∀ u ∈ XV s a b, s.G u := by
 refine ⟨by simp [XV, ha, hb], fun u hu => ?_⟩
 unfold XV at hu
 rw [List.zipWith_eq_zipWith_take_min] at hu
 simp only [List.mem_iff_getElem, List.getElem_zipWith] at hu
 obtain ⟨i, hi, rfl⟩ := hu
 exact GSys.Gpl t _ _
theorem X5 {s : GSys} (t : s.Tab) {g : Int} {a : List Int} {n : Nat} (ha : a.length = n) : (QT s g a).length = n ∧ ∀ u ∈ QT s g a, s.G u := by
 refine ⟨by simp [QT, ha], fun u hu => ?_⟩
 simp only [QT, List.mem_map] at hu
 obtain ⟨x, _, rfl⟩ := hu
 exact GSys.Gtm t _ _
theorem VP {s : GSys} (t : s.Tab) (n : Nat) : (zeros n).length = n ∧ ∀ u ∈ zeros n, s.G u := by
 refine ⟨by simp [zeros], fun u hu => ?_⟩
 simp [zeros] at hu
 rw [hu.2]; exact GSys.G0 t
theorem Zc0 {s : GSys} (t : s.Tab) (n i : Nat) : ((zeros n).set i 1).length = n ∧ ∀ u ∈ (zeros n).set i 1, s.G u := by
 refine ⟨by simp [zeros], fun u hu => ?_⟩
 rcases List.mem_or_eq_of_mem_set hu with hu | rfl
 ·exact (VP t n).2 u hu
 ·exact GSys.G1 t
theorem Zdm {s : GSys} {c : Nat} {op : Int} {i : Nat} {x : TT} (h : x.good s (c + (Qp op i).toNat)) : (x.needs.drop (Qp op i).toNat).length = c ∧ ∀ u ∈ x.needs.drop (Qp op i).toNat, s.G u :=
 ⟨by rw [List.length_drop, h.2.1]; omega, fun u hu => h.2.2 u (List.mem_of_mem_drop hu)⟩
theorem Zfx {size : Int} : okC size true 1 = true ∧ okC size true 2 = true := by
 unfold okC
 exact ⟨by simp [QM, W4], by simp [QM, W4]⟩
theorem Zis {size n : Int} (h0 : 0 ≤ n) (h1 : n < size) (h2 : size ≤ 16) : QM (3 + n) = true ∧ W1 (3 + n) = n ∧ okC size true (3 + n) = true ∧ Wv (3 + n) = some 2 := by
 have ha : QM (3 + n) = true := by rw [KU]; omega
 have hg : W1 (3 + n) = n := by unfold W1; rw [if_neg (by omega), if_neg (by omega)]; omega
 refine ⟨ha, hg, ?_, JG ha⟩
 unfold okC
 rw [hg]; simp [Ql, Qi, h0, h1]
theorem ZmW {size n : Int} (h0 : 0 ≤ n) (h1 : n < size) (h2 : size ≤ 16) : W4 (19 + n) = true ∧ W1 (19 + n) = n ∧ okC size true (19 + n) = true ∧ Wv (19 + n) = some 1 := by
 have ha : W4 (19 + n) = true := by rw [Zf4]; omega
 have hg : W1 (19 + n) = n := by unfold W1; rw [if_neg (by omega), if_pos (by omega)]; omega
 refine ⟨ha, hg, ?_, Zdk ha⟩
 unfold okC
 rw [hg]; simp [Ql, Qi, h0, h1]
structure NodeOk (s : GSys) (c : Nat) (op n : Int) (ty : List Int) (len : Nat) : Prop where
 many : (len : Int) = YV op
 var : op = 0 → 0 ≤ n ∧ n < c
 grade : Z0 op = true → s.G n
 typed : Xs op = true → okL s.size ty = true
 op13 : 0 ≤ op ∧ op ≤ 12
theorem Zdc {s : GSys} {c : Nat} {op n : Int} {ty : List Int} {len : Nat} (h : YQ c s.size true op n ty len = true) : NodeOk s c op n ty len := by
 unfold YQ at h
 simp only [Bool.and_eq_true] at h
 obtain ⟨h1, h2, h3⟩ := h
 have hop : op = 0 ∨ op = 1 ∨ op = 2 ∨ op = 3 ∨ op = 4 ∨ op = 5 ∨ op = 6 ∨ op = 7 ∨ op = 8 ∨ op = 9 ∨ op = 10 ∨ op = 11 ∨ op = 12 := ops13 (Zpt h1)
 rw [Qe] at h1
 refine ⟨h1, fun h0 => ?_, fun hh => ?_, fun ht => ?_, by omega⟩
 ·subst h0
  simp [ZbV, QV] at h2
  omega
 ·have h01 : op ≠ 0 ∧ op ≠ 1 := by
   constructor <;> (rintro rfl; simp [Z0, Qe] at hh)
  unfold ZbV at h2
  rw [if_neg (by simp [Qc, h01.1]), if_neg (by simp [Qc, h01.2]), if_pos hh] at h2
  simp [Ql, Qi] at h2
  exact ⟨by omega, by omega⟩
 ·unfold tyB at h3
  rw [if_pos ht] at h3
  exact h3
theorem Zbg {s : GSys} {a b : List Int} {n : Nat} (ha : a.length = n) (hb : b.length = n) : (XO s a b).length = n := by simp [XO, ha, hb]
theorem Zde {ty nd : List Int} (h : (Xf ty nd).1 = 0) : ty.length ≤ 40 ∧ (Xf ty nd).2.1 = ty ∧ (Xf ty nd).2.2 = nd := by
 unfold Xf at h ⊢
 split at h
 ·rename_i g; rw [if_pos g]; exact ⟨g, rfl, rfl⟩
 ·simp at h
theorem Zqz {s : GSys} (t : s.Tab) {ctx : List (List Int)} (hc : ∀ l ∈ ctx, okL s.size l = true) {op n : Int} {ty : List Int} {ds : List TT} (nd : NodeOk s ctx.length op n ty ds.length) (k : KidsOk s ctx.length op n ds)
  (h : (Wc s ctx op n ty ds).1 = 0) : TT.good s ctx.length (.mk (Wc s ctx op n ty ds).2.1 (Wc s ctx op n ty ds).2.2 ds) := by
 have h16 := t.hi
 obtain ⟨many, hvar, hgr, hty, o1, o2⟩ := nd
 have get : ∀ i, i < ds.length → ∃ x, ds[i]? = some x ∧ x.good s (ctx.length + (Qp op i).toNat) := fun i hi =>
  ⟨_, List.getElem?_eq_getElem hi, (k.each i _ (List.getElem?_eq_getElem hi)).1⟩
 have tyG : ∀ i, i < ds.length → okL s.size (tyP ds i) = true := fun i hi => by
  obtain ⟨x, h1, h2⟩ := get i hi
  unfold tyP; rw [List.getD_eq_getElem?_getD, h1]; exact h2.1
 have ndL : ∀ i, i < ds.length → (ndP op ds i).length = ctx.length := fun i hi => by
  obtain ⟨x, h1, h2⟩ := get i hi
  unfold ndP; rw [List.getD_eq_getElem?_getD, h1]; exact (Zdm h2).1
 have ndG : ∀ i, i < ds.length → ∀ u ∈ ndP op ds i, s.G u := fun i hi => by
  obtain ⟨x, h1, h2⟩ := get i hi
  unfold ndP; rw [List.getD_eq_getElem?_getD, h1]; exact (Zdm h2).2
 have fst : 0 < ds.length → ZeM op (hd (tyP ds 0)) := fun hi => (k.first (by rintro rfl; simp at hi)).2.1
 have hops : op = 0 ∨ op = 1 ∨ op = 2 ∨ op = 3 ∨ op = 4 ∨ op = 5 ∨ op = 6 ∨ op = 7 ∨ op = 8 ∨ op = 9 ∨ op = 10 ∨ op = 11 ∨ op = 12 := by omega
 rcases hops with e | e | e | e | e | e | e | e | e | e | e | e | e
 all_goals subst e
 all_goals simp [YV] at many
 all_goals simp [Wc] at h ⊢
 ·obtain ⟨v0, v1⟩ := hvar rfl
  refine ⟨?_, Zc0 t _ _⟩
  simp only [TT.ty_mk]
  rw [List.getElem?_eq_getElem (by omega)]
  exact hc _ (List.getElem_mem _)
 ·exact ⟨Zhv _, VP t _⟩
 ·exact ⟨Zhv _, Zc1 t (ndL 0 (by omega)) (ndL 1 (by omega))⟩
 ·split at h
  ·rename_i e
   rw [if_pos e]
   exact ⟨tyG 1 (by omega), Zc1 t (ndL 0 (by omega)) (Zbg (ndL 1 (by omega)) (ndL 2 (by omega)))⟩
  ·simp at h
 ·obtain ⟨g1, g2, g3⟩ := Zde h
  rw [g2, g3]
  exact ⟨Zbv (tyG 0 (by omega)) (tyG 1 (by omega)) Xo.1 Zfx.1 g1, Zc1 t (ndL 0 (by omega)) (ndL 1 (by omega))⟩
 ·split at h
  ·rename_i e
   rw [if_pos e]
   exact ⟨tyG 1 (by omega), Zc1 t (X5 t (ndL 0 (by omega))).1 (ndL 1 (by omega))⟩
  ·simp at h
 ·obtain ⟨g1, g2, g3⟩ := Zde h
  rw [g2, g3]
  exact ⟨Zbv (tyG 0 (by omega)) (hty (by simp [Xs, Qe])) Xo.2 Zfx.2 g1, ndL 0 (by omega), ndG 0 (by omega)⟩
 ·obtain ⟨g1, g2, g3⟩ := Zde h
  rw [g2, g3]
  exact ⟨Zbv (hty (by simp [Xs, Qe])) (tyG 0 (by omega)) Xo.2 Zfx.2 g1, ndL 0 (by omega), ndG 0 (by omega)⟩
 ·split at h
  ·rename_i e
   split at h
   ·rename_i e2
    rw [if_pos e, if_pos e2]
    exact ⟨tyG 1 (by omega), Zc1 t (X5 t (ndL 0 (by omega))).1 (Zbg (ndL 1 (by omega)) (ndL 2 (by omega)))⟩
   ·simp at h
  ·simp at h
 ·have hg := hgr (by simp [Z0, Qe])
  obtain ⟨_, _, c1, c2⟩ := Zis hg.1 hg.2 h16
  split at h
  ·rename_i e
   obtain ⟨g1, g2, g3⟩ := Zde h
   rw [if_pos e, g2, g3]
   exact ⟨Zbv (hty (by simp [Xs, Qe])) (tyG 0 (by omega)) c2 c1 g1, ndL 0 (by omega), ndG 0 (by omega)⟩
  ·simp at h
 ·exact ⟨(JQ (tyG 0 (by omega)) (JG ((fst (by omega)).2.2.2.1 rfl))).2.2, Zc1 t (ndL 0 (by omega)) (X5 t (ndL 1 (by omega))).1⟩
 ·have hg := hgr (by simp [Z0, Qe])
  obtain ⟨_, _, c1, c2⟩ := ZmW hg.1 hg.2 h16
  obtain ⟨g1, g2, g3⟩ := Zde h
  rw [g2, g3]
  exact ⟨ZpR (tyG 0 (by omega)) c2 c1 g1, X5 t (ndL 0 (by omega))⟩
 ·split at h
  ·rename_i e
   rw [if_pos e]
   exact ⟨tyG 1 (by omega), Zc1 t (X5 t (ndL 0 (by omega))).1 (ndL 1 (by omega))⟩
  ·simp at h
theorem Zpk {s : GSys} {ctx : List (List Int)} (hc : ∀ l ∈ ctx, okL s.size l = true) {op n : Int} {ty : List Int} {ds : List TT} (hty : op = 9 → okL s.size ty = true) (k : KidsOk s ctx.length op n ds) :
  ∀ l ∈ QB op ty ds.length (first ds) ++ ctx, okL s.size l = true := by
 intro l hl
 rcases List.mem_append.1 hl with hl | hl
 ·exact ZnS hty (fun hi => by
   have := k.first (by rintro rfl; simp at hi)
   exact ⟨this.1, this.2.1⟩) l hl
 ·exact hc l hl
mutual
theorem Jr {s : GSys} (t : s.Tab) : ∀ (g : GTerm) (ctx : List (List Int)) (x : TT), (∀ l ∈ ctx, okL s.size l = true) → WE ctx.length s.size true g = true → Qr s ctx g = .ok x → x.good s ctx.length
 | .mk op n nl1 ty nl2 ks, ctx, x, hc, hf, he => by
  simp only [WE, Bool.and_eq_true] at hf
  have nd := Zdc hf.1
  rw [Qr] at he
  split at he
  ·simp at he
  ·rename_i ds hd
   split at he
   ·rename_i h0
    simp only [Res.ok.injEq] at he
    subst he
    obtain ⟨k, hl⟩ := Zej t ks ctx op n ty [] ds hc (fun h9 => nd.typed (by subst h9; simp [Xs, Qe])) (by simpa using hf.2) ⟨fun i x h => by simp at h, fun _ x h => by simp at h⟩ hd
    exact Zqz t hc (by rw [show ds.length = ks.length by simpa using hl]; exact nd) k h0
   ·simp at he
theorem Zej {s : GSys} (t : s.Tab) : ∀ (ks : List GTerm) (ctx : List (List Int)) (op n : Int) (ty : List Int) (ds ds' : List TT), (∀ l ∈ ctx, okL s.size l = true) → (op = 9 → okL s.size ty = true) →
  WR ctx.length s.size true op ds.length ks = true → KidsOk s ctx.length op n ds → Q6 s ctx op n ty ds ks = .ok ds' → KidsOk s ctx.length op n ds' ∧ ds'.length = ds.length + ks.length
 | [], ctx, op, n, ty, ds, ds', hc, hty, hf, k, he => by
  simp only [Q6, KRes.ok.injEq] at he
  subst he; exact ⟨k, rfl⟩
 | g :: ks, ctx, op, n, ty, ds, ds', hc, hty, hf, k, he => by
  simp only [WR, Bool.and_eq_true] at hf
  rw [Q6] at he
  split at he
  ·simp at he
  ·rename_i x hx
   split at he
   ·simp at he
   ·rename_i h1
    split at he
    ·simp at he
    ·rename_i h2
     have hlen : (QB op ty ds.length (first ds) ++ ctx).length = ctx.length + (Qp op ds.length).toNat := by
      rw [List.length_append, ZaN]; omega
     have := WV op ds.length
     have hg := Jr t g _ x (Zpk hc hty k) (by rw [hlen, show ((ctx.length + (Qp op ds.length).toNat : Nat) : Int) = ctx.length + Qp op ds.length by omega]; exact hf.1) hx
     rw [hlen] at hg
     have k2 := k.snoc hg (by simpa using h1) h2
     have := Zej t ks ctx op n ty (ds ++ [x]) ds' hc hty (by rw [List.length_append]; exact hf.2) k2 he
     exact ⟨this.1, by rw [this.2]; simp; omega⟩
end
end Go.Proofs.YtclfngbealdbgaaGreat
namespace Go.Proofs.YtclfngbealdbgaaGreat
open Go Go.TL
open Go.Proofs.YtclfngbealdbgaaGreat.Ty
set_option linter.unusedSimpArgs false
set_option linter.unusedVariables false
set_option maxRecDepth 20000
set_option maxHeartbeats 4000000
def FnN (P : Program) (f : LV) (a b n : Int) : Prop := ∃ fid vals, YN f [N a, N b] = some (fid, vals) ∧ QE 0 vals ∧ Qd P fid vals (· = N n)
theorem onFn_N {P : Program} {f : LV} {a b n : Int} {d : Nat} {K : St → Prop} {s : St} (h : FnN P f a b n) (hk : K { t := upd s.t d (N n), h := s.h }) : onFn P .no f [N a, N b] (some d) K s := by
 obtain ⟨fid, vals, h1, h2, h3⟩ := h
 exact ⟨fid, vals, h1, Qa (rw := .no) h3 h2 hk⟩
theorem Zp4 {z : List LV} {h0 : List Box} {l : List Int} (e : z = l.map N) : Qt (h0 ++ [some z]) (.ha h0.length 1 0 l.length l.length) = some (OU true false l, h0 ++ [none]) := by
 subst e
 rw [frz_ha (xs := l.map N) (by simp) (by simp)]
 simp [Zjk]
theorem frz_1 (l : List Int) : Qt [none, some (l.map N)] (.ha 1 1 0 l.length l.length) = some (OU true false l, [none, none]) := Zp4 (h0 := [none]) rfl
theorem fill_N {l : List Int} : fill (fun x => [N x]) [N 0] l l.length = l.map N := by
 rw [fill_end]; induction l with
 | nil => rfl
 | cons x l ih => simpa using ih
theorem ZpY (s : GSys) (f : LV) (g : Int → Int → Int) (sf : share f = f) (lf : Low 0 f) (n1 n2 : Bool) (a b : List Int) (hl : a.length ≤ 1099511627776) (hab : a.length = b.length)
  (hp : ∀ (i : Nat) (h : i < a.length), FnN Tryz.prog f a[i] (b[i]'(by omega)) (g a[i] (b[i]'(by omega)))) : Qd Tryz.prog YI [s.lv, f, L n1 a, L n2 b] (· = OU true false (List.zipWith g a b)) := by
 obtain ⟨z, hze⟩ : ∃ z, z = List.zipWith g a b := ⟨_, rfl⟩
 have hz : z.length = a.length := by rw [hze]; simp [hab]
 have hget : ∀ (i : Nat) (h : i < a.length), z[i]'(by omega) = g a[i] (b[i]'(by omega)) := by intro i h; simp [hze]
 rw [← hze]
 clear hze
 refine Qd.of_codeOf Zds Qz (by simp) ⟨_, rfl, by simp⟩ ?_
 have hm : (a.length : Int) ≤ (most : Nat) := by unfold most; omega
 have he : ∀ x : Int, ([N x] : List LV).length = 1 := by simp
 simp (disch := omega) [Ve, hm, sf, Qv, Qt]
 refine XH a.length 0 (fun i t h => t 16 = N i ∧ h = [none, some (fill (fun x => [N x]) [N 0] z i)]) (by simp [ZkD, hz]) (by omega) ?_
 rintro i t1 hh hf hi ⟨e16, rfl⟩
 (have e1 := hf 1 (by kernel_rfl); have e2 := hf 2 (by kernel_rfl); have e3 := hf 3 (by kernel_rfl); have e9 := hf 9 (by kernel_rfl); have e15 := hf 15 (by kernel_rfl); clear hf; simp [sf] at e1 e2 e3 e9 e15)
 simp (disch := omega) [e1, e2, e3, e9, e15, e16]
 (with_reducible first | refine Qo (fun h6 => ?_) (fun h6 => ?_) | refine Qn (fun h6 => ?_) (fun h6 => ?_))
 ·simp only [Qi, Qg, Ql, Qk, Qe, Qc, Bool.not_true, Bool.not_false] at h6
  have hlen := Zm6 (z := [N 0]) (l := z) he rfl (i := i) (by omega)
  have hst := ZkV (z := [N 0]) (l := z) he rfl (i := i) (by omega)
  have hpi := hp i (by omega)
  rw [hget i (by omega)] at hst
  simp (disch := omega) [e1, e2, e3, e9, e15, e16, Xh, sf]
  refine onFn_N hpi ?_
  simp (disch := omega) [e1, e2, e3, e9, e15, e16, Zmy, Qf, hlen]
  exact ⟨by omega, by omega, by simpa [splice] using hst⟩
 ·simp only [Qi, Qg, Ql, Qk, Qe, Qc, Bool.not_true, Bool.not_false] at h6
  rw [show i = z.length by omega, fill_N]
  simp (disch := omega) [e9]
  rw [show a.length = z.length by omega, frz_1]
  simp
theorem plus_fn {s : GSys} (t : s.Tab) {a b : Int} (ha : s.G a) (hb : s.G b) : FnN Tryz.prog (.fnm QC [s.lv]) a b (s.pl a b) :=
 ⟨QC, [s.lv, N a, N b], by simp [YN], by simp, Zdf t ha hb⟩
theorem join_fn {s : GSys} (t : s.Tab) {a b : Int} (ha : s.G a) (hb : s.G b) : FnN Tryz.prog (.fnm WT [s.lv]) a b (s.join a b) :=
 ⟨WT, [s.lv, N a, N b], by simp [YN], by simp, ZpE t ha hb⟩
theorem sumF_ok {s : GSys} (t : s.Tab) (n1 n2 : Bool) (a b : List Int) (hl : a.length ≤ 1099511627776) (hab : a.length = b.length) (ha : ∀ u ∈ a, s.G u) (hb : ∀ u ∈ b, s.G u) :
  Qd Tryz.prog WI [s.lv, L n1 a, L n2 b] (· = OU true false (XV s a b)) := by
 refine Qd.of_codeOf ZeB Qz (by simp) ⟨_, rfl, by simp⟩ ?_
 have h := ZpY s (.fnm QC [s.lv]) s.pl (by simp) (by simp) n1 n2 a b hl hab (fun i hi => plus_fn t (ha _ (List.getElem_mem _)) (hb _ (List.getElem_mem _)))
 simp (disch := omega) [VQ, Qv, Qt]
 refine Qa (r := OU true false (XV s a b)) h (by simp) ?_
 simp (disch := omega)
theorem ZnG {s : GSys} (t : s.Tab) (n1 n2 : Bool) (a b : List Int) (hl : a.length ≤ 1099511627776) (hab : a.length = b.length) (ha : ∀ u ∈ a, s.G u) (hb : ∀ u ∈ b, s.G u) :
  Qd Tryz.prog YJ [s.lv, L n1 a, L n2 b] (· = OU true false (XO s a b)) := by
 refine Qd.of_codeOf Zdw Qz (by simp) ⟨_, rfl, by simp⟩ ?_
 have h := ZpY s (.fnm WT [s.lv]) s.join (by simp) (by simp) n1 n2 a b hl hab (fun i hi => join_fn t (ha _ (List.getElem_mem _)) (hb _ (List.getElem_mem _)))
 simp (disch := omega) [Vb, Qv, Qt]
 refine Qa (r := OU true false (XO s a b)) h (by simp) ?_
 simp (disch := omega)
theorem VE {s : GSys} (t : s.Tab) (g : Int) (hg : s.G g) (n1 : Bool) (a : List Int) (hl : a.length ≤ 1099511627776) (ha : ∀ u ∈ a, s.G u) :
  Qd Tryz.prog WP [s.lv, N g, L n1 a] (· = OU true false (QT s g a)) := by
 obtain ⟨z, hze⟩ : ∃ z, z = QT s g a := ⟨_, rfl⟩
 have hz : z.length = a.length := by rw [hze]; simp [QT]
 have hget : ∀ (i : Nat) (h : i < a.length), z[i]'(by omega) = s.tm g a[i] := by intro i h; simp [hze, QT]
 rw [← hze]
 clear hze
 refine Qd.of_codeOf ZbR Qz (by simp) ⟨_, rfl, by simp⟩ ?_
 have hm : (a.length : Int) ≤ (most : Nat) := by unfold most; omega
 have he : ∀ x : Int, ([N x] : List LV).length = 1 := by simp
 simp (disch := omega) [J3, hm, Qv, Qt]
 refine XH a.length 0 (fun i t h => t 15 = N i ∧ h = [none, some (fill (fun x => [N x]) [N 0] z i)]) (by simp [ZkD, hz]) (by omega) ?_
 rintro i t1 hh hf hi ⟨e15, rfl⟩
 (have e1 := hf 1 (by kernel_rfl); have e3 := hf 3 (by kernel_rfl); have e7 := hf 7 (by kernel_rfl); have e13 := hf 13 (by kernel_rfl); have e14 := hf 14 (by kernel_rfl); clear hf; simp [] at e1 e3 e7 e13 e14)
 simp (disch := omega) [e1, e3, e7, e13, e14, e15]
 (with_reducible first | refine Qo (fun h6 => ?_) (fun h6 => ?_) | refine Qn (fun h6 => ?_) (fun h6 => ?_))
 ·simp only [Qi, Qg, Ql, Qk, Qe, Qc, Bool.not_true, Bool.not_false] at h6
  have hlen := Zm6 (z := [N 0]) (l := z) he rfl (i := i) (by omega)
  have hst := ZkV (z := [N 0]) (l := z) he rfl (i := i) (by omega)
  rw [hget i (by omega)] at hst
  simp (disch := omega) [e1, e3, e7, e13, e14, e15, Xh]
  refine Qa (Zca t hg (ha _ (List.getElem_mem (show i < a.length by omega)))) (by simp) ?_
  simp (disch := omega) [e1, e3, e7, e13, e14, e15, Zmy, Qf, hlen]
  exact ⟨by omega, by omega, by simpa [splice] using hst⟩
 ·simp only [Qi, Qg, Ql, Qk, Qe, Qc, Bool.not_true, Bool.not_false] at h6
  rw [show i = z.length by omega, fill_N]
  simp (disch := omega) [e7]
  rw [show a.length = z.length by omega, frz_1]
  simp
theorem Zky (f : LV) (p : Int → Bool) (sf : share f = f) (lf : Low 0 f) (nl : Bool) (l : List Int) (hlen : l.length ≤ 1099511627776) (hp : ∀ c ∈ l, FnB Tryz.prog f (N c) (p c)) :
  Qd Tryz.prog XJ [L nl l, f] (fun r => ∃ n : Int, r = N n ∧ leB 0 n = l.any p) := by
 refine Qd.of_codeOf KC Qz (by simp) ⟨N (if l.any p = true then 0 else -1), ⟨_, rfl, by split <;> simp_all [leB]⟩, by simp⟩ ?_
 simp (disch := omega) [YX, sf]
 refine XH l.length 0 (fun i t _ => t 8 = N i ∧ l.any p = (l.drop i).any p) (by simp) (by omega) ?_
 rintro i t1 hh hf hi ⟨e8, hj⟩
 (have e0 := hf 0 (by kernel_rfl); have e1 := hf 1 (by kernel_rfl); have e6 := hf 6 (by kernel_rfl); have e7 := hf 7 (by kernel_rfl); clear hf; simp [sf] at e0 e1 e6 e7)
 simp (disch := omega) [e0, e1, e6, e7, e8]
 (with_reducible first | refine Qo (fun h6 => ?_) (fun h6 => ?_) | refine Qn (fun h6 => ?_) (fun h6 => ?_))
 ·simp only [Qi, Qg, Ql, Qk, Qe, Qc, Bool.not_true, Bool.not_false] at h6
  have hd := List.drop_eq_getElem_cons (l := l) (i := i) (by omega)
  have hpc := hp (l[i]'(by omega)) (List.getElem_mem _)
  simp (disch := omega) [e0, e1, e6, e7, e8, Xh, sf]
  repeat' (first
  | with_reducible refine Zlj hpc ?_
  | (with_reducible (first | refine Qo (fun hb_ => ?_) (fun hb_ => ?_) | refine Qn (fun hb_ => ?_) (fun hb_ => ?_)) <;> simp (disch := omega) [hb_, e0, e1, e6, e7, e8, Xh, sf])
  | simp (disch := omega) [e0, e1, e6, e7, e8, Xh, sf])
  ·rw [hj, hd, List.any_cons, hb_, Bool.true_or, Ql]; omega
  ·exact ⟨by omega, Qf (by omega), by rw [hj, hd, List.any_cons, hb_, Bool.false_or]⟩
 ·simp only [Qi, Qg, Ql, Qk, Qe, Qc, Bool.not_true, Bool.not_false] at h6
  simp (disch := omega)
  rw [hj, show i = l.length by omega, List.drop_length]; simp [leB]
theorem ZfS (f : LV) (p : Int → Bool) (sf : share f = f) (lf : Low 0 f) (nl : Bool) (l : List Int) (hlen : l.length ≤ 1099511627776) (hp : ∀ c ∈ l, FnB Tryz.prog f (N c) (p c)) :
  Qd Tryz.prog Xl [L nl l, f] (· = B (l.any p)) := by
 refine Qd.of_codeOf JK Qz (by simp) ⟨_, rfl, by simp⟩ ?_
 simp (disch := omega) [Yn, sf]
 refine Zm9 (Zky f p sf lf nl l hlen hp) (by simp [lf]) ?_
 rintro r ⟨n, rfl, hn⟩
 simp (disch := omega) [sf, hn]
theorem Zm5 {s : GSys} (t : s.Tab) {u g : Int} (hu : s.G u) (hg : s.G g) : FnB Tryz.prog (.fn Xe [.rp s.cells, .rp [N g]]) (N u) (!s.le u g) := by
 refine ⟨Xe, [N u, .rp s.cells, .rp [N g]], by simp [YN], by simp, ?_⟩
 refine Qd.of_codeOf Zax Qz (by simp) ⟨_, rfl, by simp⟩ ?_
 simp (disch := omega) [Js]
 refine Qa (JU t hu hg) (by simp) ?_
 simp (disch := omega)
theorem Vw {s : GSys} (t : s.Tab) {g : Int} (hg : s.G g) (nl : Bool) (l : List Int) (hl : l.length ≤ 1099511627776) (hu : ∀ u ∈ l, s.G u) : Qd Tryz.prog WQ [s.lv, L nl l, N g] (· = B (Wp s l g)) := by
 refine Qd.of_codeOf ZbU Qz (by simp) ⟨_, rfl, by simp⟩ ?_
 have hc := ZfS (.fn Xe [.rp s.cells, .rp [N g]]) (fun u => !s.le u g) (by simp) (by simp) nl l hl (fun c hc => Zm5 t (hu c hc) hg)
 simp (disch := omega) [J0, Qv, Qt]
 refine Qa hc (by simp) ?_
 simp (disch := omega)
 simp [Wp, List.all_eq_not_any_not]
def cl (nl : Bool) (l : List Int) : LV := if nl = true then .sl false true 1 [] else OU true false l
end Go.Proofs.YtclfngbealdbgaaGreat
namespace Go.Proofs.YtclfngbealdbgaaGreat
open Go Go.TL
open Go.Proofs.YtclfngbealdbgaaGreat.Ty
set_option linter.unusedSimpArgs false
set_option linter.unusedVariables false
set_option maxRecDepth 20000
set_option maxHeartbeats 4000000
theorem growI_ok (n : Int) (h0 : 0 ≤ n) (h1 : n ≤ 1099511627776) : Qd Tryz.prog Yy [.sl false true 1 [], N n] (· = .sl (ltB 0 n) (!ltB 0 n) 1 []) := by
 refine Qd.of_codeOf Zar Qz (by simp) ⟨_, rfl, by simp⟩ ?_
 have hm : n ≤ (most : Nat) := by unfold most; omega
 have hneg : ltB n 0 = false := by rw [Qg]; omega
 simp (disch := omega) [Z6, Qf, hneg, Ja]
 (with_reducible first | refine Qo (fun h1 => ?_) (fun h1 => ?_) | refine Qn (fun h1 => ?_) (fun h1 => ?_))
 ·have hmm : (most : Int) = 1099511627776 := rfl
  have hp : 0 < n := by rw [Qi] at h1; exact h1
  have hc : Ja 1 (.sl false true 1 []) none (some 0) none = some (.sl false true 1 []) := by simp [Ja]
  simp (disch := omega) [h1, hc, hp, hm]
 ·simp (disch := omega) [h1]
abbrev rowI (c : Bool × List Int) : LV := .sl false c.1 1 (c.2.map fun x => [N x])
def ZdS (ls : List (Bool × List Int)) : List (List LV) := ls.map fun c => [rowI c]
def lnI (ls : List (Bool × List Int)) : Nat := (ls.map fun c => c.2.length).sum
def flI (ls : List (Bool × List Int)) : List Int := (ls.map fun c => c.2).flatten
abbrev catI (l : List Int) : LV := .sl (ltB 0 l.length) (!ltB 0 l.length) 1 (l.map fun x => [N x])
theorem Zhm (a b : List (Bool × List Int)) : lnI (a ++ b) = lnI a + lnI b := by simp [lnI]
theorem ZhE (a : Bool × List Int) (b : List (Bool × List Int)) : lnI (a :: b) = a.2.length + lnI b := by simp [lnI]
theorem flI_app (a b : List (Bool × List Int)) : flI (a ++ b) = flI a ++ flI b := by simp [flI]
theorem Zio (a : List (Bool × List Int)) : (flI a).length = lnI a := by simp [flI, lnI, Function.comp_def]
@[simp] theorem ZpA (c : Bool × List Int) : share (rowI c) = rowI c := by simp [rowI]
theorem ZhH (ls : List (Bool × List Int)) (hl : ls.length ≤ 1099511627776) (ht : lnI ls ≤ 1099511627776) :
  Qd Tryz.prog QX [.sl false false 1 (ZdS ls)] (· = catI (flI ls)) := by
 have hlow : Wj 0 (ZdS ls) := by simp [ZdS]
 have hfl := Zio ls
 refine Qd.of_codeOf Vz Qz (by simp) ⟨_, rfl, by simp only [low_sl, ZiU, Zag, low_sc, Za5, and_self, implies_true]⟩ ?_
 have hsr : Qu (ZdS ls) = ZdS ls := by simp [ZdS]
 simp (disch := omega) [Zy, hsr]
 have hrl : (ZdS ls).length = ls.length := by simp [ZdS]
 rw [hrl]
 have idx : ∀ i : Nat, i < ls.length → QQ 1 (.sl false false 1 (ZdS ls)) (i : Int) = some (.rp [rowI (ls.getD i (false, []))]) := fun i hi => by
  have := Zf6 rowI ZpA ls false false i (by omega) (by omega)
  rw [ZdS, this]; simp [List.getD_eq_getElem?_getD, hi]
 have tk : ∀ i : Nat, i < ls.length → ls.take (i + 1) = ls.take i ++ [ls.getD i (false, [])] := fun i hi => by
  rw [List.take_succ_eq_append_getElem hi]; simp [List.getD_eq_getElem?_getD, hi]
 have lnle : ∀ i : Nat, lnI (ls.take i) ≤ lnI ls := fun i => by
  have := Zhm (ls.take i) (ls.drop i)
  rw [List.take_append_drop] at this; omega
 refine Wf ls.length 0 (fun i t h => h = [] ∧ t 11 = N i ∧ t 3 = N (lnI (ls.take i))) (fun t h => h = [] ∧ t 3 = N (lnI ls)) (by simp [lnI]) (by omega) ?_ ?_
 ·rintro i t1 hh hf hi ⟨rfl, e11, e3⟩
  (have e9 := hf 9 (by kernel_rfl); have e10 := hf 10 (by kernel_rfl); clear hf; simp [hsr] at e9 e10)
  simp (disch := omega) [e3, e9, e10, e11]
  by_cases h6 : i < ls.length
  ·have hb : ltB (i : Int) ls.length = true := by rw [Qi]; omega
   have t1' := tk i h6
   have t2 := lnle (i + 1)
   have hix := idx i h6
   rw [t1', Zhm, ZhE] at t2
   rw [t1', Zhm, ZhE]
   generalize ls.getD i (false, []) = c at t2 hix ⊢
   generalize lnI (ls.take i) = m at *
   have hnb : ltB ((m : Int) + c.2.length) 0 = false := by rw [Qg]; omega
   simp (disch := omega) [e3, e9, e10, e11, hb, hix, Qf, hnb]
   simp [lnI]; omega
  ·have hb : ltB (i : Int) ls.length = false := by rw [Qg]; omega
   simp (disch := omega) [e3, e9, e10, e11, hb]
   rw [List.take_of_length_le (by omega)]
 ·rintro t1 hh hf ⟨rfl, e3⟩
  (have e0 := hf 0 (by kernel_rfl); clear hf; simp [hsr] at e0)
  simp (disch := omega) [e3, e0]
  refine Qa (growI_ok _ (by omega) (by omega)) (by simp) ?_
  simp (disch := omega) [e3, e0, hsr, hrl]
  refine Wf ls.length 0 (fun i t h => h = [] ∧ t 27 = N i ∧ t 6 = .sl (ltB 0 (lnI ls)) (!ltB 0 (lnI ls)) 1 ((flI (ls.take i)).map fun x => [N x])) (fun t h => h = [] ∧ t 6 = catI (flI ls)) (by simp [flI]) (by omega) ?_ ?_
  ·rintro i t2 hh hf2 hi ⟨rfl, e27, e6⟩
   have e25 := hf2 25 (by kernel_rfl); have e26 := hf2 26 (by kernel_rfl); clear hf2; simp [hsr] at e25 e26
   simp (disch := omega) [e6, e25, e26, e27]
   by_cases h6 : i < ls.length
   ·have hb : ltB (i : Int) ls.length = true := by rw [Qi]; omega
    have t1' := tk i h6
    have t2' := lnle (i + 1)
    have t3 := Zio (ls.take i)
    have hix := idx i h6
    rw [t1', Zhm, ZhE] at t2'
    rw [t1', flI_app]
    generalize ls.getD i (false, []) = c at t2' hix ⊢
    rw [← t3] at t2'
    generalize flI (ls.take i) = m at *
    simp (disch := omega) [e6, e25, e26, e27, hb, hix, Qf]
    have ap : WN 1 (.sl (ltB 0 (lnI ls)) (!ltB 0 (lnI ls)) 1 (m.map fun x => [N x])) (.sl false c.1 1 (c.2.map fun x => [N x])) = some (.sl (ltB 0 (lnI ls)) (!ltB 0 (lnI ls)) 1 ((m ++ c.2).map fun x => [N x])) := by
     cases hq : ltB 0 (lnI ls : Int)
     ·rw [Qg] at hq
      have c0 : c.2 = [] := List.eq_nil_of_length_eq_zero (by omega)
      have m0 : m = [] := List.eq_nil_of_length_eq_zero (by omega)
      simp [WN, c0, m0, most]
     ·simp only [WN]
      rw [if_pos ⟨by simp, .inl trivial, .inl trivial, by simp [most]; omega⟩]
      simp
    have e0 : flI [c] = c.2 := by simp [flI]
    rw [ap]
    simp (disch := omega) [e6, e25, e26, e27, hb, hix, Qf, e0]
    omega
   ·have hb : ltB (i : Int) ls.length = false := by rw [Qg]; omega
    simp (disch := omega) [e6, e25, e26, e27, hb]
    rw [List.take_of_length_le (by omega), hfl]
    exact ⟨rfl, rfl⟩
  ·rintro t1 hh hf ⟨rfl, e6⟩
   simp (disch := omega) [e6]
theorem growC_ok (n : Int) (h0 : 0 ≤ n) (h1 : n ≤ 1099511627776) : Qd Tryz.prog XS [.sl false true 1 [], N n] (· = .sl (ltB 0 n) (!ltB 0 n) 1 []) := by
 refine Qd.of_codeOf Va Qz (by simp) ⟨_, rfl, by simp⟩ ?_
 have hm : n ≤ (most : Nat) := by unfold most; omega
 have hneg : ltB n 0 = false := by rw [Qg]; omega
 simp (disch := omega) [Zb, Qf, hneg, Ja]
 (with_reducible first | refine Qo (fun h1 => ?_) (fun h1 => ?_) | refine Qn (fun h1 => ?_) (fun h1 => ?_))
 ·have hmm : (most : Int) = 1099511627776 := rfl
  have hp : 0 < n := by rw [Qi] at h1; exact h1
  have hc : Ja 1 (.sl false true 1 []) none (some 0) none = some (.sl false true 1 []) := by simp [Ja]
  simp (disch := omega) [h1, hc, hp, hm]
 ·simp (disch := omega) [h1]
abbrev rowC (c : Bool × List (Bool × List Int)) : LV := .sl false c.1 1 (c.2.map fun x => [eC x])
def ZdO (ls : List (Bool × List (Bool × List Int))) : List (List LV) := ls.map fun c => [rowC c]
def lnC (ls : List (Bool × List (Bool × List Int))) : Nat := (ls.map fun c => c.2.length).sum
def flC (ls : List (Bool × List (Bool × List Int))) : List (Bool × List Int) := (ls.map fun c => c.2).flatten
abbrev catC (l : List (Bool × List Int)) : LV := .sl (ltB 0 l.length) (!ltB 0 l.length) 1 (l.map fun x => [eC x])
theorem Zhl (a b : List (Bool × List (Bool × List Int))) : lnC (a ++ b) = lnC a + lnC b := by simp [lnC]
theorem ZhS (a : Bool × List (Bool × List Int)) (b : List (Bool × List (Bool × List Int))) : lnC (a :: b) = a.2.length + lnC b := by simp [lnC]
theorem flC_app (a b : List (Bool × List (Bool × List Int))) : flC (a ++ b) = flC a ++ flC b := by simp [flC]
theorem ZhO (a : List (Bool × List (Bool × List Int))) : (flC a).length = lnC a := by simp [flC, lnC, Function.comp_def]
@[simp] theorem ZoD (c : Bool × List (Bool × List Int)) : share (rowC c) = rowC c := by simp [rowC]
theorem ZoO (ls : List (Bool × List (Bool × List Int))) (hl : ls.length ≤ 1099511627776) (ht : lnC ls ≤ 1099511627776) :
  Qd Tryz.prog Xz [.sl false false 1 (ZdO ls)] (· = catC (flC ls)) := by
 have hlow : Wj 0 (ZdO ls) := by simp [ZdO]
 have hfl := ZhO ls
 refine Qd.of_codeOf Kf Qz (by simp) ⟨_, rfl, by simp only [low_sl, ZiU, Zag, low_sc, Za5, and_self, implies_true]⟩ ?_
 have hsr : Qu (ZdO ls) = ZdO ls := by simp [ZdO]
 simp (disch := omega) [YO, hsr]
 have hrl : (ZdO ls).length = ls.length := by simp [ZdO]
 rw [hrl]
 have idx : ∀ i : Nat, i < ls.length → QQ 1 (.sl false false 1 (ZdO ls)) (i : Int) = some (.rp [rowC (ls.getD i (false, []))]) := fun i hi => by
  have := Zf6 rowC ZoD ls false false i (by omega) (by omega)
  rw [ZdO, this]; simp [List.getD_eq_getElem?_getD, hi]
 have tk : ∀ i : Nat, i < ls.length → ls.take (i + 1) = ls.take i ++ [ls.getD i (false, [])] := fun i hi => by
  rw [List.take_succ_eq_append_getElem hi]; simp [List.getD_eq_getElem?_getD, hi]
 have lnle : ∀ i : Nat, lnC (ls.take i) ≤ lnC ls := fun i => by
  have := Zhl (ls.take i) (ls.drop i)
  rw [List.take_append_drop] at this; omega
 refine Wf ls.length 0 (fun i t h => h = [] ∧ t 11 = N i ∧ t 3 = N (lnC (ls.take i))) (fun t h => h = [] ∧ t 3 = N (lnC ls)) (by simp [lnC]) (by omega) ?_ ?_
 ·rintro i t1 hh hf hi ⟨rfl, e11, e3⟩
  (have e9 := hf 9 (by kernel_rfl); have e10 := hf 10 (by kernel_rfl); clear hf; simp [hsr] at e9 e10)
  simp (disch := omega) [e3, e9, e10, e11]
  by_cases h6 : i < ls.length
  ·have hb : ltB (i : Int) ls.length = true := by rw [Qi]; omega
   have t1' := tk i h6
   have t2 := lnle (i + 1)
   have hix := idx i h6
   rw [t1', Zhl, ZhS] at t2
   rw [t1', Zhl, ZhS]
   generalize ls.getD i (false, []) = c at t2 hix ⊢
   generalize lnC (ls.take i) = m at *
   have hnb : ltB ((m : Int) + c.2.length) 0 = false := by rw [Qg]; omega
   simp (disch := omega) [e3, e9, e10, e11, hb, hix, Qf, hnb]
   simp [lnC]; omega
  ·have hb : ltB (i : Int) ls.length = false := by rw [Qg]; omega
   simp (disch := omega) [e3, e9, e10, e11, hb]
   rw [List.take_of_length_le (by omega)]
 ·rintro t1 hh hf ⟨rfl, e3⟩
  (have e0 := hf 0 (by kernel_rfl); clear hf; simp [hsr] at e0)
  simp (disch := omega) [e3, e0]
  refine Qa (growC_ok _ (by omega) (by omega)) (by simp) ?_
  simp (disch := omega) [e3, e0, hsr, hrl]
  refine Wf ls.length 0 (fun i t h => h = [] ∧ t 27 = N i ∧ t 6 = .sl (ltB 0 (lnC ls)) (!ltB 0 (lnC ls)) 1 ((flC (ls.take i)).map fun x => [eC x])) (fun t h => h = [] ∧ t 6 = catC (flC ls)) (by simp [flC]) (by omega) ?_ ?_
  ·rintro i t2 hh hf2 hi ⟨rfl, e27, e6⟩
   have e25 := hf2 25 (by kernel_rfl); have e26 := hf2 26 (by kernel_rfl); clear hf2; simp [hsr] at e25 e26
   simp (disch := omega) [e6, e25, e26, e27]
   by_cases h6 : i < ls.length
   ·have hb : ltB (i : Int) ls.length = true := by rw [Qi]; omega
    have t1' := tk i h6
    have t2' := lnle (i + 1)
    have t3 := ZhO (ls.take i)
    have hix := idx i h6
    rw [t1', Zhl, ZhS] at t2'
    rw [t1', flC_app]
    generalize ls.getD i (false, []) = c at t2' hix ⊢
    rw [← t3] at t2'
    generalize flC (ls.take i) = m at *
    simp (disch := omega) [e6, e25, e26, e27, hb, hix, Qf]
    have ap : WN 1 (.sl (ltB 0 (lnC ls)) (!ltB 0 (lnC ls)) 1 (m.map fun x => [eC x])) (.sl false c.1 1 (c.2.map fun x => [eC x])) = some (.sl (ltB 0 (lnC ls)) (!ltB 0 (lnC ls)) 1 ((m ++ c.2).map fun x => [eC x])) := by
     cases hq : ltB 0 (lnC ls : Int)
     ·rw [Qg] at hq
      have c0 : c.2 = [] := List.eq_nil_of_length_eq_zero (by omega)
      have m0 : m = [] := List.eq_nil_of_length_eq_zero (by omega)
      simp [WN, c0, m0, most]
     ·simp only [WN]
      rw [if_pos ⟨by simp, .inl trivial, .inl trivial, by simp [most]; omega⟩]
      simp
    have e0 : flC [c] = c.2 := by simp [flC]
    rw [ap]
    simp (disch := omega) [e6, e25, e26, e27, hb, hix, Qf, e0]
    omega
   ·have hb : ltB (i : Int) ls.length = false := by rw [Qg]; omega
    simp (disch := omega) [e6, e25, e26, e27, hb]
    rw [List.take_of_length_le (by omega), hfl]
    exact ⟨rfl, rfl⟩
  ·rintro t1 hh hf ⟨rfl, e6⟩
   simp (disch := omega) [e6]
end Go.Proofs.YtclfngbealdbgaaGreat
namespace Go.Proofs.YtclfngbealdbgaaGreat
open Go Go.TL
open Go.Proofs.YtclfngbealdbgaaGreat.Ty
set_option linter.unusedSimpArgs false
attribute [local simp low] Xb
attribute [local simp] Zer Zeh ZeA ZeK Zen ZeJ
theorem long_ok (u nl : Bool) (l : List Int) : Qd Tryz.prog ZcD [.sl u nl 1 (l.map fun n => [N n])] (· = B (ltB 40 l.length)) := by
 refine Qd.of_codeOf Znl Qz (by simp) ⟨_, rfl, by simp⟩ ?_
 simp (contextual := true) (disch := omega) [ZgD]
theorem ZnZ (nl : Bool) (l : List Int) (hl : l.length ≤ 1099511627776) (hw : ∀ n ∈ l, I64 n) (i : Int) (hi : I64 i) : Qd Tryz.prog W8 [L nl l, N i] (· = N (Zw l i)) := Zh5 nl l ⟨hl, hw⟩ i hi
def Qj (ts : List RT) : List (List LV) := ts.map fun t => [.sl false false 1 (t.flat.map fun n => [N n])]
theorem Zne (dn : List RT) : (Qj dn).length ≤ (WF dn).length := by
 induction dn with
 | nil => simp [Qj]
 | cons a dn ih =>
  have := a.flat_pos
  simp only [Qj, List.length_map] at ih
  simp [Qj, WF]; omega
theorem parts_ok (c : Int) (ks : List RT) (hok : (RT.nd c ks).ok) (hl : (RT.nd c ks).flat.length ≤ 1099511627776) (hw : ∀ n ∈ (RT.nd c ks).flat, I64 n) :
  Qd Tryz.prog ZP [L false (RT.nd c ks).flat] (· = .sl (!ks.isEmpty) ks.isEmpty 1 (Qj ks)) := by
 refine Qd.of_codeOf Zlz Qz (by simp) ⟨_, rfl, by simp [Qj]⟩ ?_
 simp (contextual := true) (disch := omega) [ZfI]
 generalize hL : (RT.nd c ks).flat = l at *
 refine ZqT (fun k s => ∃ dn rest, ks = dn ++ rest ∧ k = rest.length ∧ s.h = [] ∧ s.t 0 = L false l ∧ s.t 3 = .sl (!dn.isEmpty) dn.isEmpty 1 (Qj dn) ∧ s.t 4 = N ((WF dn).length + 1)) ks.length ?_ ?_
 ·refine ⟨[], ks, rfl, rfl, ?_⟩
  simp [Qj, WF]
 ·rintro k s ⟨dn, rest, hks, hk, h1, h2, h3, h4⟩
  simp (contextual := true) (disch := omega) [h1, h2, h3, h4]
  subst hks
  refine ⟨fun _ h5 => ?_, fun _ h5 => ?_⟩
  ·match rest with
   | [] =>
    exfalso
    rw [← hL] at h5
    simp only [RT.flat, Ki, WF, List.length_cons, List.length_append] at h5
    simp at h5
   | t :: rest =>
    have hd : l.drop ((WF dn).length + 1) = t.flat ++ WF rest := by
     rw [← hL]
     simp [RT.flat, Ki, WF]
    have hll : l.length = (WF dn).length + 1 + t.flat.length + (WF rest).length := by
     rw [← hL]
     simp [RT.flat, Ki, WF]; omega
    have he : Zw l ((WF dn).length + 1) = (WF dn).length + 1 + t.flat.length := by
     unfold Zw
     rw [if_pos (by omega), show (((WF dn).length : Int) + 1).toNat = (WF dn).length + 1 by omega, hd]
     simp only [RT.ok] at hok
     have := (Zho.1 hok.2) t (by simp)
     rw [Zed this]
     omega
    have hp := t.flat_pos
    refine Qa (ZnZ false l hl hw _ ⟨by omega, by omega⟩) (by simp) ?_
    rw [he]
    have hrow : List.drop ((WF dn).length + 1) (List.take ((WF dn).length + 1 + t.flat.length) l) = t.flat := by
     rw [List.drop_take, hd, show (WF dn).length + 1 + t.flat.length - ((WF dn).length + 1) = t.flat.length by omega]
     simp
    have hrow := congrArg (List.map fun n : Int => [N n]) hrow
    rw [List.map_drop, List.map_take] at hrow
    have hn : (((WF dn).length : Int) + 1 + t.flat.length).toNat = (WF dn).length + 1 + t.flat.length := by omega
    have hne : ¬ (((WF dn).length : Int) + 1 = (WF dn).length + 1 + t.flat.length) := by omega
    have hks : (Qj dn).length + 1 ≤ most := by
     have := Zne dn
     unfold most; omega
    simp (contextual := true) (disch := omega) [h2, h3, h4, Ja, WN, hn, hne, hrow, hks]
    refine ⟨by omega, Classical.em _ |>.symm, rest.length, by simp [hk], dn ++ [t], rest, by simp, rfl, ⟨by simp, by simp [Qj]⟩, by simp [Ki, WF]; omega⟩
  ·match rest with
   | [] => simp [Qj]
   | t :: rest =>
    exfalso
    rw [← hL] at h5
    simp only [RT.flat, Ki, WF, List.length_cons, List.length_append] at h5
    have := t.flat_pos
    omega
end Go.Proofs.YtclfngbealdbgaaGreat
namespace Go.Proofs.YtclfngbealdbgaaGreat
open Go Go.TL
open Go.Proofs.YtclfngbealdbgaaGreat.Ty
set_option linter.unusedSimpArgs false
set_option linter.unusedVariables false
set_option maxRecDepth 20000
set_option maxHeartbeats 4000000
theorem Zp3 (u u' nl : Bool) (sz sz' : Nat) (xs : List (List LV)) : Xi .slc .eql (.sl u nl sz xs) (.sl u' true sz' []) = some (B nl) := rfl
theorem Zcy (nl : Bool) (l : List Int) (hl : l.length ≤ 1099511627776) : Qd Tryz.prog Wq [L nl l] (· = cl nl l) := by
 refine Qd.of_codeOf V2 Qz (by simp) ⟨_, rfl, by unfold cl; split <;> simp⟩ ?_
 have hm : l.length ≤ most := hl
 cases nl
 ·simp (disch := omega) [Yf, Zp3, Qm, WN, hm, cl]
 ·simp (disch := omega) [Yf, Zp3, cl]
theorem ZnR (n1 n2 : Bool) (a b : List Int) (ha : a.length ≤ 1099511627776) : Qd Tryz.prog W0 [L n1 a, L n2 b] (· = B (a == b)) := by
 generalize hq : (a == b) = q
 refine Qd.of_codeOf V3 Qz (by simp) ⟨_, rfl, by simp⟩ ?_
 simp (disch := omega) [ZW]
 (with_reducible first | refine Qo (fun h1 => ?_) (fun h1 => ?_) | refine Qn (fun h1 => ?_) (fun h1 => ?_))
 ·simp (disch := omega) [h1]
  simp only [Qi, Qg, Ql, Qk, Qe, Qc, Bool.not_true, Bool.not_false] at h1
  refine XH a.length 0 (fun i t _ => t 13 = N i ∧ q = (a.drop i == b.drop i)) (by simp [hq]) (by omega) ?_
  rintro i t1 hh hf hi ⟨e13, hj⟩
  (have e0 := hf 0 (by kernel_rfl); have e1 := hf 1 (by kernel_rfl); have e12 := hf 12 (by kernel_rfl); clear hf; simp [] at e0 e1 e12)
  simp (disch := omega) [e0, e1, e12, e13]
  (with_reducible first | refine Qo (fun h6 => ?_) (fun h6 => ?_) | refine Qn (fun h6 => ?_) (fun h6 => ?_))
  ·simp only [Qi, Qg, Ql, Qk, Qe, Qc, Bool.not_true, Bool.not_false] at h6
   have hd1 := List.drop_eq_getElem_cons (l := a) (i := i) (by omega)
   have hd2 := List.drop_eq_getElem_cons (l := b) (i := i) (by omega)
   have hq2 : q = (a[i]'(by omega) == b[i]'(by omega) && (a.drop (i + 1) == b.drop (i + 1))) := by rw [hj, hd1, hd2]; rfl
   clear hd1 hd2 hj
   simp (disch := omega) [e0, e1, e12, e13, Xh]
   repeat' (first
  | (with_reducible (first | refine Qo (fun hb_ => ?_) (fun hb_ => ?_) | refine Qn (fun hb_ => ?_) (fun hb_ => ?_)) <;> simp (disch := omega) [hb_, e0, e1, e12, e13, Qf])
  | simp (disch := omega) [e0, e1, e12, e13, Qf])
   all_goals simp only [Qi, Qg, Ql, Qk, Qe, Qc, Bool.not_true, Bool.not_false] at hb_
   ·exact ⟨by omega, by simp [hq2, hb_]⟩
   ·simp [hq2, hb_]
  ·simp only [Qi, Qg, Ql, Qk, Qe, Qc, Bool.not_true, Bool.not_false] at h6
   simp (disch := omega)
   rw [hj, List.drop_of_length_le (by omega), List.drop_of_length_le (by omega)]; simp
 ·simp (disch := omega) [h1]
  simp only [Qi, Qg, Ql, Qk, Qe, Qc, Bool.not_true, Bool.not_false] at h1
  rw [← hq]; simp; intro h; exact h1 (by rw [h])
def K0 (l : List Int) : List (List Int) := match Wv (hd l) with
 | some 2 => [QI l, Ws l]
 | some 1 => [QI l]
 | _ => []
theorem Zbx {l : List Int} (h : Wv (hd l) = some 2) : K0 l = [QI l, Ws l] := by simp [K0, h]
theorem Zpp {l : List Int} (h : Wv (hd l) = some 1) : K0 l = [QI l] := by simp [K0, h]
theorem Zgh {l : List Int} (h : wty l = true) : Qd Tryz.prog ZP [L false l] (· = .sl (!(K0 l).isEmpty) (K0 l).isEmpty 1 ((K0 l).map fun p => [L false p])) := by
 obtain ⟨⟨c, ks⟩, h3, rfl, h5⟩ := ZnD h
 have := parts_ok c ks h3 (by omega) (fun n hn => by have := Zp7 h n hn; unfold I64; omega)
 simp only [RT.ok] at h3
 have e : Qj ks = (K0 (RT.nd c ks).flat).map (fun p => [L false p]) ∧ (K0 (RT.nd c ks).flat).isEmpty = ks.isEmpty := by
  match ks, h3 with
  | [], h3 => simp [K0, RT.flat, h3.1, Qj]
  | [a], h3 =>
   simp only [oks] at h3
   have q := Za3 (c := c) (r := []) h3.2.1
   rw [List.append_nil] at q
   simp [K0, RT.flat, WF, h3.1, Qj, q]
  | [a, b], h3 =>
   simp only [oks] at h3
   have q := Za3 (c := c) (r := b.flat) h3.2.1
   have q1 := Za4 (c := c) (r := b.flat) h3.2.1
   simp [K0, RT.flat, WF, h3.1, Qj, q, q1]
  | _ :: _ :: _ :: _, h3 =>
   have := Zon h3.1
   simp at this
 rw [e.1, ← e.2] at this
 exact this
theorem ZcM {s : GSys} (t : s.Tab) (g : GTerm) (op n : Int) (nl1 : Bool) (gty : List Int) (nl2 : Bool) (ks : List GTerm) (hg : g = .mk op n nl1 gty nl2 ks) (i : Nat) (hi : i ≤ 3) (ty : List Int) (hty : okL s.size ty = true) (hop : 0 ≤ op ∧ op ≤ 12) (hn : op = 5 ∨ op = 8 ∨ op = 12 → s.G n) :
  Qd Tryz.prog Y3 [s.lv, g.lv, N i, L false ty] (· = N (QL s op n i (hd ty))) := by
 subst hg
 have hh := X8 hty
 obtain ⟨c, tl, rfl⟩ : ∃ c tl, ty = c :: tl := by
  cases ty with
  | nil => exact absurd rfl hh.2.2.2.1
  | cons c tl => exact ⟨c, tl, rfl⟩
 have hc : I64 c := by unfold I64; simp at hh; omega
 have hid : QQ 1 (L false (c :: tl)) 0 = some (.rp [N c]) := by
  have := Xh (c :: tl) false false 0 (by omega) (by simp)
  simpa using this
 have hbl : op = 5 ∨ op = 8 ∨ op = 12 → Qd Tryz.prog QA [s.lv, N 1, N n] (· = B (s.le 1 n)) := fun h => JU t (GSys.G1 t) (hn h)
 refine Qd.of_codeOf Za0 Qz (by simp) ⟨_, rfl, by simp⟩ ?_
 have run : ∀ (q : Int), q = QL s op n i c → wpC Tryz.prog X0 (fun e s => (e = Exit.normal ∨ e = Exit.ret) ∧ Low 0 (s.t 8) ∧ s.t 8 = N q) { t := env [s.lv, (GTerm.mk op n nl1 gty nl2 ks).lv, N i, L false (c :: tl)], h := [] } := by
  intro q hq
  have h13 : op = 0 ∨ op = 1 ∨ op = 2 ∨ op = 3 ∨ op = 4 ∨ op = 5 ∨ op = 6 ∨ op = 7 ∨ op = 8 ∨ op = 9 ∨ op = 10 ∨ op = 11 ∨ op = 12 := by omega
  subst hq
  rcases h13 with rfl | rfl | rfl | rfl | rfl | rfl | rfl | rfl | rfl | rfl | rfl | rfl | rfl
  all_goals
   rcases Nat.eq_zero_or_pos i with rfl | hp
   ·simp (disch := omega) [X0, Qv, Qt, GTerm.cells, hid]
    refine Qa (Zaw c hc) (by simp) ?_
    repeat' (first
  | with_reducible refine Qa (hbl (by omega)) (by simp) ?_
  | (with_reducible (first | refine Qo (fun hb_ => ?_) (fun hb_ => ?_) | refine Qn (fun hb_ => ?_) (fun hb_ => ?_)) <;> simp (disch := omega) [hb_, eqB, leB])
  | simp (disch := omega) [eqB, leB])
    all_goals (try simp_all [QL, Jt])
   ·have hz : ¬ (i : Int) = 0 := by omega
    have hz2 : ¬ i = 0 := by omega
    simp (disch := omega) [X0, Qv, Qt, GTerm.cells, hid]
    refine Qa (Zaw c hc) (by simp) ?_
    repeat' (first
  | with_reducible refine Qa (hbl (by omega)) (by simp) ?_
  | (with_reducible (first | refine Qo (fun hb_ => ?_) (fun hb_ => ?_) | refine Qn (fun hb_ => ?_) (fun hb_ => ?_)) <;> simp (disch := omega) [hb_, eqB, leB, hz])
  | simp (disch := omega) [eqB, leB, hz])
    all_goals (try simp_all [QL, Jt])
 have := run _ rfl
 simpa using this
end Go.Proofs.YtclfngbealdbgaaGreat
namespace Go.Proofs.YtclfngbealdbgaaGreat
open Go Go.TL
open Go.Proofs.YtclfngbealdbgaaGreat.Ty
set_option linter.unusedSimpArgs false
set_option linter.unusedVariables false
set_option maxRecDepth 20000
set_option maxHeartbeats 4000000
def Jp (op : Int) (nl1 : Bool) (ty : List Int) (i : Nat) (f : List Int) : Wx := if op = 9 then [(nl1, ty)] else (QB op ty i f).map fun l => (false, l)
theorem Zpn (op : Int) (nl1 : Bool) (ty : List Int) (i : Nat) (f : List Int) : (Jp op nl1 ty i f).map Prod.snd = QB op ty i f := by
 unfold Jp
 split
 ·rename_i h; simp [QB, h]
 ·simp [Function.comp_def]
abbrev Zah (c : Wx) : LV := .sl (!c.isEmpty) c.isEmpty 1 (c.map fun x => [eC x])
theorem ZkH (g : GTerm) (op n : Int) (nl1 : Bool) (gty : List Int) (nl2 : Bool) (ks : List GTerm) (hg : g = .mk op n nl1 gty nl2 ks) (hop : 0 ≤ op ∧ op ≤ 12) (i : Nat) (hi : i ≤ 2) (nf : Bool) (f : List Int) {size : Int}
  (hf : i ≠ 0 → nf = false ∧ okL size f = true ∧ ZeM op (hd f)) : Qd Tryz.prog Za9 [g.lv, N i, L nf f] (· = Zah (Jp op nl1 gty i f)) := by
 subst hg
 refine Qd.of_codeOf Zl2 Qz (by simp) ⟨_, rfl, by simp⟩ ?_
 by_cases h9 : op = 9
 ·subst h9
  simp (disch := omega) [Vh, Qv, Qt, GTerm.cells, Jp, eqB, Qm]
 ·by_cases h0 : Qp op i = 0
  ·have e : Jp op nl1 gty i f = [] := by simp [Jp, h9, QB, h0]
   have h9' : eqB op 9 = false := by rw [Qc]; exact h9
   simp (disch := omega) [Vh, Qv, Qt, GTerm.cells, e, h9']
   refine Qa (Zhr op i) (by simp) ?_
   rw [h0]
   simp (disch := omega) [eqB]
  ·have hi0 : i ≠ 0 := by rintro rfl; apply h0; unfold Qp; rw [if_neg (by omega), if_neg (by omega)]
   obtain ⟨rfl, hf1, hf2⟩ := hf hi0
   have h9' : eqB op 9 = false := by rw [Qc]; exact h9
   have h0' : eqB (Qp op i) 0 = false := by rw [Qc]; exact h0
   have hp := Zgh (JT hf1)
   have h3 : op = 5 ∧ i = 1 ∨ op = 8 ∨ op = 12 ∧ i = 1 := by
    unfold Qp at h0
    by_cases g : op = 5 ∧ (i : Int) = 1
    ·omega
    ·rw [if_neg g] at h0
     by_cases g : (op = 8 ∧ 0 < (i : Int)) ∨ op = 9 ∨ (op = 12 ∧ (i : Int) = 1)
     ·omega
     ·rw [if_neg g] at h0; omega
   simp (disch := omega) [Vh, Qv, Qt, GTerm.cells, h9']
   refine Qa (Zhr op i) (by simp) ?_
   simp (disch := omega) [h0']
   refine Qa hp (by simp) ?_
   rcases h3 with ⟨rfl, rfl⟩ | rfl | ⟨rfl, rfl⟩
   ·rw [Zbx (by rw [hf2.2.1 rfl]; exact Xo.1)]
    simp (disch := omega) [eqB, Jp, QB, Qp, Qm, QQ]
   ·rw [Zbx (by rw [hf2.2.2.1 rfl]; exact Xo.2)]
    have : i = 1 ∨ i = 2 := by omega
    rcases this with rfl | rfl
    ·simp (disch := omega) [eqB, Jp, QB, Qp, Qm, QQ, show IntKind.i64.wrap 0 = 0 by decide]
    ·simp (disch := omega) [eqB, Jp, QB, Qp, Qm, QQ, show IntKind.i64.wrap 1 = 1 by decide]
   ·rw [Zpp (Zdk (hf2.2.2.2.2 rfl))]
    simp (disch := omega) [eqB, Jp, QB, Qp, Qm]
end Go.Proofs.YtclfngbealdbgaaGreat
namespace Go.Proofs.YtclfngbealdbgaaGreat
open Go Go.TL
open Go.Proofs.YtclfngbealdbgaaGreat.Ty
set_option linter.unusedSimpArgs false
set_option linter.unusedVariables false
set_option maxRecDepth 20000
set_option maxHeartbeats 4000000
mutual
def TT.is : TT → LV → Prop
 | .mk ty nd ks, r => ∃ n3 n4 Qj, r = .rp [L false ty, L false nd, .sl false n3 1 Qj, N 0, .sl false n4 1 []] ∧ TT.are ks Qj
def TT.are : List TT → List (List LV) → Prop
 | [], Qj => Qj = []
 | k :: ks, Qj => ∃ r rest, Qj = [r] :: rest ∧ k.is r ∧ TT.are ks rest
end
def Res.is : Res → LV → Prop
 | .ok x, r => x.is r
 | .bad f p, r => f ≠ 0 ∧ ∃ n4, r = .rp [.sl false true 1 [], .sl false true 1 [], .sl false true 1 [], N f, L n4 p]
mutual
theorem ZnC : ∀ (x : TT) (r : LV), x.is r → share r = r ∧ ∀ k, Low k r
 | .mk ty nd ks, r, h => by
  simp only [TT.is] at h
  obtain ⟨n3, n4, Qj, rfl, hr⟩ := h
  obtain ⟨h1, h2⟩ := Xx ks Qj hr
  exact ⟨by simp [h1], fun k => by simp [h2 k]⟩
theorem Xx : ∀ (xs : List TT) (Qj : List (List LV)), TT.are xs Qj → Qu Qj = Qj ∧ ∀ k, Wj k Qj
 | [], Qj, h => by simp only [TT.are] at h; subst h; simp
 | x :: xs, Qj, h => by
  simp only [TT.are] at h
  obtain ⟨r, rest, rfl, h1, h2⟩ := h
  obtain ⟨q1, q2⟩ := ZnC x r h1
  obtain ⟨q3, q4⟩ := Xx xs rest h2
  exact ⟨by simp [q1, q3], fun k => by simp [q2 k, q4 k]⟩
end
theorem Zmu : ∀ (xs : List TT) (Qj : List (List LV)), TT.are xs Qj → Qj.length = xs.length
 | [], Qj, h => by simp only [TT.are] at h; subst h; rfl
 | x :: xs, Qj, h => by
  simp only [TT.are] at h
  obtain ⟨r, rest, rfl, h1, h2⟩ := h
  simp [Zmu xs rest h2]
theorem VB : ∀ (xs : List TT) (Qj : List (List LV)) (x : TT) (r : LV), TT.are xs Qj → x.is r → TT.are (xs ++ [x]) (Qj ++ [[r]])
 | [], Qj, x, r, h, hx => by simp only [TT.are] at h; subst h; simp only [List.nil_append, TT.are]; exact ⟨r, [], rfl, hx, rfl⟩
 | y :: xs, Qj, x, r, h, hx => by
  simp only [TT.are] at h
  obtain ⟨q, rest, rfl, h1, h2⟩ := h
  simp only [List.cons_append, TT.are]
  exact ⟨q, rest ++ [[r]], rfl, h1, VB xs rest x r h2 hx⟩
theorem are_at : ∀ (xs : List TT) (Qj : List (List LV)) (i : Nat) (h : i < xs.length), TT.are xs Qj → ∃ r, Qj[i]? = some [r] ∧ (xs[i]).is r
 | [], Qj, i, hi, h => by simp at hi
 | x :: xs, Qj, i, hi, h => by
  simp only [TT.are] at h
  obtain ⟨r, rest, rfl, h1, h2⟩ := h
  cases i with
  | zero => exact ⟨r, rfl, h1⟩
  | succ i =>
   obtain ⟨q, h3, h4⟩ := are_at xs rest i (by simpa using hi) h2
   exact ⟨q, by simpa using h3, by simpa using h4⟩
theorem Zp8 {xs : List TT} {Qj : List (List LV)} (h : TT.are xs Qj) (u nl : Bool) (i : Nat) (hi : i < xs.length) : ∃ n3 n4 rws, QQ 1 (.sl u nl 1 Qj) (i : Int) = some (.rp [.rp [L false (tyP xs i), L false (xs[i]).needs, .sl false n3 1 rws, N 0, .sl false n4 1 []]]) ∧ TT.are (xs[i]).kids rws := by
 obtain ⟨r, h1, h2⟩ := are_at xs Qj i hi h
 have hl := Zmu xs Qj h
 have e : tyP xs i = (xs[i]).ty := by unfold tyP; rw [List.getD_eq_getElem?_getD, List.getElem?_eq_getElem hi]; rfl
 rw [e]
 generalize xs[i] = x at *
 obtain ⟨ty, nd, ks⟩ := x
 simp only [TT.is] at h2
 obtain ⟨n3, n4, rws, rfl, h3⟩ := h2
 refine ⟨n3, n4, rws, ?_, h3⟩
 simp only [QQ]
 rw [if_pos ⟨trivial, by omega, by omega⟩]
 have hs := (Xx ks rws h3).1
 simp [List.getD_eq_getElem?_getD, h1, hs]
abbrev ZfU (T nd : LV) (u3 n3 : Bool) (Qj : List (List LV)) : Box := some [T, nd, .sl u3 n3 1 Qj, N 0, .sl true true 1 []]
theorem ZnB {ds : List TT} {Qj : List (List LV)} (h : TT.are ds Qj) (T nd : LV) (u3 n3 : Bool) (b0 b1 b2 : Box) (hr : List Box) (i : Nat) (hi : i < ds.length) :
  Wa Tryz.prog XP [N i, .rp [.ptr 3 0]] (b0 :: b1 :: b2 :: ZfU T nd u3 n3 Qj :: hr) (fun r h' => r = L false (tyP ds i) ∧ h' = b0 :: b1 :: b2 :: ZfU T nd u3 n3 Qj :: hr) := by
 refine Wa.of_codeOf ZaX Qz (by simp) ⟨_, _, rfl, rfl⟩ ?_
 obtain ⟨n3', n4, rws, hix, hrw⟩ := Zp8 h false n3 i hi
 have hs := (Xx ds Qj h).1
 have hs2 := (Xx _ rws hrw).1
 simp (disch := omega) [Jv, hs, hix, hs2]
 refine Q8 (.inr rfl) (by simp) ⟨by simp, rfl⟩
end Go.Proofs.YtclfngbealdbgaaGreat
namespace Go.Proofs.YtclfngbealdbgaaGreat
open Go Go.TL
open Go.Proofs.YtclfngbealdbgaaGreat.Ty
set_option linter.unusedSimpArgs false
set_option linter.unusedVariables false
set_option maxRecDepth 20000
set_option maxHeartbeats 4000000
theorem ZdN (p : Int → Bool) : ∀ (n g : Nat), Yc p g n = -1 ∨ ((g : Int) ≤ Yc p g n ∧ Yc p g n < g + n)
 | 0, g => .inl rfl
 | n + 1, g => by
  unfold Yc
  split
  ·right; omega
  ·rcases ZdN p n (g + 1) with h | h
   ·exact .inl h
   ·right; omega
theorem JR {s : GSys} (hs : s.sys = true) {a b : Int} (ha : s.G a) (hb : s.G b) : s.G (s.join a b) := by
 have t := GSys.sys_of hs
 have h2 : leB 0 (s.join a b) = true := by
  unfold GSys.sys at hs
  rw [Bool.and_eq_true, Yr] at hs
  have h := hs.2 a.toNat (by have := ha.1; have := ha.2; omega)
  unfold GSys.sysB at h
  rw [Bool.and_eq_true, Yr] at h
  have h := h.2 b.toNat (by have := hb.1; have := hb.2; omega)
  unfold GSys.sysC at h
  rw [Bool.and_eq_true] at h
  have h := h.1
  unfold GSys.two at h
  simp only [Bool.and_eq_true] at h
  have e1 : ((a.toNat : Nat) : Int) = a := by have := ha.1; omega
  have e2 : ((b.toNat : Nat) : Int) = b := by have := hb.1; omega
  rw [e1, e2] at h
  exact h.2
 rw [Ql] at h2
 have := ZdN (s.isJoin a b) s.size.toNat 0
 unfold GSys.join at h2 ⊢
 have := t.lo
 exact ⟨h2, by omega⟩
theorem ZhQ {s : GSys} (hs : s.sys = true) {a b : List Int} (u : Int) (hu : u ∈ XO s a b) (ha : ∀ u ∈ a, s.G u) (hb : ∀ u ∈ b, s.G u) : s.G u := by
 unfold XO at hu
 rw [List.mem_iff_getElem] at hu
 obtain ⟨i, hi, rfl⟩ := hu
 simp only [List.length_zipWith] at hi
 rw [List.getElem_zipWith]
 exact JR hs (ha _ (List.getElem_mem _)) (hb _ (List.getElem_mem _))
theorem Z4 {l : List Int} (h : l ≠ []) : QQ 1 (L false l) 0 = some (.rp [N (hd l)]) := by
 cases l with
 | nil => exact absurd rfl h
 | cons c l =>
  have := Xh (c :: l) false false 0 (by omega) (by simp)
  simpa using this
theorem cat3 (x : Int) (na nb : Bool) (a b : List Int) (ha : a.length ≤ 1000) (hb : b.length ≤ 1000) :
  Qd Tryz.prog QX [.sl false false 1 [[.sl false false 1 [[N x]]], [L na a], [L nb b]]] (· = OU true false (x :: (a ++ b))) := by
 have h := ZhH [(false, [x]), (na, a), (nb, b)] (by simp) (by simp [lnI]; omega)
 have e : flI [(false, [x]), (na, a), (nb, b)] = x :: (a ++ b) := by simp [flI]
 have e2 : ltB 0 ((x :: (a ++ b)).length : Int) = true := by rw [Qi]; simp <;> omega
 rw [e] at h
 unfold catI at h
 rw [e2] at h
 exact h
theorem cat2 (x : Int) (na : Bool) (a : List Int) (ha : a.length ≤ 1000) :
  Qd Tryz.prog QX [.sl false false 1 [[.sl false false 1 [[N x]]], [L na a]]] (· = OU true false (x :: a)) := by
 have h := ZhH [(false, [x]), (na, a)] (by simp) (by simp [lnI]; omega)
 have e : flI [(false, [x]), (na, a)] = x :: a := by simp [flI]
 have e2 : ltB 0 ((x :: a).length : Int) = true := by rw [Qi]; simp <;> omega
 rw [e] at h
 unfold catI at h
 rw [e2] at h
 exact h
def FinR (q : Int × List Int × List Int) (m : Nat) (u3 n3 : Bool) (Qj : List (List LV)) (r : LV) (h' : List Box) : Prop := r = N q.1 ∧ ∃ T nd c2 hr', h' = none :: none :: c2 :: ZfU T nd u3 n3 Qj :: hr' ∧
 (q.1 = 0 → (∃ u, T = OU u false q.2.1) ∧ ((∃ u, nd = OU u false q.2.2) ∨ (nd = .ha 2 1 0 m m ∧ c2 = some (q.2.2.map N) ∧ q.2.2.length = m)))
theorem Zpf {s : GSys} (hsy : s.sys = true) (nlc : Bool) (ctx : Wx) (hcl : ctx.length ≤ 100000) (hc : ∀ c ∈ ctx, okL s.size c.2 = true) (hcf : ∀ c ∈ ctx, c.1 = false) (op n : Int) (nl1 : Bool) (gty : List Int) (nl2 : Bool) (ks : List GTerm) (ds : List TT)
  (no : NodeOk s ctx.length op n gty ds.length) (k : KidsOk s ctx.length op n ds) (Qj : List (List LV)) (hrw : TT.are ds Qj) (u3 n3 nn nu : Bool) (nds uds : Wx)
  (hnd : ∀ i, i < ds.length → QQ 1 (LC nn nds) (i : Int) = some (.rp [L false (ndP op ds i)])) (hud : ∀ i, i < ds.length → ∃ f, QQ 1 (LC nu uds) (i : Int) = some (.rp [L f (usP op ds i)])) (hr : List Box) (m : Nat) (hm : ctx.length = m) :
  Wa Tryz.prog Zo [s.lv, .ptr 3 0, LC nlc ctx, (GTerm.mk op n nl1 gty nl2 ks).lv, LC nn nds, LC nu uds] (none :: none :: some ((zeros m).map N) :: ZfU (.sl true true 1 []) (.ha 2 1 0 m m) u3 n3 Qj :: hr)
   (FinR (Wc s (ctx.map Prod.snd) op n gty ds) m u3 n3 Qj) := by
 subst hm
 have t := GSys.sys_of hsy
 have h16 := t.hi
 obtain ⟨many, hvar, hgr, hty, o1, o2⟩ := no
 have get : ∀ i, i < ds.length → ∃ x, ds[i]? = some x ∧ x.good s (ctx.length + (Qp op i).toNat) := fun i hi =>
  ⟨_, List.getElem?_eq_getElem hi, (k.each i _ (List.getElem?_eq_getElem hi)).1⟩
 have tyG : ∀ i, i < ds.length → okL s.size (tyP ds i) = true := fun i hi => by
  obtain ⟨x, h1, h2⟩ := get i hi
  unfold tyP; rw [List.getD_eq_getElem?_getD, h1]; exact h2.1
 have ndL : ∀ i, i < ds.length → (ndP op ds i).length = ctx.length := fun i hi => by
  obtain ⟨x, h1, h2⟩ := get i hi
  unfold ndP; rw [List.getD_eq_getElem?_getD, h1]; exact (Zdm h2).1
 have ndG : ∀ i, i < ds.length → ∀ u ∈ ndP op ds i, s.G u := fun i hi => by
  obtain ⟨x, h1, h2⟩ := get i hi
  unfold ndP; rw [List.getD_eq_getElem?_getD, h1]; exact (Zdm h2).2
 have usL : ∀ i, i < ds.length → (usP op ds i).length ≤ 1099511627776 := fun i hi => by
  unfold usP; rw [List.length_take]; have := WV op i; omega
 have usG : ∀ i, i < ds.length → ∀ u ∈ usP op ds i, s.G u := fun i hi u hu => by
  obtain ⟨x, h1, h2⟩ := get i hi
  unfold usP at hu; rw [List.getD_eq_getElem?_getD, h1] at hu; exact h2.2.2 u (List.mem_of_mem_take hu)
 have fst : 0 < ds.length → ZeM op (hd (tyP ds 0)) := fun hi => (k.first (by rintro rfl; simp at hi)).2.1
 have kid : ∀ (T nd : LV) (b0 b1 b2 : Box) (hr : List Box) (i : Nat) (hi : i < ds.length), Wa Tryz.prog XP [N i, .rp [.ptr 3 0]] (b0 :: b1 :: b2 :: ZfU T nd u3 n3 Qj :: hr) (fun r h' => r = L false (tyP ds i) ∧ h' = b0 :: b1 :: b2 :: ZfU T nd u3 n3 Qj :: hr) :=
  fun T nd b0 b1 b2 hr i hi => ZnB hrw T nd u3 n3 b0 b1 b2 hr i hi
 have sumc := fun (n1 n2 : Bool) (a b : List Int) (h1 : a.length = ctx.length) (h2 : b.length = ctx.length) (ha : ∀ u ∈ a, s.G u) (hb : ∀ u ∈ b, s.G u) => sumF_ok t n1 n2 a b (by omega) (by omega) ha hb
 have eqc := fun (n1 n2 : Bool) (i j : Nat) (hi : i < ds.length) => ZnR n1 n2 (tyP ds i) (tyP ds j) (by have := QG (tyG i hi); omega)
 have lg := fun (l : List Int) => long_ok false false l
 have hidx : ∀ (i : Nat) (h : i < ctx.length), QQ 1 (LC nlc ctx) (i : Int) = some (.rp [eC ctx[i]]) := fun i h => ZbN ctx nlc i h
 have hex : ∃ r h', FinR (Wc s (ctx.map Prod.snd) op n gty ds) ctx.length u3 n3 Qj r h' := ⟨_, _, rfl, OU true false (Wc s (ctx.map Prod.snd) op n gty ds).2.1, OU true false (Wc s (ctx.map Prod.snd) op n gty ds).2.2, none, [], rfl, fun _ => ⟨⟨true, rfl⟩, .inl ⟨true, rfl⟩⟩⟩
 have hops : op = 0 ∨ op = 1 ∨ op = 2 ∨ op = 3 ∨ op = 4 ∨ op = 5 ∨ op = 6 ∨ op = 7 ∨ op = 8 ∨ op = 9 ∨ op = 10 ∨ op = 11 ∨ op = 12 := by omega
 refine Wa.of_codeOf ZbS Qz (by simp) hex ?_
 rcases hops with e | e | e | e | e | e | e | e | e | e | e | e | e
 all_goals subst e
 all_goals simp [YV] at many
 ·obtain ⟨v0, v1⟩ := hvar rfl
  obtain ⟨v, rfl⟩ : ∃ v : Nat, n = v := ⟨n.toNat, by omega⟩
  have hv : v < ctx.length := by omega
  have hx := hidx v hv
  have hxo := hc _ (List.getElem_mem hv)
  have hxf := hcf _ (List.getElem_mem hv)
  have hget : (ctx.map Prod.snd)[v]? = some (ctx[v].2) := by simp [hv]
  generalize ctx[v] = c at hx hxo hxf hget
  obtain ⟨cf, cl⟩ := c
  simp only at hxo hxf hget
  subst hxf
  have hlen := QG hxo
  simp (disch := omega) [QK, Qv, Qt, GTerm.cells, eqB, hx]
  refine Qa (Zcy false cl (by omega)) (by simp) ?_
  have hzl : (zeros (List.length ctx)).length = List.length ctx := by simp [zeros]
  simp (disch := omega) [Go.Proofs.YtclfngbealdbgaaGreat.cl, Zmy, hzl]
  refine ⟨by omega, ?_⟩
  refine Qa (lg cl) (by simp) ?_
  have hlb : ltB 40 cl.length = false := by rw [Qg]; omega
  simp (disch := omega) [hlb]
  refine Q8 (.inr rfl) (by simp) ⟨by simp [Wc], _, _, _, _, rfl, fun _ => ?_⟩
  simp [Wc, hget]
  refine ⟨?_, hzl⟩
  rw [List.set_eq_take_append_cons_drop, if_pos (by rw [List.length_map, hzl]; omega)]
 ·simp (disch := omega) [QK, Qv, Qt, GTerm.cells, eqB, Qm]
  refine Qa (lg [0]) (by simp) ?_
  simp (disch := omega) [ltB]
  refine Q8 (.inr rfl) (by simp) ⟨by simp [Wc], _, _, _, _, rfl, fun _ => ?_⟩
  simp [Wc, zeros]
 ·have i0 : QQ 1 (LC nn nds) 0 = some (.rp [L false (ndP 2 ds 0)]) := hnd 0 (by omega)
  have a0 := ndL 0 (by omega)
  have b0 := ndG 0 (by omega)
  have l0 := QG (tyG 0 (by omega))
  have i1 : QQ 1 (LC nn nds) 1 = some (.rp [L false (ndP 2 ds 1)]) := hnd 1 (by omega)
  have a1 := ndL 1 (by omega)
  have b1 := ndG 1 (by omega)
  have l1 := QG (tyG 1 (by omega))
  simp (disch := omega) [QK, Qv, Qt, GTerm.cells, eqB, i0, i1, Qm]
  refine Qa (sumc false false _ _ a0 a1 b0 b1) (by simp) ?_
  simp (disch := omega) [i0, i1, Qm]
  refine Qa (lg [0]) (by simp) ?_
  simp (disch := omega) [ltB]
  refine Q8 (.inr rfl) (by simp) ⟨by simp [Wc], _, _, _, _, rfl, fun _ => ?_⟩
  simp [Wc]
 ·have i0 : QQ 1 (LC nn nds) 0 = some (.rp [L false (ndP 3 ds 0)]) := hnd 0 (by omega)
  have a0 := ndL 0 (by omega)
  have b0 := ndG 0 (by omega)
  have l0 := QG (tyG 0 (by omega))
  have i1 : QQ 1 (LC nn nds) 1 = some (.rp [L false (ndP 3 ds 1)]) := hnd 1 (by omega)
  have a1 := ndL 1 (by omega)
  have b1 := ndG 1 (by omega)
  have l1 := QG (tyG 1 (by omega))
  have i2 : QQ 1 (LC nn nds) 2 = some (.rp [L false (ndP 3 ds 2)]) := hnd 2 (by omega)
  have a2 := ndL 2 (by omega)
  have b2 := ndG 2 (by omega)
  have l2 := QG (tyG 2 (by omega))
  simp (disch := omega) [QK, Qv, Qt, GTerm.cells, eqB, i0, i1, i2, Qm]
  refine WG (kid _ _ _ _ _ _ 1 (by omega)) ?_
  rintro r h' ⟨rfl, rfl⟩
  simp (disch := omega) [i0, i1, i2, Qm]
  refine WG (kid _ _ _ _ _ _ 2 (by omega)) ?_
  rintro r h' ⟨rfl, rfl⟩
  simp (disch := omega) [i0, i1, i2, Qm]
  refine Qa (eqc false false 1 2 (by omega)) (by simp) ?_
  cases he : (tyP ds 1 == tyP ds 2)
  ·simp (disch := omega)
   have he' : tyP ds 1 ≠ tyP ds 2 := by simpa using he
   exact Q8 (.inr rfl) (by simp) ⟨by simp [Wc, he'], _, _, _, _, rfl, fun h => by simp [Wc, he'] at h⟩
  ·simp (disch := omega) [i0, i1, i2, Qm]
   have he' : tyP ds 1 = tyP ds 2 := by simpa using he
   refine WG (kid _ _ _ _ _ _ 1 (by omega)) ?_
   rintro r h' ⟨rfl, rfl⟩
   simp (disch := omega) [i0, i1, i2, Qm]
   have jo := Zbg (s := s) a1 a2
   have jg : ∀ u ∈ XO s (ndP 3 ds 1) (ndP 3 ds 2), s.G u := fun u hu => ZhQ hsy u hu b1 b2
   refine Qa (ZnG t false false _ _ (by omega) (by omega) b1 b2) (by simp) ?_
   simp (disch := omega) [i0, i1, i2, Qm]
   refine Qa (sumc false false _ _ a0 jo b0 jg) (by simp) ?_
   simp (disch := omega) [i0, i1, i2, Qm]
   have hl1 : ltB 40 (tyP ds 1).length = false := by rw [Qg]; omega
   refine Qa (lg (tyP ds 1)) (by simp) ?_
   simp (disch := omega) [hl1]
   refine Q8 (.inr rfl) (by simp) ⟨by simp [Wc, he'], _, _, _, _, rfl, fun _ => ?_⟩
   simp [Wc, he']
 ·have i0 : QQ 1 (LC nn nds) 0 = some (.rp [L false (ndP 4 ds 0)]) := hnd 0 (by omega)
  have a0 := ndL 0 (by omega)
  have b0 := ndG 0 (by omega)
  have l0 := QG (tyG 0 (by omega))
  have i1 : QQ 1 (LC nn nds) 1 = some (.rp [L false (ndP 4 ds 1)]) := hnd 1 (by omega)
  have a1 := ndL 1 (by omega)
  have b1 := ndG 1 (by omega)
  have l1 := QG (tyG 1 (by omega))
  simp (disch := omega) [QK, Qv, Qt, GTerm.cells, eqB, i0, i1, Qm]
  refine WG (kid _ _ _ _ _ _ 0 (by omega)) ?_
  rintro r h' ⟨rfl, rfl⟩
  simp (disch := omega) [i0, i1, Qm]
  refine WG (kid _ _ _ _ _ _ 1 (by omega)) ?_
  rintro r h' ⟨rfl, rfl⟩
  simp (disch := omega) [i0, i1, Qm]
  obtain ⟨z, hz⟩ : ∃ z, z = 1 :: (tyP ds 0 ++ tyP ds 1) := ⟨_, rfl⟩
  have cz := cat3 1 false false (tyP ds 0) (tyP ds 1) (by omega) (by omega)
  rw [← hz] at cz
  refine Qa cz (by simp) ?_
  simp (disch := omega) [i0, i1, Qm]
  refine Qa (sumc false false _ _ a0 a1 b0 b1) (by simp) ?_
  simp (disch := omega) [i0, i1, Qm]
  refine Qa (lg z) (by simp) ?_
  have fp : Wc s (ctx.map Prod.snd) 4 n gty ds = Xf z (XV s (ndP 4 ds 0) (ndP 4 ds 1)) := by simp [Wc, hz]
  rw [fp, Xf]
  by_cases hl : z.length ≤ 40
  ·have hb : ltB 40 (z.length : Int) = false := by rw [Qg]; omega
   rw [hb, if_pos hl]
   simp (disch := omega)
   exact Q8 (.inr rfl) (by simp) ⟨rfl, _, _, _, _, rfl, fun _ => ⟨⟨_, rfl⟩, .inl ⟨_, rfl⟩⟩⟩
  ·have hb : ltB 40 (z.length : Int) = true := by rw [Qi]; omega
   rw [hb, if_neg hl]
   simp (disch := omega)
   exact Q8 (.inr rfl) (by simp) ⟨rfl, _, _, _, _, rfl, fun h => by simp at h⟩
 ·have i0 : QQ 1 (LC nn nds) 0 = some (.rp [L false (ndP 5 ds 0)]) := hnd 0 (by omega)
  have a0 := ndL 0 (by omega)
  have b0 := ndG 0 (by omega)
  have l0 := QG (tyG 0 (by omega))
  have i1 : QQ 1 (LC nn nds) 1 = some (.rp [L false (ndP 5 ds 1)]) := hnd 1 (by omega)
  have a1 := ndL 1 (by omega)
  have b1 := ndG 1 (by omega)
  have l1 := QG (tyG 1 (by omega))
  obtain ⟨g1, j1⟩ : ∃ f, QQ 1 (LC nu uds) 1 = some (.rp [L f (usP 5 ds 1)]) := hud 1 (by omega)
  have uo1 := fun (g : Int) hg => Vw t (g := g) hg g1 (usP 5 ds 1) (usL 1 (by omega)) (usG 1 (by omega))
  have hgn := hgr (by simp [Z0, Qe])
  simp (disch := omega) [QK, Qv, Qt, GTerm.cells, eqB, i0, i1, j1, Qm]
  refine Qa (uo1 n hgn) (by simp) ?_
  cases hu : Wp s (usP 5 ds 1) (n)
  ·simp (disch := omega)
   exact Q8 (.inr rfl) (by simp) ⟨by simp [Wc, hu], _, _, _, _, rfl, fun h => by simp [Wc, hu] at h⟩
  ·simp (disch := omega) [i0, i1, j1, Qm]
   refine WG (kid _ _ _ _ _ _ 1 (by omega)) ?_
   rintro r h' ⟨rfl, rfl⟩
   simp (disch := omega) [i0, i1, j1, Qm]
   refine Qa (VE t (n) (hgn) false _ (by omega) b0) (by simp) ?_
   simp (disch := omega) [i0, i1, j1, Qm]
   have sc := X5 t (g := n) a0
   refine Qa (sumc false false _ _ sc.1 a1 sc.2 b1) (by simp) ?_
   simp (disch := omega) [i0, i1, j1, Qm]
   have hl1 : ltB 40 (tyP ds 1).length = false := by rw [Qg]; omega
   refine Qa (lg (tyP ds 1)) (by simp) ?_
   simp (disch := omega) [hl1]
   refine Q8 (.inr rfl) (by simp) ⟨by simp [Wc, hu], _, _, _, _, rfl, fun _ => ?_⟩
   simp [Wc, hu]
 ·have i0 : QQ 1 (LC nn nds) 0 = some (.rp [L false (ndP 6 ds 0)]) := hnd 0 (by omega)
  have a0 := ndL 0 (by omega)
  have b0 := ndG 0 (by omega)
  have l0 := QG (tyG 0 (by omega))
  have hgt := hty (by simp [Xs, Qe])
  have lt := QG hgt
  simp (disch := omega) [QK, Qv, Qt, GTerm.cells, eqB, i0, Qm]
  refine WG (kid _ _ _ _ _ _ 0 (by omega)) ?_
  rintro r h' ⟨rfl, rfl⟩
  simp (disch := omega) [i0, Qm]
  obtain ⟨z, hz⟩ : ∃ z, z = 2 :: (tyP ds 0 ++ gty) := ⟨_, rfl⟩
  have cz := cat3 2 false nl1 (tyP ds 0) gty (by omega) (by omega)
  rw [← hz] at cz
  refine Qa cz (by simp) ?_
  simp (disch := omega) [i0, Qm]
  refine Qa (lg z) (by simp) ?_
  have fp : Wc s (ctx.map Prod.snd) 6 n gty ds = Xf z (ndP 6 ds 0) := by simp [Wc, hz]
  rw [fp, Xf]
  by_cases hl : z.length ≤ 40
  ·have hb : ltB 40 (z.length : Int) = false := by rw [Qg]; omega
   rw [hb, if_pos hl]
   simp (disch := omega)
   exact Q8 (.inr rfl) (by simp) ⟨rfl, _, _, _, _, rfl, fun _ => ⟨⟨_, rfl⟩, .inl ⟨_, rfl⟩⟩⟩
  ·have hb : ltB 40 (z.length : Int) = true := by rw [Qi]; omega
   rw [hb, if_neg hl]
   simp (disch := omega)
   exact Q8 (.inr rfl) (by simp) ⟨rfl, _, _, _, _, rfl, fun h => by simp at h⟩
 ·have i0 : QQ 1 (LC nn nds) 0 = some (.rp [L false (ndP 7 ds 0)]) := hnd 0 (by omega)
  have a0 := ndL 0 (by omega)
  have b0 := ndG 0 (by omega)
  have l0 := QG (tyG 0 (by omega))
  have hgt := hty (by simp [Xs, Qe])
  have lt := QG hgt
  simp (disch := omega) [QK, Qv, Qt, GTerm.cells, eqB, i0, Qm]
  refine WG (kid _ _ _ _ _ _ 0 (by omega)) ?_
  rintro r h' ⟨rfl, rfl⟩
  simp (disch := omega) [i0, Qm]
  obtain ⟨z, hz⟩ : ∃ z, z = 2 :: (gty ++ tyP ds 0) := ⟨_, rfl⟩
  have cz := cat3 2 nl1 false gty (tyP ds 0) (by omega) (by omega)
  rw [← hz] at cz
  refine Qa cz (by simp) ?_
  simp (disch := omega) [i0, Qm]
  refine Qa (lg z) (by simp) ?_
  have fp : Wc s (ctx.map Prod.snd) 7 n gty ds = Xf z (ndP 7 ds 0) := by simp [Wc, hz]
  rw [fp, Xf]
  by_cases hl : z.length ≤ 40
  ·have hb : ltB 40 (z.length : Int) = false := by rw [Qg]; omega
   rw [hb, if_pos hl]
   simp (disch := omega)
   exact Q8 (.inr rfl) (by simp) ⟨rfl, _, _, _, _, rfl, fun _ => ⟨⟨_, rfl⟩, .inl ⟨_, rfl⟩⟩⟩
  ·have hb : ltB 40 (z.length : Int) = true := by rw [Qi]; omega
   rw [hb, if_neg hl]
   simp (disch := omega)
   exact Q8 (.inr rfl) (by simp) ⟨rfl, _, _, _, _, rfl, fun h => by simp at h⟩
 ·have i0 : QQ 1 (LC nn nds) 0 = some (.rp [L false (ndP 8 ds 0)]) := hnd 0 (by omega)
  have a0 := ndL 0 (by omega)
  have b0 := ndG 0 (by omega)
  have l0 := QG (tyG 0 (by omega))
  have i1 : QQ 1 (LC nn nds) 1 = some (.rp [L false (ndP 8 ds 1)]) := hnd 1 (by omega)
  have a1 := ndL 1 (by omega)
  have b1 := ndG 1 (by omega)
  have l1 := QG (tyG 1 (by omega))
  have i2 : QQ 1 (LC nn nds) 2 = some (.rp [L false (ndP 8 ds 2)]) := hnd 2 (by omega)
  have a2 := ndL 2 (by omega)
  have b2 := ndG 2 (by omega)
  have l2 := QG (tyG 2 (by omega))
  obtain ⟨g1, j1⟩ : ∃ f, QQ 1 (LC nu uds) 1 = some (.rp [L f (usP 8 ds 1)]) := hud 1 (by omega)
  have uo1 := fun (g : Int) hg => Vw t (g := g) hg g1 (usP 8 ds 1) (usL 1 (by omega)) (usG 1 (by omega))
  obtain ⟨g2, j2⟩ : ∃ f, QQ 1 (LC nu uds) 2 = some (.rp [L f (usP 8 ds 2)]) := hud 2 (by omega)
  have uo2 := fun (g : Int) hg => Vw t (g := g) hg g2 (usP 8 ds 2) (usL 2 (by omega)) (usG 2 (by omega))
  have hgn := hgr (by simp [Z0, Qe])
  simp (disch := omega) [QK, Qv, Qt, GTerm.cells, eqB, i0, i1, i2, j1, j2, Qm]
  refine WG (kid _ _ _ _ _ _ 1 (by omega)) ?_
  rintro r h' ⟨rfl, rfl⟩
  simp (disch := omega) [i0, i1, i2, j1, j2, Qm]
  refine WG (kid _ _ _ _ _ _ 2 (by omega)) ?_
  rintro r h' ⟨rfl, rfl⟩
  simp (disch := omega) [i0, i1, i2, j1, j2, Qm]
  refine Qa (eqc false false 1 2 (by omega)) (by simp) ?_
  cases he : (tyP ds 1 == tyP ds 2)
  ·simp (disch := omega)
   have he' : tyP ds 1 ≠ tyP ds 2 := by simpa using he
   exact Q8 (.inr rfl) (by simp) ⟨by simp [Wc, he'], _, _, _, _, rfl, fun h => by simp [Wc, he'] at h⟩
  ·simp (disch := omega) [i0, i1, i2, j1, j2, Qm]
   have he' : tyP ds 1 = tyP ds 2 := by simpa using he
   refine Qa (uo1 n hgn) (by simp) ?_
   cases hu : Wp s (usP 8 ds 1) (n)
   ·simp (disch := omega)
    exact Q8 (.inr rfl) (by simp) ⟨by simp [Wc, he', hu], _, _, _, _, rfl, fun h => by simp [Wc, he', hu] at h⟩
   ·simp (disch := omega) [i0, i1, i2, j1, j2, Qm]
    refine Qa (uo2 n hgn) (by simp) ?_
    cases hv : Wp s (usP 8 ds 2) (n)
    ·simp (disch := omega)
     exact Q8 (.inr rfl) (by simp) ⟨by simp [Wc, he', hu, hv], _, _, _, _, rfl, fun h => by simp [Wc, he', hu, hv] at h⟩
    ·simp (disch := omega) [i0, i1, i2, j1, j2, Qm]
     refine WG (kid _ _ _ _ _ _ 1 (by omega)) ?_
     rintro r h' ⟨rfl, rfl⟩
     simp (disch := omega) [i0, i1, i2, j1, j2, Qm]
     refine Qa (VE t (n) (hgn) false _ (by omega) b0) (by simp) ?_
     simp (disch := omega) [i0, i1, i2, j1, j2, Qm]
     have sc := X5 t (g := n) a0
     have jo := Zbg (s := s) a1 a2
     have jg : ∀ u ∈ XO s (ndP 8 ds 1) (ndP 8 ds 2), s.G u := fun u hu => ZhQ hsy u hu b1 b2
     refine Qa (ZnG t false false _ _ (by omega) (by omega) b1 b2) (by simp) ?_
     simp (disch := omega) [i0, i1, i2, j1, j2, Qm]
     refine Qa (sumc false false _ _ sc.1 jo sc.2 jg) (by simp) ?_
     simp (disch := omega) [i0, i1, i2, j1, j2, Qm]
     have hl1 : ltB 40 (tyP ds 1).length = false := by rw [Qg]; omega
     refine Qa (lg (tyP ds 1)) (by simp) ?_
     simp (disch := omega) [hl1]
     refine Q8 (.inr rfl) (by simp) ⟨by simp [Wc, he', hu, hv], _, _, _, _, rfl, fun _ => ?_⟩
     simp [Wc, he', hu, hv]
 ·have i0 : QQ 1 (LC nn nds) 0 = some (.rp [L false (ndP 9 ds 0)]) := hnd 0 (by omega)
  have a0 := ndL 0 (by omega)
  have b0 := ndG 0 (by omega)
  have l0 := QG (tyG 0 (by omega))
  obtain ⟨g0, j0⟩ : ∃ f, QQ 1 (LC nu uds) 0 = some (.rp [L f (usP 9 ds 0)]) := hud 0 (by omega)
  have uo0 := fun (g : Int) hg => Vw t (g := g) hg g0 (usP 9 ds 0) (usL 0 (by omega)) (usG 0 (by omega))
  have hgn := hgr (by simp [Z0, Qe])
  have hgt := hty (by simp [Xs, Qe])
  have lt := QG hgt
  simp (disch := omega) [QK, Qv, Qt, GTerm.cells, eqB, i0, j0, Qm]
  refine Qa (uo0 n hgn) (by simp) ?_
  cases hu : Wp s (usP 9 ds 0) (n)
  ·simp (disch := omega)
   exact Q8 (.inr rfl) (by simp) ⟨by simp [Wc, hu], _, _, _, _, rfl, fun h => by simp [Wc, hu] at h⟩
  ·simp (disch := omega) [i0, j0, Qm]
   rw [Qf (by have := hgn.1; have := hgn.2; omega)]
   refine WG (kid _ _ _ _ _ _ 0 (by omega)) ?_
   rintro r h' ⟨rfl, rfl⟩
   simp (disch := omega) [i0, j0, Qm]
   obtain ⟨z, hz⟩ : ∃ z, z = (3 + n) :: (gty ++ tyP ds 0) := ⟨_, rfl⟩
   have cz := cat3 (3 + n) nl1 false gty (tyP ds 0) (by omega) (by omega)
   rw [← hz] at cz
   refine Qa cz (by simp) ?_
   simp (disch := omega) [i0, j0, Qm]
   refine Qa (lg z) (by simp) ?_
   have fp : Wc s (ctx.map Prod.snd) 9 n gty ds = Xf z (ndP 9 ds 0) := by simp [Wc, hz, hu]
   rw [fp, Xf]
   by_cases hl : z.length ≤ 40
   ·have hb : ltB 40 (z.length : Int) = false := by rw [Qg]; omega
    rw [hb, if_pos hl]
    simp (disch := omega)
    exact Q8 (.inr rfl) (by simp) ⟨rfl, _, _, _, _, rfl, fun _ => ⟨⟨_, rfl⟩, .inl ⟨_, rfl⟩⟩⟩
   ·have hb : ltB 40 (z.length : Int) = true := by rw [Qi]; omega
    rw [hb, if_neg hl]
    simp (disch := omega)
    exact Q8 (.inr rfl) (by simp) ⟨rfl, _, _, _, _, rfl, fun h => by simp at h⟩
 ·have i0 : QQ 1 (LC nn nds) 0 = some (.rp [L false (ndP 10 ds 0)]) := hnd 0 (by omega)
  have a0 := ndL 0 (by omega)
  have b0 := ndG 0 (by omega)
  have l0 := QG (tyG 0 (by omega))
  have i1 : QQ 1 (LC nn nds) 1 = some (.rp [L false (ndP 10 ds 1)]) := hnd 1 (by omega)
  have a1 := ndL 1 (by omega)
  have b1 := ndG 1 (by omega)
  have l1 := QG (tyG 1 (by omega))
  have h0 := X8 (tyG 0 (by omega))
  have hx0 : QQ 1 (L false (tyP ds 0)) 0 = some (.rp [N (hd (tyP ds 0))]) := Z4 h0.2.2.2.1
  have hga := fst (by omega)
  have hgc := Ke h0.1 (.inl ((fst (by omega)).2.2.2.1 rfl))
  have hsh : (QF (hd (tyP ds 0))).2 = W1 (hd (tyP ds 0)) := (Kg h0.2.1 h0.2.2.1).2.2.2.2.2 (.inl ((fst (by omega)).2.2.2.1 rfl))
  have hgg : s.G (QF (hd (tyP ds 0))).2 := by rw [hsh]; exact hgc
  simp (disch := omega) [QK, Qv, Qt, GTerm.cells, eqB, i0, i1, Qm]
  refine WG (kid _ _ _ _ _ _ 0 (by omega)) ?_
  rintro r h' ⟨rfl, rfl⟩
  simp (disch := omega) [hx0, Qm]
  refine Qa (Zaw _ ⟨by omega, by omega⟩) (by simp) ?_
  simp (disch := omega) [i0, i1, Qm]
  refine WG (kid _ _ _ _ _ _ 0 (by omega)) ?_
  rintro r h' ⟨rfl, rfl⟩
  simp (disch := omega) [i0, i1, Qm]
  refine Qa (Zgh (JT (tyG 0 (by omega)))) (by simp) ?_
  rw [Zbx (JG (hga.2.2.2.1 rfl))]
  have hx1 : QQ 1 (.sl true false 1 [[L false (QI (tyP ds 0))], [L false (Ws (tyP ds 0))]]) 1 = some (.rp [L false (Ws (tyP ds 0))]) := by simp [QQ]
  simp (disch := omega) [i0, i1, Qm, hx1]
  refine Qa (VE t ((QF (hd (tyP ds 0))).2) (hgg) false _ (by omega) b1) (by simp) ?_
  simp (disch := omega) [i0, i1, Qm]
  have sc := X5 t (g := (QF (hd (tyP ds 0))).2) a1
  refine Qa (sumc false false _ _ a0 sc.1 b0 sc.2) (by simp) ?_
  simp (disch := omega) [i0, i1, Qm]
  have l9 := QG (JQ (tyG 0 (by omega)) (JG (hga.2.2.2.1 rfl))).2.2
  have hl9 : ltB 40 (Ws (tyP ds 0)).length = false := by rw [Qg]; omega
  refine Qa (lg (Ws (tyP ds 0))) (by simp) ?_
  simp (disch := omega) [hl9]
  refine Q8 (.inr rfl) (by simp) ⟨by simp [Wc], _, _, _, _, rfl, fun _ => ?_⟩
  simp [Wc]
 ·have i0 : QQ 1 (LC nn nds) 0 = some (.rp [L false (ndP 11 ds 0)]) := hnd 0 (by omega)
  have a0 := ndL 0 (by omega)
  have b0 := ndG 0 (by omega)
  have l0 := QG (tyG 0 (by omega))
  have hgn := hgr (by simp [Z0, Qe])
  simp (disch := omega) [QK, Qv, Qt, GTerm.cells, eqB, i0, Qm]
  rw [Qf (by have := hgn.1; have := hgn.2; omega)]
  refine WG (kid _ _ _ _ _ _ 0 (by omega)) ?_
  rintro r h' ⟨rfl, rfl⟩
  simp (disch := omega) [i0, Qm]
  obtain ⟨z, hz⟩ : ∃ z, z = (19 + n) :: tyP ds 0 := ⟨_, rfl⟩
  have cz := cat2 (19 + n) false (tyP ds 0) (by omega)
  rw [← hz] at cz
  refine Qa cz (by simp) ?_
  simp (disch := omega) [i0, Qm]
  refine Qa (VE t (n) (hgn) false _ (by omega) b0) (by simp) ?_
  simp (disch := omega) [i0, Qm]
  refine Qa (lg z) (by simp) ?_
  have fp : Wc s (ctx.map Prod.snd) 11 n gty ds = Xf z (QT s n (ndP 11 ds 0)) := by simp [Wc, hz]
  rw [fp, Xf]
  by_cases hl : z.length ≤ 40
  ·have hb : ltB 40 (z.length : Int) = false := by rw [Qg]; omega
   rw [hb, if_pos hl]
   simp (disch := omega)
   exact Q8 (.inr rfl) (by simp) ⟨rfl, _, _, _, _, rfl, fun _ => ⟨⟨_, rfl⟩, .inl ⟨_, rfl⟩⟩⟩
  ·have hb : ltB 40 (z.length : Int) = true := by rw [Qi]; omega
   rw [hb, if_neg hl]
   simp (disch := omega)
   exact Q8 (.inr rfl) (by simp) ⟨rfl, _, _, _, _, rfl, fun h => by simp at h⟩
 ·have i0 : QQ 1 (LC nn nds) 0 = some (.rp [L false (ndP 12 ds 0)]) := hnd 0 (by omega)
  have a0 := ndL 0 (by omega)
  have b0 := ndG 0 (by omega)
  have l0 := QG (tyG 0 (by omega))
  have i1 : QQ 1 (LC nn nds) 1 = some (.rp [L false (ndP 12 ds 1)]) := hnd 1 (by omega)
  have a1 := ndL 1 (by omega)
  have b1 := ndG 1 (by omega)
  have l1 := QG (tyG 1 (by omega))
  obtain ⟨g1, j1⟩ : ∃ f, QQ 1 (LC nu uds) 1 = some (.rp [L f (usP 12 ds 1)]) := hud 1 (by omega)
  have uo1 := fun (g : Int) hg => Vw t (g := g) hg g1 (usP 12 ds 1) (usL 1 (by omega)) (usG 1 (by omega))
  have hgn := hgr (by simp [Z0, Qe])
  have h0 := X8 (tyG 0 (by omega))
  have hx0 : QQ 1 (L false (tyP ds 0)) 0 = some (.rp [N (hd (tyP ds 0))]) := Z4 h0.2.2.2.1
  have hga := fst (by omega)
  have hgc := Ke h0.1 (.inr ((fst (by omega)).2.2.2.2 rfl))
  have hsh : (QF (hd (tyP ds 0))).2 = W1 (hd (tyP ds 0)) := (Kg h0.2.1 h0.2.2.1).2.2.2.2.2 (.inr ((fst (by omega)).2.2.2.2 rfl))
  have hgg : s.G (QF (hd (tyP ds 0))).2 := by rw [hsh]; exact hgc
  simp (disch := omega) [QK, Qv, Qt, GTerm.cells, eqB, i0, i1, j1, Qm]
  refine WG (kid _ _ _ _ _ _ 0 (by omega)) ?_
  rintro r h' ⟨rfl, rfl⟩
  simp (disch := omega) [hx0, Qm]
  refine Qa (Zaw _ ⟨by omega, by omega⟩) (by simp) ?_
  simp (disch := omega) [i0, i1, j1, Qm]
  refine Qa (Zca t hgn hgg) (by simp) ?_
  simp (disch := omega) [i0, i1, j1, Qm]
  refine Qa (uo1 _ (GSys.Gtm t _ _)) (by simp) ?_
  cases hu : Wp s (usP 12 ds 1) (s.tm n (QF (hd (tyP ds 0))).2)
  ·simp (disch := omega)
   exact Q8 (.inr rfl) (by simp) ⟨by simp [Wc, hu], _, _, _, _, rfl, fun h => by simp [Wc, hu] at h⟩
  ·simp (disch := omega) [i0, i1, j1, Qm]
   refine WG (kid _ _ _ _ _ _ 1 (by omega)) ?_
   rintro r h' ⟨rfl, rfl⟩
   simp (disch := omega) [i0, i1, j1, Qm]
   refine Qa (VE t (n) (hgn) false _ (by omega) b0) (by simp) ?_
   simp (disch := omega) [i0, i1, j1, Qm]
   have sc := X5 t (g := n) a0
   refine Qa (sumc false false _ _ sc.1 a1 sc.2 b1) (by simp) ?_
   simp (disch := omega) [i0, i1, j1, Qm]
   have hl1 : ltB 40 (tyP ds 1).length = false := by rw [Qg]; omega
   refine Qa (lg (tyP ds 1)) (by simp) ?_
   simp (disch := omega) [hl1]
   refine Q8 (.inr rfl) (by simp) ⟨by simp [Wc, hu], _, _, _, _, rfl, fun _ => ?_⟩
   simp [Wc, hu]
end Go.Proofs.YtclfngbealdbgaaGreat
