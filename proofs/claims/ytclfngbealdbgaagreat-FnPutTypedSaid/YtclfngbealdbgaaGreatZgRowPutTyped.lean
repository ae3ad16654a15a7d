/- Part 7 of the proof of the row of the text YtclfngbealdbgaaGreatZRowPutTyped: texts joined. No conditions. -/
import Derived.Test.YtclfngbealdbgaaGreatZfRowPutTyped
set_option linter.unusedSimpArgs false
set_option linter.unusedVariables false
set_option linter.unusedSectionVars false
namespace Go.Proofs.YtclfngbealdbgaaGreat
open Go Go.TL
open Go.Proofs.YtclfngbealdbgaaGreat.Ty
set_option linter.unusedSimpArgs false
set_option linter.unusedVariables false
set_option maxRecDepth 20000
set_option maxHeartbeats 4000000
theorem Zi6 {s : GSys} {ctx : Wx} {g : GTerm} (a : Arg s ctx g) (nlc : Bool) : Qd Tryz.prog Vx [s.lv, LC nlc ctx, g.lv] (· = B (YR s ctx g).isSome) := by
 refine Qd.of_codeOf ZhI Qz (by simp) ⟨_, rfl, by simp⟩ ?_
 simp (disch := omega) [Zcw, Qv, Qt]
 refine Qh (Qd.low (Jd a nlc)) (by simp) ?_
 rintro r ⟨hr, lo⟩
 cases hx : YR s ctx g with
 | none =>
  rw [hx] at hr
  obtain ⟨u1, u2, rfl⟩ := hr
  simp (disch := omega)
 | some x =>
  rw [hx] at hr
  obtain ⟨u1, u2, rfl⟩ := hr
  simp (disch := omega)
end Go.Proofs.YtclfngbealdbgaaGreat
namespace Go.Proofs.YtclfngbealdbgaaGreat
open Go Go.TL
open Go.Proofs.YtclfngbealdbgaaGreat.Ty
set_option linter.unusedSimpArgs false
attribute [local simp low] Xb
attribute [local simp] Zer Zeh ZeA ZeK Zen ZeJ
end Go.Proofs.YtclfngbealdbgaaGreat
namespace Go.Proofs.YtclfngbealdbgaaGreat
open Go Go.TL
open Go.Proofs.YtclfngbealdbgaaGreat.Ty
set_option linter.unusedSimpArgs false
set_option linter.unusedVariables false
set_option linter.unusedSectionVars false
set_option maxRecDepth 20000
set_option maxHeartbeats 4000000
abbrev OF (l : List Int) : LV := .sl (!l.isEmpty) l.isEmpty 1 (l.map fun n => [N n])
theorem b4 : W4 4 = false ∧ QM 4 = true := by decide
end Go.Proofs.YtclfngbealdbgaaGreat
namespace Go.Proofs.YtclfngbealdbgaaGreat
open Go Go.TL
open Go.Proofs.YtclfngbealdbgaaGreat.Ty
set_option linter.unusedSimpArgs false
set_option linter.unusedVariables false
set_option linter.unusedSectionVars false
set_option maxRecDepth 20000
set_option maxHeartbeats 4000000
mutual
def GTerm.ownC : GTerm → List LV
 | .mk op n _ ty _ ks => [N op, N n, OF ty, .sl (!ks.isEmpty) ks.isEmpty 4 (ZbH ks)]
def ZbH : List GTerm → List (List LV)
 | [] => []
 | k :: ks => k.ownC :: ZbH ks
end
mutual
def GTerm.nm : GTerm → GTerm
 | .mk op n _ ty _ ks => .mk op n ty.isEmpty ty ks.isEmpty (nms ks)
def nms : List GTerm → List GTerm
 | [] => []
 | k :: ks => k.nm :: nms ks
end
theorem ZmX : ∀ ks : List GTerm, ZbH ks = ks.map GTerm.ownC
 | [] => by simp [ZbH]
 | k :: ks => by simp [ZbH, ZmX ks]
theorem ZoF : ∀ ks : List GTerm, nms ks = ks.map GTerm.nm
 | [] => by simp [nms]
 | k :: ks => by simp [nms, ZoF ks]
@[simp] theorem ownCs_length (ks : List GTerm) : (ZbH ks).length = ks.length := by simp [ZmX]
@[simp] theorem ZiD (ks : List GTerm) : (nms ks).length = ks.length := by simp [ZoF]
theorem Zdi (ks : List GTerm) : (nms ks).isEmpty = ks.isEmpty := by cases ks <;> simp [nms]
@[simp] theorem ownC_length (t : GTerm) : t.ownC.length = 4 := by cases t; simp [GTerm.ownC]
@[simp] theorem take_ownC (t : GTerm) : t.ownC.take 4 = t.ownC := List.take_of_length_le (by simp)
@[simp] theorem alive_ownC (t : GTerm) : Wz t.ownC = true := by cases t; simp [GTerm.ownC]
mutual
theorem Zja : ∀ t : GTerm, shareAll t.ownC = t.nm.cells
 | .mk op n nl1 ty nl2 ks => by
  simp only [GTerm.ownC, GTerm.nm, GTerm.cells, shareAll, share, Zcn ks]
  congr 3
  simp
theorem Zcn : ∀ ks : List GTerm, Qu (ZbH ks) = QS (nms ks)
 | [] => by simp [ZbH, nms, QS, Qu]
 | k :: ks => by simp only [ZbH, nms, QS, Qu, Zja k, Zcn ks]
end
attribute [simp] Zja Zcn
mutual
theorem Zoa (k : Nat) : ∀ t : GTerm, QE k t.ownC
 | .mk op n nl1 ty nl2 ks => by
  have := Zge k ks
  simp [GTerm.ownC, this]
theorem Zge (k : Nat) : ∀ ks : List GTerm, Wj k (ZbH ks)
 | [] => by simp [ZbH]
 | t :: ks => by simp [ZbH, Zoa k t, Zge k ks]
end
attribute [simp] Zoa Zge
mutual
theorem Za6 : ∀ a : GTerm, a.nm.size = a.size
 | .mk op n nl1 ty nl2 ks => by simp [GTerm.nm, GTerm.size, Zk2 ks]
theorem Zk2 : ∀ a : List GTerm, WX (nms a) = WX a
 | [] => by simp [nms, WX]
 | a :: a' => by simp [nms, WX, Za6 a, Zk2 a']
end
mutual
theorem wf_nm : ∀ a : GTerm, a.wf → a.nm.wf
 | .mk op n nl1 ty nl2 ks, h => by
  simp only [GTerm.wf, GTerm.nm] at *
  exact ⟨h.1, h.2.1, h.2.2.1, by rw [ZiD]; exact h.2.2.2.1, ZpF ks h.2.2.2.2⟩
theorem ZpF : ∀ a : List GTerm, wfs a → wfs (nms a)
 | [], _ => by simp [nms, wfs]
 | a :: a', h => by
  simp only [wfs, nms] at *
  exact ⟨wf_nm a h.1, ZpF a' h.2⟩
end
mutual
theorem Zbu {nv size : Int} {closed : Bool} : ∀ a : GTerm, WE nv size closed a.nm = WE nv size closed a
 | .mk op n nl1 ty nl2 ks => by simp [GTerm.nm, WE, Zna ks]
theorem Zna {nv size : Int} {closed : Bool} {op : Int} {k : Nat} : ∀ a : List GTerm, WR nv size closed op k (nms a) = WR nv size closed op k a
 | [] => by simp [nms, WR]
 | a :: a' => by simp [nms, WR, Zbu a, Zna a']
end
end Go.Proofs.YtclfngbealdbgaaGreat
namespace Go.TL
mutual
def nz : LV → LV
 | .sc v => .sc v
 | .sl u nl sz xs => if nl && xs.isEmpty then .sl false true 0 [] else .sl u nl sz (Zd0 xs)
 | .ha l sz off n cap => .ha l sz off n cap
 | .raw sz => .raw sz
 | .ptr l o => .ptr l o
 | .rp xs => .rp (Jc xs)
 | .fn f caps => .fn f (Jc caps)
 | .fnm f first => .fnm f (Jc first)
 | .agg xs => .agg (Jc xs)
 | .tup xs => .tup (Jc xs)
 | .dead => .dead
 | .both u t => .both u (nz t)
def Jc : List LV → List LV
 | [] => []
 | x :: xs => nz x :: Jc xs
def Zd0 : List (List LV) → List (List LV)
 | [] => []
 | x :: xs => Jc x :: Zd0 xs
end
theorem Ze2 : ∀ xs : List LV, (Jc xs).length = xs.length
 | [] => rfl
 | _ :: xs => by simp only [Jc, List.length_cons, Ze2 xs]
theorem ZeX : ∀ xs : List (List LV), (Zd0 xs).length = xs.length
 | [] => rfl
 | _ :: xs => by simp only [Zd0, List.length_cons, ZeX xs]
theorem Zqu : ∀ xs : List (List LV), Zd0 xs = [] ↔ xs = []
 | [] => by simp [Zd0]
 | _ :: xs => by simp [Zd0]
mutual
theorem ZiM (A : GM) (μ : List Nat) : ∀ (x : LV) (v : Value) (O : List Own), Rep A μ (nz x) v O ↔ Rep A μ x v O
 | .sc u, v, O => by simp only [nz]
 | .sl u nl sz xs, v, O => by
  by_cases h : (nl && xs.isEmpty) = true
  ·have h' := h
   simp only [Bool.and_eq_true, List.isEmpty_iff] at h'
   obtain ⟨rfl, rfl⟩ := h'
   simp only [nz, h, if_true, Rep, Bool.true_eq_false, false_and, or_false]
  ·simp only [nz, if_neg h, Rep, ZeX, Zqu, Zk9 A μ xs]
 | .ha l sz off n cap, v, O => by simp only [nz]
 | .raw sz, v, O => by simp only [nz]
 | .ptr l o, v, O => by simp only [nz]
 | .rp xs, v, O => by simp only [nz, Rep, ZcG A μ xs]
 | .fn f caps, v, O => by simp only [nz, Rep, Jq A μ caps]
 | .fnm f first, v, O => by simp only [nz, Rep, Jq A μ first]
 | .agg xs, v, O => by simp only [nz, Rep, Jq A μ xs]
 | .tup xs, v, O => by simp only [nz, Rep, Jq A μ xs]
 | .dead, v, O => by simp only [nz]
 | .both u t, v, O => by simp only [nz, Rep, ZiM A μ t]
theorem Zk9 (A : GM) (μ : List Nat) : ∀ (xs : List (List LV)) (sz b off : Nat) (O : List Own), Qx A μ (Zd0 xs) sz b off O ↔ Qx A μ xs sz b off O
 | [], sz, b, off, O => by simp only [Zd0]
 | x :: xs, sz, b, off, O => by simp only [Zd0, Qx, Ze2, ZcG A μ x, Zk9 A μ xs]
theorem ZcG (A : GM) (μ : List Nat) : ∀ (xs : List LV) (b off : Nat) (O : List Own), Qw A μ (Jc xs) b off O ↔ Qw A μ xs b off O
 | [], b, off, O => by simp only [Jc]
 | x :: xs, b, off, O => by simp only [Jc, Qw, ZiM A μ x, ZcG A μ xs]
theorem Jq (A : GM) (μ : List Nat) : ∀ (xs : List LV) (vs : List Value) (O : List Own), Qb A μ (Jc xs) vs O ↔ Qb A μ xs vs O
 | [], vs, O => by simp only [Jc]
 | x :: xs, vs, O => by simp only [Jc, Qb, ZiM A μ x, Jq A μ xs]
end
theorem Wa.nz {P : Program} {f : FuncId} {args args' : List LV} {h : List Box} {R : LV → List Box → Prop} (c : Wa P f args' h R) (e : Jc args = Jc args') : Wa P f args h R := by
 obtain ⟨h1, h2, h3⟩ := c
 refine ⟨h1, h2, fun w A μ OH vals Oa hv hi => h3 w A μ OH vals Oa ?_ hi⟩
 rw [← Jq, ← e, Jq]
 exact hv
theorem Qd.nz {P : Program} {f : FuncId} {args args' : List LV} {R : LV → Prop} (c : Qd P f args' R) (e : Jc args = Jc args') : Qd P f args R := Wa.nz c e
theorem Wa.nzR {P : Program} {f : FuncId} {args : List LV} {h : List Box} {R R' : LV → List Box → Prop} (c : Wa P f args h R) (hr : ∀ r h', R r h' → ∃ r', Go.TL.nz r' = Go.TL.nz r ∧ R' r' h') : Wa P f args h R' := by
 obtain ⟨h1, ⟨r, h', hR⟩, h2⟩ := c
 obtain ⟨r', _, hR'⟩ := hr r h' hR
 refine ⟨h1, ⟨r', h', hR'⟩, fun w A μ OH vals Oa hv hi => (h2 w A μ OH vals Oa hv hi).mono fun e w' he => ?_⟩
 obtain ⟨v, r, h', B, ν, OH', O', g1, g2, g3, g4⟩ := he
 obtain ⟨r', he', hR'⟩ := hr r h' g2
 exact ⟨v, r', h', B, ν, OH', O', g1, hR', (by rw [← ZiM, he', ZiM]; exact g3), g4⟩
def idxT (sz : Nat) (v : LV) (i : Int) : Option LV :=
 match v with
 | .sl _ _ sz' xs => if sz' = sz ∧ 0 ≤ i ∧ i < xs.length then some (.rp (xs.getD i.toNat [])) else none
 | _ => none
@[simp] theorem step_indexT {s : St} {d sz : Nat} {x i : X} : step (.indexT d sz x i) s = ((intOf (get s.t i)).bind (idxT sz (get s.t x))).map ((s.give x).put d) := by
 simp only [step]
 cases hi : intOf (get s.t i) with
 | none => cases get s.t x <;> simp
 | some i => cases get s.t x <;> simp [idxT] <;> (try split) <;> simp_all
@[simp] theorem step_loadT {s : St} {d sz : Nat} {ag : Bool} {x : X} : step (.loadT d ag sz x) s = (rdLV ag sz (get s.t x)).map ((s.give x).put d) := by
 simp only [step, rdLV]
 cases get s.t x <;> simp
 split
 ·split <;> simp_all
 ·simp_all
@[simp] theorem idxT_sl {u nl : Bool} {sz : Nat} {xs : List (List LV)} {i : Int} (h : 0 ≤ i ∧ i < xs.length) : idxT sz (.sl u nl sz xs) i = some (.rp (xs.getD i.toNat [])) := by
 simp [idxT, h.1, h.2]
end Go.TL
namespace Go.Proofs.YtclfngbealdbgaaGreat
open Go Go.TL
open Go.Proofs.YtclfngbealdbgaaGreat.Ty
set_option linter.unusedSimpArgs false
set_option linter.unusedVariables false
set_option linter.unusedSectionVars false
set_option maxRecDepth 20000
set_option maxHeartbeats 4000000
theorem Qd.nzR {P : Program} {f : FuncId} {args : List LV} {R R' : LV → Prop} (c : Qd P f args R) (hr : ∀ r, R r → ∃ r', Go.TL.nz r' = Go.TL.nz r ∧ R' r' ∧ Low 0 r') : Qd P f args R' :=
 Wa.nzR c fun r h' h => by obtain ⟨r', h1, h2, h3⟩ := hr r h.1; exact ⟨r', h1, h2, h3⟩
theorem Zgr {P : Program} {a b c : C} {Q : Exit → St → Prop} {s : St} : wpC P (.seq a (.seq b c)) Q s ↔ wpC P (.seq (.seq a b) c) Q s := by
 have e : YK (wpC P b (YK (wpC P c Q) Q)) Q = YK (wpC P b (YK (wpC P c Q) Q)) (YK (wpC P c Q) Q) := by
  funext e s; cases e <;> rfl
 show wpC P a (YK (wpC P b (YK (wpC P c Q) Q)) Q) s ↔ wpC P a (YK (wpC P b (YK (wpC P c Q) Q)) (YK (wpC P c Q) Q)) s
 rw [e]
end Go.Proofs.YtclfngbealdbgaaGreat
namespace Go.Proofs.YtclfngbealdbgaaGreat
open Go Go.TL
open Go.Proofs.YtclfngbealdbgaaGreat.Ty
set_option linter.unusedSimpArgs false
set_option linter.unusedVariables false
set_option linter.unusedSectionVars false
set_option maxRecDepth 20000
set_option maxHeartbeats 4000000
end Go.Proofs.YtclfngbealdbgaaGreat
namespace Go.Proofs.YtclfngbealdbgaaGreat
open Go Go.TL
open Go.Proofs.YtclfngbealdbgaaGreat.Ty
set_option linter.unusedSimpArgs false
set_option linter.unusedVariables false
set_option linter.unusedSectionVars false
set_option maxRecDepth 20000
set_option maxHeartbeats 4000000
theorem len4 {cs : List LV} (h : cs.length = 4) : ∃ a b c d, cs = [a, b, c, d] := by
 match cs, h with
 | [a, b, c, d], _ => exact ⟨a, b, c, d, rfl⟩
end Go.Proofs.YtclfngbealdbgaaGreat
namespace Go.Proofs.YtclfngbealdbgaaGreat
open Go Go.TL
open Go.Proofs.YtclfngbealdbgaaGreat.Ty
set_option linter.unusedSimpArgs false
set_option linter.unusedVariables false
set_option linter.unusedSectionVars false
set_option maxRecDepth 20000
set_option maxHeartbeats 4000000
theorem KV (a : List GTerm) (k : GTerm) : nms (a ++ [k]) = nms a ++ [k.nm] := by simp [ZoF]
theorem Zac (a : List GTerm) (k : GTerm) : QS (a ++ [k]) = QS a ++ [k.cells] := by simp [Zdj]
theorem Vl {a b : List GTerm} (h : nms a = nms b) : a.length = b.length := by
 have := congrArg List.length h
 simpa using this
end Go.Proofs.YtclfngbealdbgaaGreat
namespace Go.Proofs.YtclfngbealdbgaaGreat
open Go Go.TL
open Go.Proofs.YtclfngbealdbgaaGreat.Ty
set_option linter.unusedSimpArgs false
set_option linter.unusedVariables false
set_option linter.unusedSectionVars false
set_option maxRecDepth 20000
set_option maxHeartbeats 4000000
end Go.Proofs.YtclfngbealdbgaaGreat
namespace Go.Proofs.YtclfngbealdbgaaGreat
open Go Go.TL
open Go.Proofs.YtclfngbealdbgaaGreat.Ty
set_option linter.unusedSimpArgs false
set_option linter.unusedVariables false
set_option linter.unusedSectionVars false
set_option maxRecDepth 20000
set_option maxHeartbeats 4000000
mutual
def shG (bw fr : Int) : GTerm → GTerm
 | .mk op n nl1 ty nl2 ks => .mk op (if op = 0 ∧ fr ≤ n then n + bw else n) nl1 ty nl2 (JB bw fr op 0 ks)
def JB (bw fr op : Int) (k : Nat) : List GTerm → List GTerm
 | [] => []
 | t :: ts => shG bw (fr + Qp op k) t :: JB bw fr op (k + 1) ts
end
theorem Jy {bw fr op : Int} : ∀ (ks : List GTerm) (k : Nat), (JB bw fr op k ks).length = ks.length
 | [], _ => by simp [JB]
 | t :: ts, k => by simp [JB, Jy ts]
theorem Zn7 {bw fr op : Int} : ∀ (ks : List GTerm) (k i : Nat) (h : i < ks.length), (JB bw fr op k ks)[i]'(by rw [Jy]; exact h) = shG bw (fr + Qp op ((k + i : Nat) : Int)) ks[i]
 | [], _, i, h => by simp at h
 | t :: ts, k, 0, h => by simp [JB]
 | t :: ts, k, i + 1, h => by
  simp only [JB, List.getElem_cons_succ]
  rw [Zn7 ts (k + 1) i (by simpa using h), show k + 1 + i = k + (i + 1) by omega]
theorem ZqL {bw fr op : Int} {ks : List GTerm} {i : Nat} (h : i < ks.length) : (JB bw fr op 0 ks).take (i + 1) = (JB bw fr op 0 ks).take i ++ [shG bw (fr + Qp op i) ks[i]] := by
 rw [List.take_succ_eq_append_getElem (by rw [Jy]; exact h), Zn7 ks 0 i h]; simp
mutual
theorem Ziw (bw : Int) : ∀ (t : GTerm) (fr : Int), (shG bw fr t).size = t.size
 | .mk op n nl1 ty nl2 ks, fr => by simp [shG, GTerm.size, Zk4 bw ks fr op 0]
theorem Zk4 (bw : Int) : ∀ (ks : List GTerm) (fr op : Int) (k : Nat), WX (JB bw fr op k ks) = WX ks
 | [], _, _, _ => by simp [JB, WX]
 | t :: ts, fr, op, k => by simp [JB, WX, Ziw bw t, Zk4 bw ts]
end
theorem num_sh {nv size bw fr op n : Int} (h0 : 0 ≤ fr) (h1 : fr ≤ nv) (hb : 0 ≤ bw) : ZbV (nv + bw) size true op (if op = 0 ∧ fr ≤ n then n + bw else n) = ZbV nv size true op n := by
 unfold ZbV
 by_cases h : op = 0
 ·subst h
  have e0 : eqB 0 0 = true := by rw [Qe]
  rw [if_pos e0, if_pos e0]
  rw [Bool.eq_iff_iff, QV, QV]
  simp only [true_and]
  split <;> omega
 ·have e0 : eqB op 0 = false := by rw [Qc]; exact h
  have e1 : (if op = 0 ∧ fr ≤ n then n + bw else n) = n := if_neg fun h' => h h'.1
  rw [e1]; simp [e0]
mutual
theorem Zl4 {size bw : Int} (hb : 0 ≤ bw) : ∀ (t : GTerm) (nv fr : Int), 0 ≤ fr → fr ≤ nv → WE (nv + bw) size true (shG bw fr t) = WE nv size true t
 | .mk op n nl1 ty nl2 ks, nv, fr, h0, h1 => by
  simp only [shG, WE, YQ, Jy, num_sh h0 h1 hb, ZnP hb ks nv fr op 0 h0 h1]
theorem ZnP {size bw : Int} (hb : 0 ≤ bw) : ∀ (ks : List GTerm) (nv fr op : Int) (k : Nat), 0 ≤ fr → fr ≤ nv → WR (nv + bw) size true op k (JB bw fr op k ks) = WR nv size true op k ks
 | [], _, _, _, _, _, _ => by simp [JB, WR]
 | t :: ts, nv, fr, op, k, h0, h1 => by
  have := WV op k
  have e := Zl4 (size := size) hb t (nv + Qp op k) (fr + Qp op k) (by omega) (by omega)
  rw [show nv + Qp op k + bw = nv + bw + Qp op k by omega] at e
  simp only [JB, WR, e, ZnP hb ts nv fr op (k + 1) h0 h1]
end
mutual
def GTerm.sk (nv : Int) : GTerm → Prop
 | .mk op n _ ty _ ks => (I64 op ∧ I64 n ∧ Lok ty ∧ ks.length ≤ 3) ∧ (op = 0 → 0 ≤ n ∧ n ≤ nv - 1 ∧ ks = [] ∧ ty = []) ∧ sks nv op 0 ks
def sks (nv op : Int) (k : Nat) : List GTerm → Prop
 | [] => True
 | t :: ts => t.sk (nv + Qp op k) ∧ sks nv op (k + 1) ts
end
theorem Zhn {nv op : Int} : ∀ {ks : List GTerm} {k : Nat}, sks nv op k ks ↔ ∀ (i : Nat) (h : i < ks.length), (ks[i]).sk (nv + Qp op ((k + i : Nat) : Int))
 | [], k => by simp [sks]
 | t :: ts, k => by
  simp only [sks, Zhn (ks := ts)]
  constructor
  ·rintro ⟨h1, h2⟩ i hi
   cases i with
   | zero => simpa only [Nat.add_zero, List.getElem_cons_zero] using h1
   | succ i =>
    have := h2 i (by simpa using hi)
    rw [show k + 1 + i = k + (i + 1) by omega] at this
    exact this
  ·intro h
   refine ⟨by have := h 0 (by simp); simpa only [Nat.add_zero, List.getElem_cons_zero] using this, fun i hi => ?_⟩
   have := h (i + 1) (by simpa using hi)
   rw [show k + (i + 1) = k + 1 + i by omega] at this
   exact this
mutual
theorem sk_wf : ∀ (g : GTerm) (nv : Int), g.sk nv → g.wf
 | .mk op n nl1 ty nl2 ks, nv, h => by
  simp only [GTerm.sk, GTerm.wf] at h ⊢
  exact ⟨h.1.1, h.1.2.1, h.1.2.2.1, by omega, sks_wf ks nv op 0 h.2.2⟩
theorem sks_wf : ∀ (ks : List GTerm) (nv op : Int) (k : Nat), sks nv op k ks → wfs ks
 | [], _, _, _, _ => by simp [wfs]
 | t :: ts, nv, op, k, h => by
  simp only [sks, wfs] at h ⊢
  exact ⟨sk_wf t _ h.1, sks_wf ts nv op (k + 1) h.2⟩
end
mutual
theorem sk_sh {bw : Int} (hb : 0 ≤ bw ∧ bw ≤ 1000) : ∀ (g : GTerm) (nv fr : Int), 0 ≤ fr → nv + 2 * g.size ≤ 100000000 → g.sk nv → (shG bw fr g).sk (nv + bw)
 | .mk op n nl1 ty nl2 ks, nv, fr, h0, hv, h => by
  simp only [GTerm.sk, shG, GTerm.size] at h hv ⊢
  obtain ⟨⟨q1, q2, q3, q4⟩, q5, q6⟩ := h
  have ih := sks_sh hb ks nv fr op 0 h0 (by omega) q6
  refine ⟨⟨q1, ?_, q3, by rw [Jy]; exact q4⟩, fun ho => ?_, ih⟩
  ·split
   ·rename_i hc
    have := q5 hc.1
    unfold I64; omega
   ·exact q2
  ·obtain ⟨r1, r2, r3, r4⟩ := q5 ho
   subst r3
   refine ⟨?_, ?_, by simp [JB], r4⟩ <;> split <;> omega
theorem sks_sh {bw : Int} (hb : 0 ≤ bw ∧ bw ≤ 1000) : ∀ (ks : List GTerm) (nv fr op : Int) (k : Nat), 0 ≤ fr → nv + 2 + 2 * WX ks ≤ 100000000 → sks nv op k ks → sks (nv + bw) op k (JB bw fr op k ks)
 | [], _, _, _, _, _, _, _ => by simp [JB, sks]
 | t :: ts, nv, fr, op, k, h0, hv, h => by
  simp only [sks, JB, WX] at h hv ⊢
  have := WV op k
  have e := sk_sh hb t (nv + Qp op k) (fr + Qp op k) (by omega) (by omega) h.1
  rw [show nv + Qp op k + bw = nv + bw + Qp op k by omega] at e
  exact ⟨e, sks_sh hb ts nv fr op (k + 1) h0 (by omega) h.2⟩
end
end Go.Proofs.YtclfngbealdbgaaGreat
namespace Go.Proofs.YtclfngbealdbgaaGreat
open Go Go.TL
open Go.Proofs.YtclfngbealdbgaaGreat.Ty
set_option linter.unusedSimpArgs false
set_option linter.unusedVariables false
set_option linter.unusedSectionVars false
set_option maxRecDepth 20000
set_option maxHeartbeats 4000000
end Go.Proofs.YtclfngbealdbgaaGreat
namespace Go.Proofs.YtclfngbealdbgaaGreat
open Go Go.TL
open Go.Proofs.YtclfngbealdbgaaGreat.Ty
set_option linter.unusedSimpArgs false
set_option linter.unusedVariables false
set_option linter.unusedSectionVars false
set_option maxRecDepth 20000
set_option maxHeartbeats 4000000
end Go.Proofs.YtclfngbealdbgaaGreat
namespace Go.Proofs.YtclfngbealdbgaaGreat
open Go Go.TL
open Go.Proofs.YtclfngbealdbgaaGreat.Ty
set_option linter.unusedSimpArgs false
set_option linter.unusedVariables false
set_option linter.unusedSectionVars false
set_option maxRecDepth 20000
set_option maxHeartbeats 4000000
end Go.Proofs.YtclfngbealdbgaaGreat
namespace Go.Proofs.YtclfngbealdbgaaGreat
open Go Go.TL
open Go.Proofs.YtclfngbealdbgaaGreat.Ty
set_option linter.unusedSimpArgs false
set_option linter.unusedVariables false
set_option linter.unusedSectionVars false
set_option maxRecDepth 20000
set_option maxHeartbeats 8000000
end Go.Proofs.YtclfngbealdbgaaGreat
namespace Go.Proofs.YtclfngbealdbgaaGreat
open Go Go.TL
open Go.Proofs.YtclfngbealdbgaaGreat.Ty
set_option linter.unusedSimpArgs false
set_option linter.unusedVariables false
set_option linter.unusedSectionVars false
set_option maxRecDepth 20000
set_option maxHeartbeats 4000000
def KR (Qj : List (List LV)) : LV := if Qj.isEmpty = true then .sl true true 1 [] else .sl true false 4 Qj
theorem KR_app {Qj : List (List LV)} {r : List LV} (h : Qj.length < 1099511627776) : WN 4 (KR Qj) (.sl true false 4 [r]) = some (KR (Qj ++ [r])) := by
 cases Qj with
 | nil => simp [KR, WN, most]
 | cons a l =>
  simp only [KR, List.isEmpty_cons, Bool.false_eq_true, if_false, List.cons_append, WN]
  rw [if_pos ⟨.inl trivial, .inl trivial, .inl trivial, by simp [most] at h ⊢; omega⟩]
  simp
theorem ZpI (ks : List (List LV)) : (KR ks).flat = true := by unfold KR; split <;> rfl
theorem Zog (ks : List (List LV)) : (KR ks).cells = [KR ks] := by unfold KR; split <;> rfl
theorem Zfb (ks : List (List LV)) : (KR ks).alive = true := by unfold KR; split <;> rfl
theorem KR_nz (ks : List (List LV)) : nz (KR ks) = nz (.sl true ks.isEmpty 4 ks) := by
 cases ks with
 | nil => simp [KR, nz]
 | cons a l => simp [KR]
theorem KR_low {ks : List (List LV)} (h : Wj 0 ks) : Low 0 (KR ks) := by unfold KR; split <;> simp [h]
def Zc5 (g : GTerm) (r : LV) : Prop := ∃ (w : GTerm) (cs : List LV), r = .agg cs ∧ shareAll cs = w.cells ∧ w.nm = g.nm ∧ w.fl
def isTz (g : GTerm) (r : LV) : Prop := ∃ r', nz r' = nz r ∧ Zc5 g r' ∧ Low 0 r'
theorem Zmr {op n : Int} {f1 f2 : Bool} {ty : List Int} {K ws : List GTerm} {Qj : List (List LV)} {T : LV} {nlT : Bool} (h : Qu Qj = QS ws) (hn : nms ws = nms K) (hT : share T = L nlT ty) (lT : Low 0 T) (lo : Wj 0 Qj) (hf : nlT = false) (hfw : fls ws) : isTz (.mk op n f1 ty f2 K) (.agg [N op, N n, T, KR Qj]) := by
 refine ⟨.agg [N op, N n, T, .sl true Qj.isEmpty 4 Qj], by simp [nz, Jc, KR_nz], ⟨.mk op n nlT ty Qj.isEmpty ws, _, rfl, ?_, ?_, ?_⟩, by simp [lT, lo]⟩
 ·simp only [shareAll, share, hT, h, GTerm.cells]
 ·simp only [GTerm.nm, hn]
  rw [← Zdi ws, hn, Zdi]
 ·simp only [GTerm.fl]
  exact ⟨by subst hf; simp [ZJ], hfw⟩
theorem nm_fl : ∀ g : GTerm, g.nm.fl := by
 intro g
 exact go g
where
 go : ∀ g : GTerm, g.nm.fl
  | .mk op n nl1 ty nl2 ks => by
   simp only [GTerm.nm, GTerm.fl]
   exact ⟨by simp [ZJ], gos ks⟩
 gos : ∀ ks : List GTerm, fls (nms ks)
  | [] => by simp [nms, fls]
  | k :: ks => by simp only [nms, fls]; exact ⟨go k, gos ks⟩
theorem nm_nm : ∀ g : GTerm, g.nm.nm = g.nm := by
 intro g
 exact go g
where
 go : ∀ g : GTerm, g.nm.nm = g.nm
  | .mk op n nl1 ty nl2 ks => by
   simp only [GTerm.nm, gos ks]
   congr 1
   cases ks <;> simp [nms]
 gos : ∀ ks : List GTerm, nms (nms ks) = nms ks
  | [] => by simp [nms]
  | k :: ks => by simp only [nms, go k, gos ks]
theorem Zdd (g : GTerm) : ∃ r, Zc5 g r ∧ Low 0 r := ⟨.agg g.nm.cells, ⟨g.nm, _, rfl, by simp, nm_nm g, nm_fl g⟩, by simp⟩
theorem Zht (g : GTerm) : ∃ r, isTz g r ∧ Low 0 r := by
 obtain ⟨r, h, l⟩ := Zdd g
 exact ⟨r, ⟨r, rfl, h, l⟩, l⟩
theorem Qd.ofTz {P : Program} {f : FuncId} {args : List LV} {g : GTerm} (c : Qd P f args (isTz g)) : Qd P f args (Zc5 g) := Qd.nzR c fun r h => h
theorem ZgH (bw : Int) (hbw : 0 ≤ bw ∧ bw ≤ 100000) (d : Nat) : ∀ (g : GTerm) (nv fr : Int), g.size ≤ d → g.sk nv → 0 ≤ nv → nv + 2 * g.size ≤ 1000000 → 0 ≤ fr → fr + 2 * g.size ≤ 1000000 →
  Qd Tryz.prog ZB [g.lv, N bw, N fr] (Zc5 (shG bw fr g)) := by
 induction d with
 | zero => intro g _ _ h; have := g.size_pos; omega
 | succ d ih =>
  rintro ⟨op, n, nl1, gty, nl2, ks⟩ nv fr hd hform hn0 hnv hd0 hdeep
  simp only [GTerm.sk] at hform
  obtain ⟨⟨hop, hn, hty, hk⟩, hvar, hforms⟩ := hform
  simp only [GTerm.size] at hd hnv hdeep
  have hgl := hty.1
  simp only [GTerm.lv, GTerm.cells]
  refine Qd.ofTz (Qd.of_codeOf ZhF Qz (by simp) (Zht _) ?_)
  have CL := ZL nl1 gty (by omega)
  have hSl := Jy (bw := bw) (fr := fr) (op := op) ks 0
  simp only [Zc3]
  rw [Zgr, Zgr]
  refine Zdl (fun t h => t 3 = .rp [N op, N n, L nl1 gty, .sl false nl2 4 (QS ks)] ∧ t 1 = N bw ∧ t 2 = N fr ∧ t 6 = .ptr 1 0 ∧ t 7 = .ptr 2 0 ∧
   h = [none, some [N 0, N 0, .sl true true 1 [], .sl true true 1 []], some [N op, N (if op = 0 ∧ fr ≤ n then n + bw else n), OU true false gty, .sl true true 1 []]]) ?_ ?_
  ·simp (disch := omega) [Qv, Qt]
   refine Qa CL (by simp) ?_
   by_cases h0 : op = 0
   ·subst h0
    have e0 : eqB 0 0 = true := by rw [Qe]
    have hI : I64 (n + bw) := by have := hvar rfl; unfold I64; omega
    by_cases h1 : fr ≤ n
    ·have e1 : leB fr n = true := by rw [Ql]; exact h1
     simp (disch := omega) [e0, e1, h1, Qf, hI]
    ·have e1 : leB fr n = false := by rw [Qk]; omega
     simp (disch := omega) [e0, e1, h1]
   ·have e0 : eqB op 0 = false := by rw [Qc]; exact h0
    simp (disch := omega) [e0, h0]
  ·rintro t1 hh hf1 ⟨a3, a1, a2, a6, a7, rfl⟩
   have eS : shG bw fr (.mk op n nl1 gty nl2 ks) = .mk op (if op = 0 ∧ fr ≤ n then n + bw else n) nl1 gty nl2 (JB bw fr op 0 ks) := by simp [shG]
   rw [eS]
   generalize (if op = 0 ∧ fr ≤ n then n + bw else n) = n' at *
   simp (disch := omega) [a1, a2, a3, a6, a7]
   refine Wf ks.length 0 (fun i t h => t 8 = N i ∧ ∃ Qj ws tl, h = none :: some [N 0, N 0, .sl true true 1 [], .sl true true 1 []] :: some [N op, N n', OU true false gty, KR Qj] :: tl ∧ Qu Qj = QS ws ∧ Wj 0 Qj ∧ nms ws = nms ((JB bw fr op 0 ks).take i) ∧ fls ws)
    (fun t h => ∃ Qj ws tl, h = none :: some [N 0, N 0, .sl true true 1 [], .sl true true 1 []] :: some [N op, N n', OU true false gty, KR Qj] :: tl ∧ Qu Qj = QS ws ∧ Wj 0 Qj ∧ nms ws = nms (JB bw fr op 0 ks) ∧ fls ws) ⟨by simp, [], [], [], by simp [KR], by simp [QS, Qu], by simp, by simp, by simp [fls]⟩ (by omega) ?_ ?_
   ·rintro i t2 hh hf2 hi ⟨e8, Qj, ws, tl, rfl, hsh, hlo, hnm, hfw⟩
    (have e1 := hf2 1 (by kernel_rfl); have e2 := hf2 2 (by kernel_rfl); have e3 := hf2 3 (by kernel_rfl); have e6 := hf2 6 (by kernel_rfl); have e7 := hf2 7 (by kernel_rfl); clear hf2; simp [a1, a2, a3, a6, a7] at e1 e2 e3 e6 e7)
    by_cases h6 : i < ks.length
    ·have hb : ltB (i : Int) ks.length = true := by rw [Qi]; omega
     have hsk := Yt h6
     have hA := WV op i
     have hkf : (ks[i]).sk (nv + Qp op i) := by have := Zhn.1 hforms i h6; simpa using this
     have recu := ih ks[i] (nv + Qp op i) (fr + Qp op i) (by omega) hkf (by omega) (by omega) (by omega) (by omega)
     have hix := ZdL ks false nl2 i h6
     have hwl : ws.length = i := by
      have := Vl hnm
      rw [this, List.length_take]; omega
     have hrl : Qj.length = i := by rw [← WL, hsh, Ky, hwl]
     have hal := Zfb Qj
     simp (disch := omega) [e1, e2, e3, e6, e7, e8, hb, hix, hal]
     refine Qa (Zdn op i) (by simp) ?_
     simp (disch := omega) [e1, e2, e3, e6, e7, e8, Qf]
     refine Qh (Qd.low recu) (by simp) ?_
     rintro r2 ⟨⟨w, cs, rfl, hcs2, hwn, hwf⟩, lo2⟩
     obtain ⟨c0, c1, c2, c3, rfl⟩ := len4 (cs := cs) (by rw [← QJ, hcs2]; simp)
     have ap := KR_app (Qj := Qj) (r := [c0, c1, c2, c3]) (by omega)
     have hfl2 := ZpI (Qj ++ [[c0, c1, c2, c3]])
     have hce2 := Zog (Qj ++ [[c0, c1, c2, c3]])
     simp (disch := omega) [e1, e2, e3, e6, e7, e8, Qm, ap, h6, Qf, hfl2, hce2]
     refine ⟨_, rfl, ws ++ [w], ?_, ?_, ?_, ZS.2 fun k hk => ?_⟩
     ·rw [Zac, ← hsh, ← hcs2]; simp [XQ, Xq]
     ·simp at lo2; simp [hlo, lo2]
     ·rw [KV, hnm, ZqL h6, KV, hwn]
     ·rcases List.mem_append.1 hk with hk | hk
      ·exact ZS.1 hfw k hk
      ·simp at hk; subst hk; exact hwf
    ·have hb : ltB (i : Int) ks.length = false := by rw [Qg]; omega
     have e := List.take_of_length_le (l := JB bw fr op 0 ks) (i := i) (by omega)
     rw [e] at hnm
     simp (disch := omega) [e3, e8, hb]
     exact ⟨Qj, rfl, ws, hsh, hlo, hnm, hfw⟩
   ·rintro t2 hh hf2 ⟨Qj, ws, tl, rfl, hsh, hlo, hnm, hfw⟩
    (have e6 := hf2 6 (by kernel_rfl); have e7 := hf2 7 (by kernel_rfl); clear hf2; simp [a6, a7] at e6 e7)
    have hal := Zfb Qj
    simp (disch := omega) [e6, e7, hal]
    exact ⟨KR_low hlo, Zmr hsh hnm (nlT := false) (by simp) (by simp) hlo rfl hfw⟩
end Go.Proofs.YtclfngbealdbgaaGreat
namespace Go.Proofs.YtclfngbealdbgaaGreat
open Go Go.TL
open Go.Proofs.YtclfngbealdbgaaGreat.Ty
set_option linter.unusedSimpArgs false
set_option linter.unusedVariables false
set_option linter.unusedSectionVars false
set_option maxRecDepth 20000
set_option maxHeartbeats 4000000
theorem WJ.nzR {P : Program} {D : Dr} {f : FuncId} {rest : List LV} {Q Q' : LV → Prop} (c : WJ P D f rest Q) (h : ∀ r, Q r → ∃ r', Go.TL.nz r' = Go.TL.nz r ∧ Q' r') : WJ P D f rest Q' :=
 fun h1 h3 ct i k hct hk => Wa.nzR (c h1 h3 ct i k hct hk) fun r h' hr => by
  obtain ⟨i', k', q1, q2, q3⟩ := hr
  obtain ⟨r', e, hq⟩ := h r q2
  exact ⟨r', e, i', k', q1, hq, q3⟩
def YF (s : GSys) (ctx : Wx) : Prop := (∀ c ∈ ctx, okL s.size c.2 = true) ∧ (∀ c ∈ ctx, c.1 = false)
theorem YF.app {s : GSys} {f ctx : Wx} (hf : YF s f) (hc : YF s ctx) : YF s (f ++ ctx) :=
 ⟨fun c h => (List.mem_append.1 h).elim (hf.1 c) (hc.1 c), fun c h => (List.mem_append.1 h).elim (hf.2 c) (hc.2 c)⟩
theorem YF.one {s : GSys} {l : List Int} (h : okL s.size l = true) : YF s [(false, l)] := ⟨by simpa using h, by simp⟩
theorem YF.two {s : GSys} {l m : List Int} (h : okL s.size l = true) (h2 : okL s.size m = true) : YF s [(false, l), (false, m)] := ⟨by simp; exact ⟨h, h2⟩, by simp⟩
structure TmOk (s : GSys) (nv : Nat) (n : Nat) (w : GTerm) : Prop where
 wf : w.wf
 fl : w.fl
 form : WE nv s.size true w = true
 size : w.size ≤ n
def isD (s : GSys) (nv : Nat) (n : Nat) (r : LV) : Prop := ∃ (w : GTerm) (cs : List LV), r = .agg cs ∧ shareAll cs = w.cells ∧ QE 0 cs ∧ Wz cs = true ∧ TmOk s nv n w
theorem isD.mono {s : GSys} {nv n m : Nat} {r : LV} (h : isD s nv n r) (hm : n ≤ m) : isD s nv m r := by
 obtain ⟨w, cs, h1, h2, h3, h4, h5⟩ := h
 exact ⟨w, cs, h1, h2, h3, h4, h5.wf, h5.fl, h5.form, Nat.le_trans h5.size hm⟩
theorem Vs {s : GSys} (hsy : s.sys = true) {g : GTerm} (nlc : Bool) {ctx : Wx} {n : Nat} (hc : YF s ctx) (hg : TmOk s ctx.length n g) (hlen : ctx.length + 2 * n ≤ 100000) (i : Nat) (hi : i < ctx.length) :
  Qd Tryz.prog XY [s.lv, LC nlc ctx, g.lv, N i] (fun r => ∃ m, r = N m ∧ s.G m) := by
 have t := GSys.sys_of hsy
 have hsz := hg.size
 refine Qd.of_codeOf ZlW Qz (by simp) ⟨_, ⟨0, rfl, GSys.G0 t⟩, by simp⟩ ?_
 have tl := ZfY hsy g.size g nlc ctx (Nat.le_refl _) hg.wf hg.fl hc.1 hc.2 (by omega) hg.form
 simp (disch := omega) [Ze8, Qv, Qt]
 refine Qh (Qd.low tl) (by simp) ?_
 have hcs : ∀ l ∈ ctx.map Prod.snd, okL s.size l = true := fun l hl => by
  obtain ⟨c, h1, rfl⟩ := List.mem_map.1 hl
  exact hc.1 c h1
 cases hT : Qr s (ctx.map Prod.snd) g with
 | bad f p =>
  rintro r ⟨⟨hf, u1, u2, u4, n4, rfl⟩, lo⟩
  have hf0 : eqB f 0 = false := by rw [Qc]; exact hf
  simp (disch := omega) [hf0, Qt]
  exact GSys.G0 t
 | ok x =>
  rintro r ⟨⟨u1, u2, u4, n4, rfl⟩, lo⟩
  have gd := Jr t g (ctx.map Prod.snd) x hcs (by rw [List.length_map]; exact hg.form) hT
  have hl := gd.2.1
  rw [List.length_map] at hl
  have h0 : eqB 0 0 = true := by rw [Qe]
  have hx : QQ 1 (.sl false false 1 (x.needs.map fun n => [N n])) (i : Int) = some (.rp [N (x.needs.getD i 0)]) := Xh x.needs false false i (by omega) (by omega)
  have hG : s.G (x.needs.getD i 0) := by
   rw [List.getD_eq_getElem?_getD, List.getElem?_eq_getElem (by omega)]
   exact gd.2.2 _ (List.getElem_mem _)
  generalize x.needs.getD i 0 = m at hx hG
  simp (disch := omega) [h0, Qt, hx]
  exact hG
theorem Zbm (op n : Int) (nl : Bool) (Qj : List (List LV)) (hs : Qu Qj = Qj) (hl : Wj 0 Qj) : Qd Tryz.prog WB [N op, N n, .sl false nl 4 Qj] (fun r => r = .agg [N op, N n, .sl true true 1 [], .sl false nl 4 Qj]) := by
 refine Qd.of_codeOf Zpe Qz (by simp [hs]) ⟨_, rfl, by simp [hl]⟩ ?_
 simp (disch := omega) [ZhT, hs, hl]
theorem Zr {size : Int} {data : Bool} {n : Nat} {l : List Int} (h : Zic size data n l) (hn : n ≤ 40) : okL size l = true := by
 obtain ⟨t, h1, h2, rfl, h4⟩ := h
 refine YG.2 ⟨t, h1, rfl, by omega, ?_⟩
 clear h4
 exact gr t h2
where
 gr : ∀ (t : RT), RT.gr size data t → ∀ c ∈ t.flat, okC size true c = true
  | .nd c ks, h, x, hx => by
   simp only [RT.gr] at h
   simp only [RT.flat, List.mem_cons] at hx
   rcases hx with rfl | hx
   ·exact h.1
   ·exact grs' ks h.2.2 x hx
 grs' : ∀ (ts : List RT), grs size data ts → ∀ c ∈ WF ts, okC size true c = true
  | [], _, x, hx => by simp [WF] at hx
  | t :: ts, h, x, hx => by
   simp only [grs] at h
   simp only [WF, List.mem_append] at hx
   rcases hx with hx | hx
   ·exact gr t h.1 x hx
   ·exact grs' ts h.2 x hx
section
variable (D : Dr) (ok : D.ok)
include ok
theorem Zdg {s : GSys} (t : s.Tab) (g : Int) (hg : s.G g) : WJ Tryz.prog D Zk [s.lv, N g] (fun r => ∃ m, r = N m ∧ s.G m) := by
 refine WJ.of_codeOf Zj5 Qz (by simp) ⟨_, g, rfl, hg⟩ ?_
 intro h1 h3 ct i k hct hk
 have h2 := t.lo; have h16 := t.hi
 obtain ⟨g0, g1⟩ := hg
 have b1 : ltB g 0 = false := by rw [Qg]; omega
 have b2 : leB s.size g = false := by rw [Qk]; omega
 simp (disch := omega) [ZdH, Qv, Qt, b1, b2]
 refine Wf 3 0 (fun j t h => t 7 = N j ∧ ∃ i' k', Yd D i' k' ∧ h = h1 ++ some [ct, N i', N k'] :: (h3 ++ [none])) (fun t h => ∃ i' k', Yd D i' k' ∧ h = h1 ++ some [ct, N i', N k'] :: (h3 ++ [none])) ⟨by simp, i, k, hk, rfl⟩ (by omega) ?_ ?_
 ·rintro j t1 hh hf hj ⟨e7, i1, k1, hk1, rfl⟩
  (have e0 := hf 0 (by kernel_rfl); have e2 := hf 2 (by kernel_rfl); have e4 := hf 4 (by kernel_rfl); clear hf; simp [] at e0 e2 e4)
  have once := ZO D ok 3 (by unfold I64; omega)
  have bel := W9 D ok s.size (by unfold I64; omega)
  by_cases h6 : j < 3
  ·have hb : ltB (j : Int) 3 = true := by rw [Qi]; omega
   simp (disch := omega) [e0, e2, e4, e7, hb]
   refine Qq once hct hk1 ?_
   rintro r i2 k2 hk2 ⟨b, rfl⟩
   cases b
   ·simp (disch := omega) [e0, e2, e4, e7, hb]
    exact hk2
   ·simp (disch := omega) [e0, e2, e4, e7, hb]
    refine Qq bel hct hk2 ?_
    rintro r i3 k3 hk3 ⟨m, rfl, hm0, hm1, _⟩
    have hm := hm1 (by omega)
    have le := XZ t (a := g) (b := m) ⟨g0, g1⟩ ⟨hm0, hm⟩
    simp (disch := omega) [e0, e2, e4, e7, hb]
    refine Qa le (by simp) ?_
    cases s.le g m
    ·simp (disch := omega) [e0, e2, e4, e7, hb, Qf]
     exact ⟨by omega, hk3⟩
    ·simp (disch := omega) [e0, e2, e4, e7, hb]
     (first | refine Xw (.inr rfl) rfl ?_ (by simp) ?_ | refine Xa (.inr rfl) rfl ?_ (by simp) ?_)
     ·exact hk3
     ·exact ⟨m, by simp, hm0, hm⟩
  ·have hb : ltB (j : Int) 3 = false := by rw [Qg]; omega
   simp (disch := omega) [e0, e2, e4, e7, hb]
   exact hk1
 ·rintro t1 hh hf ⟨i1, k1, hk1, rfl⟩
  (have e2 := hf 2 (by kernel_rfl); clear hf; simp [] at e2)
  simp (disch := omega) [e2]
  (first | refine Xw (.inr rfl) rfl ?_ (by simp) ?_ | refine Xa (.inr rfl) rfl ?_ (by simp) ?_)
  ·exact hk1
  ·exact ⟨g, by simp, g0, g1⟩
theorem ZmU (s : GSys) (hs : 1 ≤ s.size ∧ s.size ≤ 16) (most : Int) (hm : 0 ≤ most ∧ most ≤ 8) (data : Bool) : WJ Tryz.prog D K7 [s.lv, N most, B data] (fun r => ∃ ctx : Wx, r = .sl true false 1 (ctx.map fun x => [OU true false x.2]) ∧ YF s ctx ∧ (ctx.length : Int) ≤ most) := by
 refine WJ.of_codeOf Zhf Qz (by simp) ⟨_, [], rfl, by simp [YF], by simp; omega⟩ ?_
 intro h1 h3 ct i k hct hk
 simp (disch := omega) [ZbP, Qv, Qt, Qf]
 refine Qq (W9 D ok (most + 1) (by unfold I64; omega)) hct hk ?_
 rintro r i0 k0 hk0 ⟨m, rfl, hm0, hm1, _⟩
 have hm2 := hm1 (by omega)
 obtain ⟨n, rfl⟩ : ∃ n : Nat, m = n := ⟨m.toNat, by omega⟩
 simp (disch := omega)
 refine Wf n 0 (fun j t h => t 10 = N ((n : Int) - j) ∧ (∃ l : Wx, t 9 = .sl true false 1 (l.map fun x => [OU true false x.2]) ∧ YF s l ∧ l.length = j) ∧ ∃ i' k', Yd D i' k' ∧ h = h1 ++ some [ct, N i', N k'] :: (h3 ++ [none]))
  (fun t h => (∃ l : Wx, t 9 = .sl true false 1 (l.map fun x => [OU true false x.2]) ∧ YF s l ∧ l.length = n) ∧ ∃ i' k', Yd D i' k' ∧ h = h1 ++ some [ct, N i', N k'] :: (h3 ++ [none])) ⟨by simp, ⟨[], by simp [Qm], by simp [YF], by simp⟩, i0, k0, hk0, rfl⟩ (by omega) ?_ ?_
 ·rintro j t1 hh hf hj ⟨e10, ⟨l, e9, hl, hlen⟩, i1, k1, hk1, rfl⟩
  (have e0 := hf 0 (by kernel_rfl); have e3 := hf 3 (by kernel_rfl); have e5 := hf 5 (by kernel_rfl); clear hf; simp [] at e0 e3 e5)
  by_cases h6 : j < n
  ·have hb : ltB 0 ((n : Int) - j) = true := by rw [Qi]; omega
   simp (disch := omega) [e0, e3, e5, e9, e10, hb]
   refine Qq (Zz D ok s hs data 2 (by omega)) hct hk1 ?_
   rintro r i2 k2 hk2 ⟨ty, rfl, hty⟩
   have hko := Zr hty (by omega)
   have ha : WN 1 (.sl true false 1 (l.map fun x => [OU true false x.2])) (.sl true false 1 [[OU true false ty]]) = some (.sl true false 1 ((l ++ [(false, ty)]).map fun x => [OU true false x.2])) := by
    simp only [WN]
    rw [if_pos ⟨.inl trivial, .inl trivial, .inl trivial, by simp [TL.most]; omega⟩]
    simp
   simp (disch := omega) [e0, e3, e5, e9, e10, hb, Qm, Qf, ha]
   refine ⟨by omega, by omega, ⟨l ++ [(false, ty)], by simp, hl.app (YF.one hko), by simp; omega⟩, hk2⟩
  ·have hb : ltB 0 ((n : Int) - j) = false := by rw [Qg]; omega
   simp (disch := omega) [e0, e3, e5, e9, e10, hb]
   exact ⟨⟨l, rfl, hl, by omega⟩, hk1⟩
 ·rintro t1 hh hf ⟨⟨l, e9, hl, hlen⟩, i1, k1, hk1, rfl⟩
  clear hf
  simp (disch := omega) [e9]
  (first | refine Xw (.inr rfl) rfl ?_ (by simp) ?_ | refine Xa (.inr rfl) rfl ?_ (by simp) ?_)
  ·exact hk1
  ·exact ⟨l, by simp, hl, by omega⟩
end
end Go.Proofs.YtclfngbealdbgaaGreat
namespace Go.Proofs.YtclfngbealdbgaaGreat
open Go Go.TL
open Go.Proofs.YtclfngbealdbgaaGreat.Ty
set_option linter.unusedSimpArgs false
set_option linter.unusedVariables false
set_option linter.unusedSectionVars false
set_option maxRecDepth 20000
set_option maxHeartbeats 4000000
def T0 : Nat → Nat
 | 0 => 40
 | d + 1 => 3 * T0 d + 6
def bd (deep : Int) (n : Nat) : Nat := if deep ≤ 0 then n else T0 deep.toNat
theorem T0_ge : ∀ d, 40 ≤ T0 d
 | 0 => by simp [T0]
 | d + 1 => by have := T0_ge d; simp only [T0]; omega
theorem Zml {d e : Nat} (h : d ≤ e) : T0 d ≤ T0 e := by
 induction e with
 | zero => rw [show d = 0 by omega]; exact Nat.le_refl _
 | succ e ih =>
  by_cases h2 : d = e + 1
  ·rw [h2]; exact Nat.le_refl _
  ·have := ih (by omega)
   simp only [T0]; omega
theorem ZkO {deep : Int} {n : Nat} (h : n ≤ 40) : bd deep n ≤ T0 deep.toNat := by
 unfold bd
 split
 ·have := T0_ge deep.toNat; omega
 ·exact Nat.le_refl _
theorem Zqd {deep : Int} (h : 0 < deep) : T0 deep.toNat = 3 * T0 (deep - 1).toNat + 6 := by
 obtain ⟨d, hd⟩ : ∃ d : Nat, deep.toNat = d + 1 := ⟨deep.toNat - 1, by omega⟩
 rw [hd, show (deep - 1).toNat = d by omega]
 rfl
theorem bd_max {deep : Int} {n : Nat} (h : n ≤ 40) (hd : deep ≤ 4) : bd deep n ≤ 3480 := by
 have h1 := ZkO (deep := deep) h
 have h2 := Zml (d := deep.toNat) (e := 4) (by omega)
 have h3 : T0 4 = 3480 := by decide
 omega
theorem bd_two {deep : Int} {a b n : Nat} (h : 1 + a + b ≤ n) (hn : n ≤ 40) : 1 + bd (deep - 1) a + bd (deep - 1) b ≤ bd deep n := by
 by_cases hd : deep ≤ 0
 ·simp only [bd, if_pos hd, if_pos (show deep - 1 ≤ 0 by omega)]; omega
 ·have h1 := ZkO (deep := deep - 1) (n := a) (by omega)
  have h2 := ZkO (deep := deep - 1) (n := b) (by omega)
  have h3 := Zqd (deep := deep) (by omega)
  rw [show bd deep n = T0 deep.toNat by simp [bd, hd]]
  omega
theorem Zmi {deep : Int} {a n : Nat} (h : 1 + a ≤ n) (hn : n ≤ 40) : 1 + bd (deep - 1) a ≤ bd deep n := by
 have h1 := bd_two (deep := deep) (a := a) (b := 0) (by omega) hn
 omega
theorem Zi7 {deep : Int} {n : Nat} (h : 1 ≤ n) : 1 ≤ bd deep n := by
 unfold bd
 split
 ·exact h
 ·have := T0_ge deep.toNat; omega
theorem TmOk.k0 {s : GSys} {nv m : Nat} {op n : Int} {nl1 nl2 : Bool} {ty : List Int} (hop : 0 ≤ op ∧ op ≤ 12) (h0 : YQ nv s.size true op n ty 0 = true) (hI : I64 n) (ht : Lok ty) (f : ZJ nl1 ty) (hm : 1 ≤ m) : TmOk s nv m (.mk op n nl1 ty nl2 []) :=
 ⟨by simp only [GTerm.wf, wfs]; exact ⟨by unfold I64; omega, hI, ht, by simp, trivial⟩, by simp only [GTerm.fl, fls]; exact ⟨f, trivial⟩, by simp only [WE, WR, List.length_nil, h0, Bool.and_self], by simp only [GTerm.size, WX]; omega⟩
theorem TmOk.k1 {s : GSys} {nv m n1 m1 : Nat} {op n : Int} {nl1 nl2 : Bool} {ty : List Int} {a : GTerm} (hop : 0 ≤ op ∧ op ≤ 12) (h0 : YQ nv s.size true op n ty 1 = true) (hI : I64 n) (ht : Lok ty) (f : ZJ nl1 ty)
  (ha : TmOk s n1 m1 a) (e1 : (n1 : Int) = nv + Qp op 0) (hm : 1 + m1 ≤ m) : TmOk s nv m (.mk op n nl1 ty nl2 [a]) :=
 ⟨by simp only [GTerm.wf, wfs]; exact ⟨by unfold I64; omega, hI, ht, by simp, ha.wf, trivial⟩, by simp only [GTerm.fl, fls]; exact ⟨f, ha.fl, trivial⟩,
  by
   have := ha.form
   rw [e1] at this
   simp only [WE, WR, List.length_cons, List.length_nil, h0, Int.natCast_zero, this, Bool.and_self],
  by have := ha.size; simp only [GTerm.size, WX]; omega⟩
theorem TmOk.k2 {s : GSys} {nv m n1 m1 n2 m2 : Nat} {op n : Int} {nl1 nl2 : Bool} {ty : List Int} {a b : GTerm} (hop : 0 ≤ op ∧ op ≤ 12) (h0 : YQ nv s.size true op n ty 2 = true) (hI : I64 n) (ht : Lok ty) (f : ZJ nl1 ty)
  (ha : TmOk s n1 m1 a) (e1 : (n1 : Int) = nv + Qp op 0) (hb : TmOk s n2 m2 b) (e2 : (n2 : Int) = nv + Qp op 1) (hm : 1 + m1 + m2 ≤ m) : TmOk s nv m (.mk op n nl1 ty nl2 [a, b]) :=
 ⟨by simp only [GTerm.wf, wfs]; exact ⟨by unfold I64; omega, hI, ht, by simp, ha.wf, hb.wf, trivial⟩, by simp only [GTerm.fl, fls]; exact ⟨f, ha.fl, hb.fl, trivial⟩,
  by
   have h1 := ha.form
   have h2 := hb.form
   rw [e1] at h1
   rw [e2] at h2
   simp only [WE, WR, List.length_cons, List.length_nil, h0, Int.natCast_zero, Nat.zero_add, Int.natCast_one, h1, h2, Bool.and_self],
  by have h1 := ha.size; have h2 := hb.size; simp only [GTerm.size, WX]; omega⟩
theorem TmOk.k3 {s : GSys} {nv m n1 m1 n2 m2 n3 m3 : Nat} {op n : Int} {nl1 nl2 : Bool} {ty : List Int} {a b c : GTerm} (hop : 0 ≤ op ∧ op ≤ 12) (h0 : YQ nv s.size true op n ty 3 = true) (hI : I64 n) (ht : Lok ty) (f : ZJ nl1 ty)
  (ha : TmOk s n1 m1 a) (e1 : (n1 : Int) = nv + Qp op 0) (hb : TmOk s n2 m2 b) (e2 : (n2 : Int) = nv + Qp op 1) (hc : TmOk s n3 m3 c) (e3 : (n3 : Int) = nv + Qp op 2) (hm : 1 + m1 + m2 + m3 ≤ m) : TmOk s nv m (.mk op n nl1 ty nl2 [a, b, c]) :=
 ⟨by simp only [GTerm.wf, wfs]; exact ⟨by unfold I64; omega, hI, ht, by simp, ha.wf, hb.wf, hc.wf, trivial⟩, by simp only [GTerm.fl, fls]; exact ⟨f, ha.fl, hb.fl, hc.fl, trivial⟩,
  by
   have h1 := ha.form
   have h2 := hb.form
   have h3 := hc.form
   rw [e1] at h1
   rw [e2] at h2
   rw [e3] at h3
   simp only [WE, WR, List.length_cons, List.length_nil, h0, Int.natCast_zero, Nat.zero_add, Int.natCast_one, h1, h2, show ((1 + 1 : Nat) : Int) = 2 from rfl, h3, Bool.and_self],
  by have h1 := ha.size; have h2 := hb.size; have h3 := hc.size; simp only [GTerm.size, WX]; omega⟩
theorem Zlx {s : GSys} {nv m : Nat} {op n : Int} {T : LV} {nlT u nl : Bool} {ty : List Int} {Qj : List (List LV)} {ks : List GTerm} (hT : share T = L nlT ty) (lT : Low 0 T) (aT : T.alive = true) (hs : Qu Qj = QS ks) (lr : Wj 0 Qj)
  (h : TmOk s nv m (.mk op n nlT ty nl ks)) : isD s nv m (.agg [N op, N n, T, .sl u nl 4 Qj]) :=
 ⟨.mk op n nlT ty nl ks, _, rfl, by simp only [shareAll, share, hT, hs, GTerm.cells], by simp [lT, lr], by simp [aT], h⟩
theorem Zet {s : GSys} {nv m : Nat} {op n : Int} {nl : Bool} {ks : List GTerm} (h : TmOk s nv m (.mk op n true [] nl ks)) : isD s nv m (.agg [N op, N n, .sl true true 1 [], .sl false nl 4 (QS ks)]) :=
 Zlx (nlT := true) (by simp) (by simp) (by simp) (by simp) (by simp) h
theorem ZlY {s : GSys} {nv m : Nat} (h : 1 ≤ m) : ∃ r, isD s nv m r :=
 ⟨_, Zet (op := 1) (n := 0) (nl := true) (ks := []) (TmOk.k0 (by omega) (by simp [YQ, ZbV, tyB, YV, Xs, QW, eqB, leB]) (by unfold I64; omega) (by simp [Lok]) (by simp [ZJ]) h)⟩
theorem Zmj {nv size i : Int} (h : 0 ≤ i ∧ i < nv) : YQ nv size true 0 i [] 0 = true := by
 have : QW i 0 (nv - 1) = true := by rw [QV]; omega
 simp [YQ, ZbV, tyB, YV, Xs, this, eqB]
theorem ZoC {nv size i : Int} (h : 0 ≤ i ∧ i < 3) : YQ nv size true 1 i [] 0 = true := by
 have : QW i 0 2 = true := by rw [QV]; omega
 simp [YQ, ZbV, tyB, YV, Xs, this, eqB]
theorem Zip {nv size op : Int} {k : Nat} (h : op = 2 ∧ k = 2 ∨ op = 3 ∧ k = 3 ∨ op = 4 ∧ k = 2 ∨ op = 10 ∧ k = 2) : YQ nv size true op 0 [] k = true := by
 rcases h with ⟨rfl, rfl⟩ | ⟨rfl, rfl⟩ | ⟨rfl, rfl⟩ | ⟨rfl, rfl⟩ <;> simp [YQ, ZbV, tyB, YV, Xs, Z0, eqB]
theorem ZlM {s : GSys} {nv op n : Int} {k : Nat} (hn : s.G n) (h : op = 5 ∧ k = 2 ∨ op = 8 ∧ k = 3 ∨ op = 11 ∧ k = 1 ∨ op = 12 ∧ k = 2) : YQ nv s.size true op n [] k = true := by
 have h1 : ltB n s.size = true := by rw [Qi]; exact hn.2
 have h2 : leB 0 n = true := by rw [Ql]; exact hn.1
 have h3 : leB (-1) n = true := by rw [Ql]; have := hn.1; omega
 rcases h with ⟨rfl, rfl⟩ | ⟨rfl, rfl⟩ | ⟨rfl, rfl⟩ | ⟨rfl, rfl⟩ <;> simp [YQ, ZbV, tyB, YV, Xs, Z0, h1, h2, h3, eqB]
theorem nd_ty {s : GSys} {nv op : Int} {ty : List Int} (ht : okL s.size ty = true) (h : op = 6 ∨ op = 7) : YQ nv s.size true op 0 ty 1 = true := by
 have e : tyB s.size true op ty = true := by
  unfold tyB
  rw [if_pos (by rcases h with rfl | rfl <;> simp [Xs, eqB])]
  exact ht
 rcases h with rfl | rfl <;> simp [YQ, ZbV, YV, Z0, e, eqB]
theorem Zpz {s : GSys} {nv n : Int} {ty : List Int} (hn : s.G n) (ht : okL s.size ty = true) : YQ nv s.size true 9 n ty 1 = true := by
 have h1 : ltB n s.size = true := by rw [Qi]; exact hn.2
 have h2 : leB 0 n = true := by rw [Ql]; exact hn.1
 have h3 : leB (-1) n = true := by rw [Ql]; have := hn.1; omega
 have e : tyB s.size true 9 ty = true := by
  unfold tyB
  rw [if_pos (by simp [Xs, eqB])]
  exact ht
 simp [YQ, ZbV, YV, Z0, e, h1, h2, h3, eqB]
theorem GI {s : GSys} (h16 : s.size ≤ 16) {g : Int} (h : s.G g) : I64 g := by
 have h1 := h.1; have h2 := h.2
 unfold I64; omega
theorem cx_map {s : GSys} {ctx : Wx} (h : YF s ctx) : (ctx.map fun x => [eC x]) = ctx.map fun x => [L false x.2] := by
 refine List.map_congr_left fun x hx => ?_
 have := h.2 x hx
 obtain ⟨a, b⟩ := x
 simp only at this
 subst this
 rfl
theorem isD.el {s : GSys} {nv n : Nat} {r : LV} (h : isD s nv n r) : ∃ (w : GTerm) (cs : List LV), r = .agg cs ∧ cs.length = 4 ∧ shareAll cs = w.cells ∧ QE 0 cs ∧ Wz cs = true ∧ TmOk s nv n w := by
 obtain ⟨w, cs, h1, h2, h3, h4, h5⟩ := h
 exact ⟨w, cs, h1, by rw [← QJ, h2]; simp, h2, h3, h4, h5⟩
theorem hd_at {l : List Int} (h : 1 ≤ l.length) : QQ 1 (L false l) 0 = some (.rp [N (hd l)]) := by
 have := Xh l false false 0 (by omega) (by omega)
 rw [this]
 congr 3
 cases l with
 | nil => simp at h
 | cons a l => rfl
def HasT (D : Dr) (s : GSys) (nv m : Nat) (h1 h3 : List Box) (ct : LV) (pre : List Box) (h : List Box) : Prop := ∃ (i' k' : Int) (w : GTerm) (cs : List LV), Yd D i' k' ∧ cs.length = 4 ∧ shareAll cs = w.cells ∧ QE 0 cs ∧ Wz cs = true ∧ TmOk s nv m w ∧
 h = h1 ++ some [ct, N i', N k'] :: (h3 ++ (pre ++ [some cs]))
theorem Z9 {D : Dr} {s : GSys} {nv m : Nat} {h1 h3 ex : List Box} {ct : LV} {e : Exit} {st : St} {i' k' : Int} {cs : List LV} (he : e = .normal ∨ e = .ret) (ht : st.t 10 = .ptr (h1.length + (h3.length + 1 + 1)) 0) (hh : st.h = h1 ++ some [ct, N i', N k'] :: (h3 ++ (none :: some cs :: ex)))
  (hl : cs.length = 4) (hk : Yd D i' k') (lo : QE 0 cs) (hq : isD s nv m (.agg cs)) : ZgV D [.cell 10 true 4] h1 h3 ct (isD s nv m) e st :=
 ZhR (j := 1) he ht hh (by omega) rfl hl.symm rfl hk (by simpa using lo) hq
section
variable (D : Dr) (ok : D.ok)
include ok
def DOf (s : GSys) (f : Nat) : Prop := ∀ (nlc : Bool) (ctx : Wx) (ty : List Int) (deep : Int), YF s ctx → ctx.length + 2 * f ≤ 1000 → okL s.size ty = true → 41 * deep.toNat + ty.length ≤ f → deep ≤ 4 → (f : Int) ≤ deep + 1000 →
 WJ Tryz.prog D QN [s.lv, LC nlc ctx, L false ty, N deep] (isD s ctx.length (bd deep ty.length))
theorem dFun_ok {s : GSys} (hsy : s.sys = true) {f : Nat} (H : DOf D s f) (nlc : Bool) (ctx : Wx) (ty : List Int) (deep : Int) (hc : YF s ctx) (hf : ctx.length + 2 * (f + 1) ≤ 1000) (hty : okL s.size ty = true) (ha : QM (hd ty) = true)
  (hm : 41 * deep.toNat + ty.length ≤ f + 1) (hd4 : deep ≤ 4) (hlo : ((f + 1 : Nat) : Int) ≤ deep + 1000) :
  WJ Tryz.prog D Zcm [s.lv, LC nlc ctx, L false ty, N deep] (isD s ctx.length (bd deep ty.length)) := by
 have t := GSys.sys_of hsy
 have h16 := t.hi
 have h40 := QG hty
 obtain ⟨e2, oa, ob⟩ := JQ hty (JG ha)
 have hlen : ty.length = 1 + (QI ty).length + (Ws ty).length := by
  conv => lhs; rw [e2]
  simp; omega
 obtain ⟨c1, c2, c3, c4, _⟩ := X8 hty
 have hg := Ke c1 (.inl ha)
 have pa := XM hty 0 (.inr (JG ha))
 have pb := XM hty 1 (.inr (JG ha))
 simp only [if_true, if_neg (show (1 : Int) ≠ 0 by decide)] at pa pb
 have gr := ZcJ (hd ty) (by unfold I64; omega) c2
 refine WJ.of_codeOf Znq Qz (by simp) (ZlY (Zi7 h40.1)) ?_
 have hx := hd_at (QG hty).1
 intro h1 h3 ct i k hct hk
 simp (disch := omega) [ZgX, Qv, Qt]
 refine Qa pa (by simp) ?_
 simp (disch := omega)
 refine Qa pb (by simp) ?_
 simp (disch := omega)
 have lc : ctx.length ≤ 1000000 := by omega
 have wi := Yg nlc false ctx [(false, QI ty)] lc (by simp)
 have ci : YF s ((false, QI ty) :: ctx) := (YF.one oa).app hc
 have bodyOk := H false ((false, QI ty) :: ctx) (Ws ty) (deep - 1) ci (by simp; omega) ob (by omega) (by omega) (by omega)
 have hdI : I64 (deep - 1) := by unfold I64; omega
 simp (disch := omega) [hx]
 refine Qa gr (by simp) ?_
 simp (disch := omega) [Qm]
 refine Qa wi (by simp) ?_
 simp (disch := omega) [Qf, hdI]
 refine Qq bodyOk hct hk ?_
 rintro r i1 k1 hk1 hr
 obtain ⟨w, cs, rfl, c4', csh, clo, cal, cok⟩ := hr.el
 simp (disch := omega) [c4', csh, cal]
 refine Wf 3 0 (fun j t h => t 16 = N j ∧ HasT D s (ctx.length + 1) (bd (deep - 1) (Ws ty).length) h1 h3 ct [none, some [N 0, N 0, .sl true true 1 [], .sl true true 1 []]] h)
  (fun t h => HasT D s (ctx.length + 1) (bd (deep - 1) (Ws ty).length) h1 h3 ct [none, some [N 0, N 0, .sl true true 1 [], .sl true true 1 []]] h) ⟨by simp, i1, k1, w, cs, hk1, c4', csh, clo, cal, cok, rfl⟩ (by omega) ?_ ?_
 ·clear hr cok cal clo csh c4' hk1
  rintro j t1 hh hf hj ⟨e16, i1, k1, w, cs, hk1, c4', csh, clo, cal, cok, rfl⟩
  have c4t : List.take 4 cs = cs := List.take_of_length_le (Nat.le_of_eq c4')
  (have e0 := hf 0 (by kernel_rfl); have e4 := hf 4 (by kernel_rfl); have e6 := hf 6 (by kernel_rfl); have e11 := hf 11 (by kernel_rfl); have e12 := hf 12 (by kernel_rfl); have e13 := hf 13 (by kernel_rfl); have e14 := hf 14 (by kernel_rfl); have e15 := hf 15 (by kernel_rfl); clear hf; simp [] at e0 e4 e6 e11 e12 e13 e14 e15)
  by_cases h6 : j < 3
  ·have hb : ltB (j : Int) 3 = true := by rw [Qi]; omega
   have nd := Vs hsy false ci cok (by have := bd_max (deep := deep - 1) (n := (Ws ty).length) (by omega) (by omega); simp; omega) 0 (by simp)
   simp only [Int.natCast_zero] at nd
   simp (disch := omega) [e0, e4, e6, e11, e12, e13, e14, e15, e16, hb, c4', csh, cal, c4t]
   refine Qh nd (by simp) ?_
   rintro r ⟨m, rfl, hm⟩
   simp (disch := omega) [e0, e4, e6, e11, e12, e13, e14, e15, e16, hb, c4', csh, cal, c4t]
   refine Qa (XZ t hm hg) (by simp) ?_
   cases s.le m (W1 (hd ty))
   ·simp (disch := omega) [e0, e4, e6, e11, e12, e13, e14, e15, e16, hb, c4', csh, cal, c4t, Qf, hdI]
    refine Qq bodyOk hct hk1 ?_
    rintro r i2 k2 hk2 hr
    obtain ⟨w2, cs2, rfl, d4, dsh, dlo, dal, dok⟩ := hr.el
    have c4l : 4 ≤ cs.length := Nat.le_of_eq c4'.symm
    simp (disch := omega) [e0, e4, e6, e11, e12, e13, e14, e15, e16, d4, dsh, dal, c4l]
    have d4t : List.take 4 cs2 = cs2 := List.take_of_length_le (Nat.le_of_eq d4)
    have d4l : 4 ≤ cs2.length := Nat.le_of_eq d4.symm
    have d4d : List.drop 4 cs2 = [] := List.drop_of_length_le (Nat.le_of_eq d4)
    have c4d : List.drop 4 cs = [] := List.drop_of_length_le (Nat.le_of_eq c4')
    by_cases h1' : j = 1
    ·subst h1'
     have hb1 : eqB ((1 : Nat) : Int) 1 = true := by rw [Qe]; rfl
     simp (disch := omega) [e0, e4, e6, e11, e12, e13, e14, e15, e16, d4, dsh, dal, d4t, d4l, c4d, d4d, hb1]
     refine Qa (ZaZ false false _ _ (by omega)) (by simp) ?_
     cases QI ty == Ws ty
     ·simp (disch := omega) [e0, e4, e6, e11, e12, e13, e14, e15, e16, d4, dsh, dal, d4t, d4l, c4d, d4d, hb1, Qf]
      exact ⟨i2, k2, w2, cs2, hk2, d4, dsh, dlo, dal, dok, rfl⟩
     ·simp (disch := omega) [e0, e4, e6, e11, e12, e13, e14, e15, e16, d4, dsh, dal, d4t, d4l, c4d, d4d, hb1, Qf]
      refine Qa (Zbm 0 0 true [] (by simp) (by simp)) (by simp) ?_
      simp (disch := omega) [e0, e4, e6, e11, e12, e13, e14, e15, e16, d4, dsh, dal, d4t, d4l, c4d, d4d, hb1, Qf]
      have vok : TmOk s (ctx.length + 1) (bd (deep - 1) (Ws ty).length) (.mk 0 0 true [] true []) := TmOk.k0 (by omega) (Zmj (by omega)) (by unfold I64; omega) (by simp [Lok]) (by simp [ZJ]) (Zi7 (QG ob).1)
      exact ⟨i2, k2, _, _, hk2, rfl, by simp [GTerm.cells, QS], by simp, by simp, vok, rfl⟩
    ·have hb1 : eqB (j : Int) 1 = false := by rw [Qc]; omega
     simp (disch := omega) [e0, e4, e6, e11, e12, e13, e14, e15, e16, d4, dsh, dal, d4t, d4l, c4d, d4d, hb1, Qf]
     exact ⟨by omega, i2, k2, w2, cs2, hk2, d4, dsh, dlo, dal, dok, rfl⟩
   ·simp (disch := omega) [e0, e4, e6, e11, e12, e13, e14, e15, e16, hb, c4', csh, cal, c4t]
    exact ⟨i1, k1, w, cs, hk1, c4', csh, clo, cal, cok, rfl⟩
  ·have hb : ltB (j : Int) 3 = false := by rw [Qg]; omega
   simp (disch := omega) [e0, e4, e6, e11, e12, e13, e14, e15, e16, hb, c4', csh, cal, c4t]
   exact ⟨i1, k1, w, cs, hk1, c4', csh, clo, cal, cok, rfl⟩
 ·clear hr cok cal clo csh c4' hk1
  rintro t1 hh hf ⟨i1, k1, w, cs, hk1, c4', csh, clo, cal, cok, rfl⟩
  (have e10 := hf 10 (by kernel_rfl); have e11 := hf 11 (by kernel_rfl); have e13 := hf 13 (by kernel_rfl); have e15 := hf 15 (by kernel_rfl); clear hf; simp [] at e10 e11 e13 e15)
  have c4t : List.take 4 cs = cs := List.take_of_length_le (Nat.le_of_eq c4')
  simp (disch := omega) [e10, e11, e13, e15, c4', csh, cal, c4t, Qm]
  refine Z9 (.inr rfl) (by simp [e10]) rfl rfl hk1 (by simp [clo]) (Zlx (nlT := false) (ty := QI ty) (ks := [w]) (by simp) (by simp) (by simp) (by simp [Qu, csh, QS]) (by simp [clo]) ?_)
  refine TmOk.k1 (by omega) (Zpz hg oa) (GI h16 hg) (ZbB (JT oa)) (by simp [ZJ]) cok ?_ (Zmi (by omega) (by omega))
  have : Qp 9 0 = 1 := by simp [Qp]
  omega
end
end Go.Proofs.YtclfngbealdbgaaGreat
namespace Go.Proofs.YtclfngbealdbgaaGreat
open Go Go.TL
open Go.Proofs.YtclfngbealdbgaaGreat.Ty
set_option linter.unusedSimpArgs false
set_option linter.unusedVariables false
set_option linter.unusedSectionVars false
set_option maxRecDepth 20000
set_option maxHeartbeats 4000000
end Go.Proofs.YtclfngbealdbgaaGreat
namespace Go.Proofs.YtclfngbealdbgaaGreat
open Go Go.TL
open Go.Proofs.YtclfngbealdbgaaGreat.Ty
set_option linter.unusedSimpArgs false
set_option linter.unusedVariables false
set_option linter.unusedSectionVars false
set_option maxRecDepth 20000
set_option maxHeartbeats 4000000
mutual
theorem sk_nm : ∀ (a b : GTerm) (nv : Int), a.nm = b.nm → b.sk nv → a.sk nv
 | .mk op n nl1 ty nl2 ks, .mk op' n' nl1' ty' nl2' ks', nv, h, hs => by
  simp only [GTerm.nm, GTerm.mk.injEq] at h
  obtain ⟨rfl, rfl, _, rfl, _, h⟩ := h
  simp only [GTerm.sk] at hs ⊢
  refine ⟨⟨hs.1.1, hs.1.2.1, hs.1.2.2.1, by rw [Vl h]; exact hs.1.2.2.2⟩, fun h0 => ?_, sks_nm ks ks' nv _ 0 h hs.2.2⟩
  obtain ⟨q1, q2, q3, q4⟩ := hs.2.1 h0
  refine ⟨q1, q2, ?_, q4⟩
  have := Vl h
  rw [q3] at this
  exact List.eq_nil_of_length_eq_zero (by simpa using this)
theorem sks_nm : ∀ (a b : List GTerm) (nv op : Int) (k : Nat), nms a = nms b → sks nv op k b → sks nv op k a
 | [], _, _, _, _, _, _ => by simp [sks]
 | _ :: _, [], _, _, _, h, _ => by simp [nms] at h
 | a :: a', b :: b', nv, op, k, h, hw => by
  simp only [nms, List.cons.injEq, sks] at h hw ⊢
  exact ⟨sk_nm a b _ h.1 hw.1, sks_nm a' b' _ _ _ h.2 hw.2⟩
end
end Go.Proofs.YtclfngbealdbgaaGreat
namespace Go.Proofs.YtclfngbealdbgaaGreat
open Go Go.TL
open Go.Proofs.YtclfngbealdbgaaGreat.Ty
set_option linter.unusedSimpArgs false
set_option linter.unusedVariables false
set_option linter.unusedSectionVars false
set_option maxRecDepth 20000
set_option maxHeartbeats 4000000
theorem isD_op1 {s : GSys} {nv m : Nat} {op n : Int} {a : GTerm} (h : TmOk s nv m (.mk op n true [] false [a])) : isD s nv m (.agg [N op, N n, .sl true true 1 [], .sl false false 4 [a.cells]]) := by
 have := Zet h
 simpa only [QS] using this
theorem Zbw {s : GSys} {nv m : Nat} {op n : Int} {a b : GTerm} (h : TmOk s nv m (.mk op n true [] false [a, b])) : isD s nv m (.agg [N op, N n, .sl true true 1 [], .sl false false 4 [a.cells, b.cells]]) := by
 have := Zet h
 simpa only [QS] using this
theorem Zqh {s : GSys} {nv m : Nat} {op n : Int} {a b c : GTerm} (h : TmOk s nv m (.mk op n true [] false [a, b, c])) : isD s nv m (.agg [N op, N n, .sl true true 1 [], .sl false false 4 [a.cells, b.cells, c.cells]]) := by
 have := Zet h
 simpa only [QS] using this
theorem op1_ok (op n : Int) (a : GTerm) : Qd Tryz.prog WB [N op, N n, .sl false false 4 [a.cells]] (fun r => r = .agg [N op, N n, .sl true true 1 [], .sl false false 4 [a.cells]]) := Zbm op n false [a.cells] (by simp [Qu]) (by simp)
theorem ZcN (op n : Int) (a b : GTerm) : Qd Tryz.prog WB [N op, N n, .sl false false 4 [a.cells, b.cells]] (fun r => r = .agg [N op, N n, .sl true true 1 [], .sl false false 4 [a.cells, b.cells]]) := Zbm op n false [a.cells, b.cells] (by simp [Qu]) (by simp)
theorem op3_ok (op n : Int) (a b c : GTerm) : Qd Tryz.prog WB [N op, N n, .sl false false 4 [a.cells, b.cells, c.cells]] (fun r => r = .agg [N op, N n, .sl true true 1 [], .sl false false 4 [a.cells, b.cells, c.cells]]) := Zbm op n false [a.cells, b.cells, c.cells] (by simp [Qu]) (by simp)
theorem ZaA {size : Int} {data : Bool} {n : Nat} {l : List Int} (h : Zic size data n l) : l.length ≤ n := by
 obtain ⟨t, _, _, _, h4⟩ := h
 exact h4
theorem ZnJ : ∀ x : LV, share x ≠ .dead → x.alive = true
 | .sc _, _ => rfl
 | .sl .., _ => rfl
 | .ha .., _ => rfl
 | .raw _, h => by simp [share] at h
 | .ptr .., _ => rfl
 | .rp _, _ => rfl
 | .fn .., _ => rfl
 | .fnm .., _ => rfl
 | .agg _, _ => rfl
 | .tup _, _ => rfl
 | .dead, h => by simp [share] at h
 | .both u t, h => by
  simp only [share] at h
  have := ZnJ t h
  simp only [LV.alive, this, Bool.true_and]
  cases t <;> simp_all [share]
theorem ZbC : ∀ xs : List LV, (∀ y ∈ shareAll xs, y ≠ .dead) → Wz xs = true
 | [], _ => rfl
 | x :: xs, h => by
  simp only [shareAll, List.mem_cons, forall_eq_or_imp] at h
  simp only [Wz, ZnJ x h.1, ZbC xs h.2, Bool.and_self]
theorem Xm {cs : List LV} {w : GTerm} (h : shareAll cs = w.cells) : Wz cs = true := by
 refine ZbC cs fun y hy => ?_
 rw [h] at hy
 obtain ⟨op, n, nl1, ty, nl2, ks⟩ := w
 simp only [GTerm.cells, List.mem_cons, List.not_mem_nil, or_false] at hy
 rcases hy with rfl | rfl | rfl | rfl <;> simp
mutual
theorem Vf {size : Int} {closed : Bool} : ∀ (g : GTerm) (nv : Int), g.wf → WE nv size closed g = true → g.sk nv
  | .mk op n nl1 ty nl2 ks, nv, hw, hf => by
    simp only [WE, YQ, Bool.and_eq_true] at hf
    simp only [GTerm.wf] at hw
    obtain ⟨⟨f1, f2, f3⟩, f4⟩ := hf
    rw [Qe] at f1
    simp only [GTerm.sk]
    refine ⟨⟨hw.1, hw.2.1, hw.2.2.1, ?_⟩, fun h0 => ?_, Znp ks nv op 0 hw.2.2.2.2 f4⟩
    · have : YV op ≤ 3 := by (unfold YV; repeat' split) <;> omega
      omega
    · subst h0
      simp [ZbV, eqB, QV] at f2
      have f1' : ks = [] := by
        simp [YV] at f1
        exact f1
      have f3' : ty = [] := by
        simp [tyB, Xs, eqB] at f3
        exact f3
      exact ⟨f2.1, f2.2, f1', f3'⟩
theorem Znp {size : Int} {closed : Bool} : ∀ (ks : List GTerm) (nv op : Int) (k : Nat), wfs ks → WR nv size closed op k ks = true → sks nv op k ks
 | [], _, _, _, _, _ => by simp [sks]
 | t :: ts, nv, op, k, hw, hf => by
  simp only [WR, Bool.and_eq_true] at hf
  simp only [wfs] at hw
  simp only [sks]
  exact ⟨Vf t _ hw.1 hf.1, Znp ts nv op (k + 1) hw.2 hf.2⟩
end
theorem Zqw {s : GSys} {nv m : Nat} {w : GTerm} {r : LV} (hw : TmOk s nv m w) (h : Zc5 (shG 1 0 w) r) (lo : Low 0 r) (hb : nv + 2 * m ≤ 100000) : isD s (nv + 1) m r := by
 obtain ⟨v, cs, rfl, h2, h3, h4⟩ := h
 have sz := hw.size
 have k1 := Vf w nv hw.wf hw.form
 have k2 := sk_sh (bw := 1) (by omega) w nv 0 (by omega) (by omega) k1
 have k3 := sk_nm v _ _ h3 k2
 have e1 := Zl4 (size := s.size) (bw := 1) (by omega) w nv 0 (by omega) (by omega)
 refine ⟨v, cs, rfl, h2, by simpa using lo, Xm h2, sk_wf _ _ k3, h4, ?_, ?_⟩
 ·rw [← Zbu v, h3, Zbu, show ((nv + 1 : Nat) : Int) = (nv : Int) + 1 by omega, e1]
  exact hw.form
 ·rw [← Za6 v, h3, Za6, Ziw]
  exact sz
section
variable (D : Dr) (ok : D.ok)
include ok
theorem ZoU {s : GSys} (hsy : s.sys = true) {f : Nat} (H : DOf D s f) (nlc : Bool) (ctx : Wx) (ty : List Int) (deep : Int) (hc : YF s ctx) (hf : ctx.length + 2 * (f + 1) ≤ 1000) (hty : okL s.size ty = true) (hd0 : 0 ≤ deep)
  (hm : 41 * deep.toNat + 41 ≤ f) (hd4 : deep ≤ 3) :
  WJ Tryz.prog D VJ [s.lv, LC nlc ctx, L false ty, N deep] (isD s ctx.length (3 * T0 deep.toNat + 6)) := by
 have t := GSys.sys_of hsy
 have h16 := t.hi
 have h40 := QG hty
 have hT := T0_ge deep.toNat
 have Ha : ∀ (nl : Bool) (cx : Wx) (l : List Int), YF s cx → cx.length ≤ ctx.length + 2 → okL s.size l = true → WJ Tryz.prog D QN [s.lv, LC nl cx, L false l, N deep] (isD s cx.length (T0 deep.toNat)) := fun nl cx l h1 h2 h3 => by
  have h4 := QG h3
  exact (H nl cx l deep h1 (by omega) h3 (by omega) (by omega) (by omega)).mono fun r h => h.mono (ZkO h4.2)
 have Hb : ∀ (nl : Bool) (cx : Wx) (l : List Int), YF s cx → cx.length ≤ ctx.length + 2 → okL s.size l = true → WJ Tryz.prog D QN [s.lv, LC nl cx, L false l, N (deep - 1)] (isD s cx.length (T0 deep.toNat)) := fun nl cx l h1 h2 h3 => by
  have h4 := QG h3
  exact (H nl cx l (deep - 1) h1 (by omega) h3 (by omega) (by omega) (by omega)).mono fun r h => h.mono (Nat.le_trans (ZkO h4.2) (Zml (by omega)))
 have hs : 1 ≤ s.size ∧ s.size ≤ 16 := ⟨by have := t.lo; omega, h16⟩
 have lc : ctx.length ≤ 1000000 := by omega
 have hTm : T0 deep.toNat ≤ 1158 := Zml (d := deep.toNat) (e := 3) (by omega)
 have o0 : okL s.size [0] = true := Zhv s.size
 refine WJ.of_codeOf Zij Qz (by simp) (ZlY (by omega)) ?_
 intro h1 h3 ct i k hct hk
 have hdI : I64 (deep - 1) := by unfold I64; omega
 simp (disch := omega) [ZcH, Qv, Qt, Qm]
 refine Qq (W9 D ok 6 (by unfold I64; omega)) hct hk ?_
 rintro r i0 k0 hk0 ⟨m, rfl, hm0, hm1, _⟩
 simp (disch := omega)
 (with_reducible first | refine Qo (fun q0 => ?_) (fun q0 => ?_) | refine Qn (fun q0 => ?_) (fun q0 => ?_))
 ·
  simp (disch := omega)
  refine Qq (Ha nlc ctx [0] hc (by omega) o0) hct hk0 ?_
  rintro r i1 k1 hk1 hr
  obtain ⟨w1, cs1, rfl, a4, ash, alo, aal, aok⟩ := hr.el
  simp (disch := omega)
  refine Qq (Ha nlc ctx ty hc (by omega) hty) hct hk1 ?_
  rintro r i2 k2 hk2 hr
  obtain ⟨w2, cs2, rfl, b4, bsh, blo, bal, bok⟩ := hr.el
  simp (disch := omega)
  refine Qq (Ha nlc ctx ty hc (by omega) hty) hct hk2 ?_
  rintro r i3 k3 hk3 hr
  obtain ⟨w3, cs3, rfl, c4, csh, clo, cal, cok⟩ := hr.el
  have l1 := cells_length w1; have l2 := cells_length w2; have l3 := cells_length w3
  simp (disch := omega) [a4, b4, c4, ash, bsh, csh, aal, bal, cal, List.take_append, List.drop_append, List.take_of_length_le, List.drop_of_length_le, Qm, Qu]
  refine Qa (op3_ok 3 0 w1 w2 w3) (by simp) ?_
  simp (disch := omega)
  refine Z9 (.inr rfl) (by simp) rfl rfl hk3 (by simp) (Zqh ?_)
  refine TmOk.k3 (by omega) (Zip (by simp)) (by unfold I64; omega) (by simp [Lok]) (by simp [ZJ]) aok (by simp [Qp]) bok (by simp [Qp]) cok (by simp [Qp]) (by omega)
 simp (disch := omega)
 (with_reducible first | refine Qo (fun q1 => ?_) (fun q1 => ?_) | refine Qn (fun q1 => ?_) (fun q1 => ?_))
 ·
  simp (disch := omega)
  refine Qq (ZO D ok 2 (by unfold I64; omega)) hct hk0 ?_
  rintro r i1 k1 hk1 ⟨dt, rfl⟩
  simp (disch := omega)
  refine Qq (Zz D ok s hs dt 1 (by omega)) hct hk1 ?_
  rintro r i2 k2 hk2 ⟨la, rfl, hla⟩
  have oa := Zr hla (by omega)
  have na : la.length ≤ 3 := ZaA hla
  simp (disch := omega)
  refine Qq (Zz D ok s hs true 1 (by omega)) hct hk2 ?_
  rintro r i3 k3 hk3 ⟨lb, rfl, hlb⟩
  have ob := Zr hlb (by omega)
  have nb : lb.length ≤ 3 := ZaA hlb
  have ci : YF s ((false, lb) :: (false, la) :: ctx) := (YF.two ob oa).app hc
  have og : okL s.size (1 :: (la ++ lb)) = true := Zbv oa ob Xo.1 Zfx.1 (by simp; omega)
  have gl2 := Y4 1 false false false la lb (by omega) (by omega)
  obtain ⟨gl, hgl⟩ : ∃ gl, 1 :: (la ++ lb) = gl := ⟨_, rfl⟩
  rw [hgl] at og gl2
  simp (disch := omega) [Qm]
  refine Qa (Yg nlc false ctx [(false, lb), (false, la)] lc (by simp)) (by simp) ?_
  simp (disch := omega)
  refine Qq (Ha false ((false, lb) :: (false, la) :: ctx) ty ci (by simp) hty) hct hk3 ?_
  rintro r i4 k4 hk4 hr
  obtain ⟨w1, cs1, rfl, a4, ash, alo, aal, aok⟩ := hr.el
  have n0 := Vs hsy false ci aok (by simp; omega) 0 (by simp)
  have n1 := Vs hsy false ci aok (by simp; omega) 1 (by simp)
  simp only [Int.natCast_zero, Int.natCast_one] at n0 n1
  simp (disch := omega) [a4, ash, aal, List.take_of_length_le, Qt]
  refine Qh n0 (by simp) ?_
  rintro r ⟨m0, rfl, hm0⟩
  simp (disch := omega) [a4, ash, aal, List.take_of_length_le]
  refine Qh n1 (by simp) ?_
  rintro r ⟨m1, rfl, hm1⟩
  have j0 := JR hsy hm0 hm1
  have j1 := JR hsy (GSys.G1 t) j0
  simp (disch := omega)
  refine Qa (Vm t hm0 hm1) (by simp) ?_
  simp (disch := omega)
  refine Qa (Vm t (GSys.G1 t) j0) (by simp) ?_
  simp (disch := omega)
  refine Qq (Zdg D ok t _ j1) hct hk4 ?_
  rintro r i5 k5 hk5 ⟨g, rfl, hg⟩
  simp (disch := omega) [Qm]
  refine Qa gl2 (by simp) ?_
  simp (disch := omega)
  refine Qq (Ha nlc ctx _ hc (by omega) og) hct hk5 ?_
  rintro r i6 k6 hk6 hr
  obtain ⟨w2, cs2, rfl, b4, bsh, blo, bal, bok⟩ := hr.el
  simp (disch := omega) [a4, b4, ash, bsh, aal, bal, List.take_append, List.drop_append, List.take_of_length_le, List.drop_of_length_le, Qm, Qu]
  refine Qa (ZcN 5 g w2 w1) (by simp) ?_
  simp (disch := omega)
  refine Z9 (.inr rfl) (by simp) rfl rfl hk6 (by simp) (Zbw ?_)
  refine TmOk.k2 (by omega) (ZlM hg (by simp)) (GI h16 hg) (by simp [Lok]) (by simp [ZJ]) bok (by simp [Qp]) aok (by simp [Qp]; omega) (by omega)
 simp (disch := omega)
 (with_reducible first | refine Qo (fun q2 => ?_) (fun q2 => ?_) | refine Qn (fun q2 => ?_) (fun q2 => ?_))
 ·
  simp (disch := omega)
  refine Qq (Zz D ok s hs true 1 (by omega)) hct hk0 ?_
  rintro r i2 k2 hk2 ⟨la, rfl, hla⟩
  have oa := Zr hla (by omega)
  have na : la.length ≤ 3 := ZaA hla
  simp (disch := omega)
  refine Qq (Zz D ok s hs true 1 (by omega)) hct hk2 ?_
  rintro r i3 k3 hk3 ⟨lb, rfl, hlb⟩
  have ob := Zr hlb (by omega)
  have nb : lb.length ≤ 3 := ZaA hlb
  have cia : YF s ((false, la) :: ctx) := (YF.one oa).app hc
  have cib : YF s ((false, lb) :: ctx) := (YF.one ob).app hc
  have og : okL s.size (2 :: (la ++ lb)) = true := Zbv oa ob Xo.2 Zfx.2 (by simp; omega)
  have gl2 := Y4 2 false false false la lb (by omega) (by omega)
  obtain ⟨gl, hgl⟩ : ∃ gl, 2 :: (la ++ lb) = gl := ⟨_, rfl⟩
  rw [hgl] at og gl2
  simp (disch := omega) [Qm]
  refine Qa (Yg nlc false ctx [(false, la)] lc (by simp)) (by simp) ?_
  simp (disch := omega) [Qm]
  refine Qa (Yg nlc false ctx [(false, lb)] lc (by simp)) (by simp) ?_
  simp (disch := omega)
  refine Qq (Ha false ((false, la) :: ctx) ty cia (by simp) hty) hct hk3 ?_
  rintro r i4 k4 hk4 hr
  obtain ⟨w1, cs1, rfl, a4, ash, alo, aal, aok⟩ := hr.el
  simp (disch := omega) [a4, ash, aal, List.take_of_length_le, Qt]
  refine Qq (Ha false ((false, lb) :: ctx) ty cib (by simp) hty) hct hk4 ?_
  rintro r i5 k5 hk5 hr
  obtain ⟨w2, cs2, rfl, b4, bsh, blo, bal, bok⟩ := hr.el
  have n0 := Vs hsy false cia aok (by simp; omega) 0 (by simp)
  have n1 := Vs hsy false cib bok (by simp; omega) 0 (by simp)
  simp only [Int.natCast_zero] at n0 n1
  simp (disch := omega) [a4, ash, aal, b4, bsh, bal, List.take_of_length_le, Qt]
  refine Qh n0 (by simp) ?_
  rintro r ⟨m0, rfl, hm0⟩
  simp (disch := omega) [a4, ash, aal, b4, bsh, bal, List.take_of_length_le]
  refine Qh n1 (by simp) ?_
  rintro r ⟨m1, rfl, hm1⟩
  have j0 := JR hsy hm0 hm1
  have j1 := JR hsy (GSys.G1 t) j0
  simp (disch := omega)
  refine Qa (Vm t hm0 hm1) (by simp) ?_
  simp (disch := omega)
  refine Qa (Vm t (GSys.G1 t) j0) (by simp) ?_
  simp (disch := omega)
  refine Qq (Zdg D ok t _ j1) hct hk5 ?_
  rintro r i6 k6 hk6 ⟨g, rfl, hg⟩
  simp (disch := omega) [Qm]
  refine Qa gl2 (by simp) ?_
  simp (disch := omega)
  refine Qq (Ha nlc ctx _ hc (by omega) og) hct hk6 ?_
  rintro r i7 k7 hk7 hr
  obtain ⟨w3, cs3, rfl, c4, csh, clo, cal, cok⟩ := hr.el
  have l1 := cells_length w1; have l2 := cells_length w2; have l3 := cells_length w3
  simp (disch := omega) [a4, b4, c4, ash, bsh, csh, aal, bal, cal, List.take_append, List.drop_append, List.take_of_length_le, List.drop_of_length_le, Qm, Qu]
  refine Qa (op3_ok 8 g w3 w1 w2) (by simp) ?_
  simp (disch := omega)
  refine Z9 (.inr rfl) (by simp) rfl rfl hk7 (by simp) (Zqh ?_)
  refine TmOk.k3 (by omega) (ZlM hg (by simp)) (GI h16 hg) (by simp [Lok]) (by simp [ZJ]) cok (by simp [Qp]) aok (by simp [Qp]) bok (by simp [Qp]) (by omega)
 simp (disch := omega)
 (with_reducible first | refine Qo (fun q3 => ?_) (fun q3 => ?_) | refine Qn (fun q3 => ?_) (fun q3 => ?_))
 ·
  simp (disch := omega)
  refine Qq (ZO D ok 2 (by unfold I64; omega)) hct hk0 ?_
  rintro r i1 k1 hk1 ⟨dt, rfl⟩
  simp (disch := omega)
  refine Qq (Zz D ok s hs dt 1 (by omega)) hct hk1 ?_
  rintro r i2 k2 hk2 ⟨la, rfl, hla⟩
  have oa := Zr hla (by omega)
  have na : la.length ≤ 3 := ZaA hla
  have cia : YF s ((false, la) :: ctx) := (YF.one oa).app hc
  simp (disch := omega) [Qm]
  refine Qa (Yg nlc false ctx [(false, la)] lc (by simp)) (by simp) ?_
  simp (disch := omega)
  refine Qq (Ha false ((false, la) :: ctx) ty cia (by simp) hty) hct hk2 ?_
  rintro r i4 k4 hk4 hr
  obtain ⟨w1, cs1, rfl, a4, ash, alo, aal, aok⟩ := hr.el
  have n0 := Vs hsy false cia aok (by simp; omega) 0 (by simp)
  simp only [Int.natCast_zero] at n0
  simp (disch := omega) [a4, ash, aal, List.take_of_length_le, Qt]
  refine Qh n0 (by simp) ?_
  rintro r ⟨m0, rfl, hm0⟩
  simp (disch := omega)
  refine Qq (Zdg D ok t _ hm0) hct hk4 ?_
  rintro r i6 k6 hk6 ⟨g, rfl, hg⟩
  obtain ⟨b1, b2, b3, b4'⟩ := ZmW hg.1 hg.2 h16
  have og : okL s.size ((19 + g) :: la) = true := ZpR oa b4' b3 (by simp; omega)
  have gl1 := ZeI (19 + g) false false la (by omega)
  have g0 := hg.1; have g1 := hg.2
  obtain ⟨gl, hgl⟩ : ∃ gl, (19 + g) :: la = gl := ⟨_, rfl⟩
  rw [hgl] at og gl1
  simp (disch := omega) [Qm, Qf]
  refine Qa gl1 (by simp) ?_
  simp (disch := omega)
  refine Qq (Ha nlc ctx _ hc (by omega) og) hct hk6 ?_
  rintro r i7 k7 hk7 hr
  obtain ⟨w3, cs3, rfl, c4, csh, clo, cal, cok⟩ := hr.el
  simp (disch := omega) [a4, c4, ash, csh, aal, cal, List.take_append, List.drop_append, List.take_of_length_le, List.drop_of_length_le, Qm, Qu]
  refine Qa (ZcN 12 1 w3 w1) (by simp) ?_
  simp (disch := omega)
  refine Z9 (.inr rfl) (by simp) rfl rfl hk7 (by simp) (Zbw ?_)
  refine TmOk.k2 (by omega) (ZlM (GSys.G1 t) (by simp)) (by unfold I64; omega) (by simp [Lok]) (by simp [ZJ]) cok (by simp [Qp]) aok (by simp [Qp]) (by omega)
 simp (disch := omega)
 refine Qq (ZO D ok 2 (by unfold I64; omega)) hct hk0 ?_
 rintro r i1 k1 hk1 ⟨dt, rfl⟩
 simp (disch := omega)
 refine Qq (Zz D ok s hs dt 2 (by omega)) hct hk1 ?_
 rintro r i2 k2 hk2 ⟨la, rfl, hla⟩
 have oa := Zr hla (by omega)
 have na : la.length ≤ 7 := ZaA hla
 have cia : YF s ((false, la) :: ctx) := (YF.one oa).app hc
 simp (disch := omega) [Qm]
 refine Qa (Yg nlc false ctx [(false, la)] lc (by simp)) (by simp) ?_
 simp (disch := omega)
 refine Qq (Ha false ((false, la) :: ctx) ty cia (by simp) hty) hct hk2 ?_
 rintro r i4 k4 hk4 hr
 obtain ⟨w1, cs1, rfl, a4, ash, alo, aal, aok⟩ := hr.el
 have n0 := Vs hsy false cia aok (by simp; omega) 0 (by simp)
 simp only [Int.natCast_zero] at n0
 simp (disch := omega) [a4, ash, aal, List.take_of_length_le, Qt]
 refine Qh n0 (by simp) ?_
 rintro r ⟨m0, rfl, hm0'⟩
 simp (disch := omega)
 refine Qq (Zdg D ok t _ hm0') hct hk4 ?_
 rintro r i6 k6 hk6 ⟨g, rfl, hg⟩
 have g0 := hg.1; have g1 := hg.2
 have l1 := cells_length w1
 obtain ⟨b1, b2, b3, b4'⟩ := Zis g0 g1 h16
 have gl2 := Y4 (3 + g) false false false la ty (by omega) (by omega)
 have fok : TmOk s ctx.length (T0 deep.toNat + 1) (.mk 9 g false la false [w1]) := TmOk.k1 (by omega) (Zpz hg oa) (GI h16 hg) (ZbB (JT oa)) (by simp [ZJ]) aok (by simp [Qp]) (by omega)
 simp (disch := omega) [a4, ash, aal, List.take_append, List.drop_append, List.take_of_length_le, List.drop_of_length_le, Qm, Qu, Qt]
 refine Qq (ZO D ok 4 (by unfold I64; omega)) hct hk6 ?_
 rintro r i7 k7 hk7 ⟨b, rfl⟩
 cases b
 ·simp (disch := omega) [Qf]
  refine Qq (Hb nlc ctx la hc (by omega) oa) hct hk7 ?_
  rintro r i8 k8 hk8 hr
  obtain ⟨w3, cs3, rfl, c4, csh, clo, cal, cok⟩ := hr.el
  have l3 := cells_length w3
  have op := ZcN 10 0 (.mk 9 g false la false [w1]) w3
  have fin : isD s ctx.length (3 * T0 deep.toNat + 6) (.agg [N 10, N 0, .sl true true 1 [], .sl false false 4 [GTerm.cells (.mk 9 g false la false [w1]), w3.cells]]) := Zbw (TmOk.k2 (by omega) (Zip (by simp)) (by unfold I64; omega) (by simp [Lok]) (by simp [ZJ]) fok (by simp [Qp]) cok (by simp [Qp]) (by omega))
  simp only [GTerm.cells, QS] at op fin
  simp (disch := omega) [a4, c4, ash, csh, aal, cal, List.take_append, List.drop_append, List.take_of_length_le, List.drop_of_length_le, Qm, Qu]
  refine Qa op (by simp) ?_
  simp (disch := omega)
  exact Z9 (.inr rfl) (by simp) rfl rfl hk8 (by simp) fin
 ·have vI : I64 (3 + g) := by unfold I64; omega
  simp (disch := omega) [Qf]
  obtain ⟨way, hway⟩ : ∃ l, (3 + g) :: (la ++ ty) = l := ⟨_, rfl⟩
  rw [hway] at gl2
  refine Qa gl2 (by simp) ?_
  simp (disch := omega)
  by_cases hwl : way.length < 12
  ·have hb : ltB (way.length : Int) 12 = true := by rw [Qi]; omega
   have ow : okL s.size way = true := by rw [← hway]; exact Zbv oa hty b4' b3 (by rw [hway]; omega)
   simp (disch := omega) [hb]
   refine Qa (Zbm 0 0 true [] (by simp) (by simp)) (by simp) ?_
   simp (disch := omega) [Qf]
   refine Qq (Hb nlc ctx la hc (by omega) oa) hct hk7 ?_
   rintro r i8 k8 hk8 hr
   obtain ⟨w3, cs3, rfl, c4, csh, clo, cal, cok⟩ := hr.el
   have l3 := cells_length w3
   have csz := cok.size
   have sh := ZgH 1 (by omega) w3.size w3 ctx.length 0 (Nat.le_refl _) (Vf w3 _ cok.wf cok.form) (by omega) (by omega) (by omega) (by omega)
   simp (disch := omega) [c4, csh, cal, List.take_of_length_le]
   refine Qh (Qd.low sh) (by simp) ?_
   rintro r ⟨hr2, lo2⟩
   obtain ⟨w4, cs4, rfl, d4, dsh, dlo, dal, dok⟩ := (Zqw cok hr2 lo2 (by omega)).el
   have l4 := cells_length w4
   have op := ZcN 10 0 (.mk 0 0 true [] true []) w4
   have cak : TmOk s (ctx.length + 1) (T0 deep.toNat + 2) (.mk 10 0 true [] false [.mk 0 0 true [] true [], w4]) := TmOk.k2 (by omega) (Zip (by simp)) (by unfold I64; omega) (by simp [Lok]) (by simp [ZJ])
    (TmOk.k0 (nv := ctx.length + 1) (m := 1) (by omega) (Zmj (by omega)) (by unfold I64; omega) (by simp [Lok]) (by simp [ZJ]) (by omega)) (by simp [Qp]) dok (by simp [Qp]) (by omega)
   have lamk : TmOk s ctx.length (T0 deep.toNat + 3) (.mk 9 1 false way false [.mk 10 0 true [] false [.mk 0 0 true [] true [], w4]]) := TmOk.k1 (by omega) (Zpz (GSys.G1 t) ow) (by unfold I64; omega) (ZbB (JT ow)) (by simp [ZJ]) cak (by simp [Qp]) (by omega)
   have op' := ZcN 10 0 (.mk 9 1 false way false [.mk 10 0 true [] false [.mk 0 0 true [] true [], w4]]) (.mk 9 g false la false [w1])
   have fin : isD s ctx.length (3 * T0 deep.toNat + 6) (.agg [N 10, N 0, .sl true true 1 [], .sl false false 4 [GTerm.cells (.mk 9 1 false way false [.mk 10 0 true [] false [.mk 0 0 true [] true [], w4]]), GTerm.cells (.mk 9 g false la false [w1])]]) :=
    Zbw (TmOk.k2 (by omega) (Zip (by simp)) (by unfold I64; omega) (by simp [Lok]) (by simp [ZJ]) lamk (by simp [Qp]) fok (by simp [Qp]) (by omega))
   simp only [GTerm.cells, QS] at op op' fin
   simp (disch := omega) [d4, dsh, dal, List.take_append, List.drop_append, List.take_of_length_le, List.drop_of_length_le, Qm, Qu, Qt]
   refine Qa op (by simp) ?_
   simp (disch := omega) [Qm, Qu, Qt]
   refine Qa op' (by simp) ?_
   simp (disch := omega)
   exact Z9 (.inr rfl) (by simp) rfl rfl hk8 (by simp) fin
  ·have hb : ltB (way.length : Int) 12 = false := by rw [Qg]; omega
   simp (disch := omega) [hb, Qf]
   refine Qq (Hb nlc ctx la hc (by omega) oa) hct hk7 ?_
   rintro r i8 k8 hk8 hr
   obtain ⟨w3, cs3, rfl, c4, csh, clo, cal, cok⟩ := hr.el
   have l3 := cells_length w3
   have op := ZcN 10 0 (.mk 9 g false la false [w1]) w3
   have fin : isD s ctx.length (3 * T0 deep.toNat + 6) (.agg [N 10, N 0, .sl true true 1 [], .sl false false 4 [GTerm.cells (.mk 9 g false la false [w1]), w3.cells]]) := Zbw (TmOk.k2 (by omega) (Zip (by simp)) (by unfold I64; omega) (by simp [Lok]) (by simp [ZJ]) fok (by simp [Qp]) cok (by simp [Qp]) (by omega))
   simp only [GTerm.cells, QS] at op fin
   simp (disch := omega) [a4, c4, ash, csh, aal, cal, List.take_append, List.drop_append, List.take_of_length_le, List.drop_of_length_le, Qm, Qu]
   refine Qa op (by simp) ?_
   simp (disch := omega)
   exact Z9 (.inr rfl) (by simp) rfl rfl hk8 (by simp) fin
end
end Go.Proofs.YtclfngbealdbgaaGreat
namespace Go.Proofs.YtclfngbealdbgaaGreat
open Go Go.TL
open Go.Proofs.YtclfngbealdbgaaGreat.Ty
set_option linter.unusedSimpArgs false
set_option linter.unusedVariables false
set_option linter.unusedSectionVars false
set_option maxRecDepth 20000
set_option maxHeartbeats 4000000
def KW (z : Nat) (Qj : List (List LV)) : LV := if Qj.isEmpty = true then .sl true true z [] else .sl true false 4 Qj
theorem KW_app {z : Nat} {Qj : List (List LV)} {r : List LV} (h : Qj.length < 1099511627776) : WN 4 (KW z Qj) (.sl true false 4 [r]) = some (KW z (Qj ++ [r])) := by
 cases Qj with
 | nil => simp [KW, WN, most]
 | cons a l =>
  simp only [KW, List.isEmpty_cons, Bool.false_eq_true, if_false, List.cons_append, WN]
  rw [if_pos ⟨.inl trivial, .inl trivial, .inl trivial, by simp [most] at h ⊢; omega⟩]
  simp
theorem ZpP (z : Nat) (ks : List (List LV)) : (KW z ks).flat = true := by unfold KW; split <;> rfl
theorem Zn2 (z : Nat) (ks : List (List LV)) : (KW z ks).cells = [KW z ks] := by unfold KW; split <;> rfl
theorem ZfD (z : Nat) (ks : List (List LV)) : (KW z ks).alive = true := by unfold KW; split <;> rfl
theorem KW_nz (z : Nat) (ks : List (List LV)) : nz (KW z ks) = nz (.sl true ks.isEmpty 4 ks) := by
 cases ks with
 | nil => simp [KW, nz]
 | cons a l => simp [KW]
theorem KW_low {z : Nat} {ks : List (List LV)} (h : Wj 0 ks) : Low 0 (KW z ks) := by unfold KW; split <;> simp [h]
theorem ZmZ {z : Nat} {op n : Int} {f1 f2 : Bool} {ty : List Int} {K ws : List GTerm} {Qj : List (List LV)} {T : LV} {nlT : Bool} (h : Qu Qj = QS ws) (hn : nms ws = nms K) (hT : share T = L nlT ty) (lT : Low 0 T) (lo : Wj 0 Qj) (hf : ZJ nlT ty) (hfw : fls ws) : isTz (.mk op n f1 ty f2 K) (.agg [N op, N n, T, KW z Qj]) := by
 refine ⟨.agg [N op, N n, T, .sl true Qj.isEmpty 4 Qj], by simp [nz, Jc, KW_nz], ⟨.mk op n nlT ty Qj.isEmpty ws, _, rfl, ?_, ?_, ?_⟩, by simp [lT, lo]⟩
 ·simp only [shareAll, share, hT, h, GTerm.cells]
 ·simp only [GTerm.nm, hn]
  rw [← Zdi ws, hn, Zdi]
 ·simp only [GTerm.fl]
  exact ⟨hf, hfw⟩
theorem Zng (d : Nat) : ∀ (g : GTerm), g.size ≤ d → g.wf → g.fl → Qd Tryz.prog Yj [g.lv] (Zc5 g) := by
 induction d with
 | zero => intro g h; have := g.size_pos; omega
 | succ d ih =>
  rintro ⟨op, n, nl1, gty, nl2, ks⟩ hd hw hfl
  simp only [GTerm.wf] at hw
  obtain ⟨hop, hn, hty, hk, hks⟩ := hw
  simp only [GTerm.fl] at hfl
  obtain ⟨fl1, flk⟩ := hfl
  simp only [GTerm.size] at hd
  have hgl := hty.1
  simp only [GTerm.lv, GTerm.cells]
  refine Qd.ofTz (Qd.of_codeOf Zg6 Qz (by simp) (Zht _) ?_)
  have CL := Zcy nl1 gty (by omega)
  obtain ⟨T, hT, shT, loT, alT, flT⟩ : ∃ T, cl nl1 gty = T ∧ share T = L nl1 gty ∧ Low 0 T ∧ T.alive = true ∧ (T.flat = true ∧ T.cells = [T]) := by
   refine ⟨_, rfl, ?_⟩
   unfold cl
   split
   ·rename_i h; rw [fl1 h, h]; simp [LV.flat, LV.cells]
   ·rename_i h; simp at h; subst h; simp [LV.flat, LV.cells]
  rw [hT] at CL
  simp (disch := omega) [ZbK, Qv, Qt]
  refine Qa CL (by simp) ?_
  simp (disch := omega) [shT, alT, flT]
  refine Wf ks.length 0 (fun i t h => t 17 = N i ∧ ∃ Qj ws tl, h = none :: some [N 0, N 0, .sl true true 1 [], .sl true true 1 []] :: some [N op, N n, T, KW 0 Qj] :: tl ∧ Qu Qj = QS ws ∧ Wj 0 Qj ∧ nms ws = nms (ks.take i) ∧ fls ws)
   (fun t h => ∃ Qj ws tl, h = none :: some [N 0, N 0, .sl true true 1 [], .sl true true 1 []] :: some [N op, N n, T, KW 0 Qj] :: tl ∧ Qu Qj = QS ws ∧ Wj 0 Qj ∧ nms ws = nms ks ∧ fls ws) ⟨by simp, [], [], [], by simp [KW], by simp [QS, Qu], by simp, by simp, by simp [fls]⟩ (by omega) ?_ ?_
  ·rintro i t2 hh hf2 hi ⟨e17, Qj, ws, tl, rfl, hsh, hlo, hnm, hfw⟩
   (have e1 := hf2 1 (by kernel_rfl); have e2 := hf2 2 (by kernel_rfl); have e3 := hf2 3 (by kernel_rfl); have e15 := hf2 15 (by kernel_rfl); have e16 := hf2 16 (by kernel_rfl); clear hf2; simp [] at e1 e2 e3 e15 e16)
   by_cases h6 : i < ks.length
   ·have hb : ltB (i : Int) ks.length = true := by rw [Qi]; omega
    have hsk := Yt h6
    have recu := ih ks[i] (by omega) ((V7.1 hks) _ (List.getElem_mem h6)) ((ZS.1 flk) _ (List.getElem_mem h6))
    have hix := ZdL ks false nl2 i h6
    have hwl : ws.length = i := by
     have := Vl hnm
     rw [this, List.length_take]; omega
    have hrl : Qj.length = i := by rw [← WL, hsh, Ky, hwl]
    have hal := ZfD 0 Qj
    simp (disch := omega) [e1, e2, e3, e15, e16, e17, hb, hix, hal]
    refine Qh (Qd.low recu) (by simp) ?_
    rintro r2 ⟨⟨w, cs, rfl, hcs2, hwn, hwf⟩, lo2⟩
    obtain ⟨c0, c1, c2, c3, rfl⟩ := len4 (cs := cs) (by rw [← QJ, hcs2]; simp)
    have ap := KW_app (z := 0) (Qj := Qj) (r := [c0, c1, c2, c3]) (by omega)
    have hfl2 := ZpP 0 (Qj ++ [[c0, c1, c2, c3]])
    have hce2 := Zn2 0 (Qj ++ [[c0, c1, c2, c3]])
    simp (disch := omega) [e1, e2, e3, e15, e16, e17, Qm, ap, h6, Qf, hfl2, hce2]
    refine ⟨_, rfl, ws ++ [w], ?_, ?_, ?_, ZS.2 fun k hk => ?_⟩
    ·rw [Zac, ← hsh, ← hcs2]; simp [XQ, Xq]
    ·simp at lo2; simp [hlo, lo2]
    ·rw [KV, hnm, List.take_succ_eq_append_getElem h6, KV, hwn]
    ·rcases List.mem_append.1 hk with hk | hk
     ·exact ZS.1 hfw k hk
     ·simp at hk; subst hk; exact hwf
   ·have hb : ltB (i : Int) ks.length = false := by rw [Qg]; omega
    have e := List.take_of_length_le (l := ks) (i := i) (by omega)
    rw [e] at hnm
    simp (disch := omega) [e16, e17, hb]
    exact ⟨Qj, rfl, ws, hsh, hlo, hnm, hfw⟩
  ·rintro t2 hh hf2 ⟨Qj, ws, tl, rfl, hsh, hlo, hnm, hfw⟩
   (have e2 := hf2 2 (by kernel_rfl); have e3 := hf2 3 (by kernel_rfl); clear hf2; simp [] at e2 e3)
   have hal := ZfD 0 Qj
   simp (disch := omega) [e2, e3, hal, alT]
   exact ⟨⟨loT, KW_low hlo⟩, ZmZ hsh hnm (nlT := nl1) shT loT hlo fl1 hfw⟩
end Go.Proofs.YtclfngbealdbgaaGreat
namespace Go.Proofs.YtclfngbealdbgaaGreat
open Go Go.TL
open Go.Proofs.YtclfngbealdbgaaGreat.Ty
set_option linter.unusedSimpArgs false
set_option linter.unusedVariables false
set_option linter.unusedSectionVars false
set_option maxRecDepth 20000
set_option maxHeartbeats 4000000
def Zif (x : Option GTerm) (r : LV) : Prop := match x with
 | none => ∃ z, r = .tup [.agg z, B false] ∧ z.length = 4 ∧ Wz z = true
 | some c => ∃ z, r = .tup [z, B true] ∧ Zc5 c z
theorem ZgO (x : Option GTerm) : ∃ r, Zif x r ∧ Low 0 r := by
 cases x with
 | none => exact ⟨.tup [.agg [N 0, N 0, N 0, N 0], B false], ⟨_, rfl, rfl, rfl⟩, by simp⟩
 | some c =>
  obtain ⟨r, h, l⟩ := Zdd c
  exact ⟨.tup [r, B true], ⟨r, rfl, h⟩, by simp [l]⟩
theorem ZpU {a b : GTerm} (h : a.nm = b.nm) : a.writ = b.writ := by
 unfold GTerm.writ
 rw [← Za6 a, ← Zbu a, h, Za6, Zbu]
mutual
theorem ZnT : ∀ a : GTerm, a.nm.wf → a.wf
 | .mk op n nl1 ty nl2 ks, h => by
  simp only [GTerm.wf, GTerm.nm] at *
  exact ⟨h.1, h.2.1, h.2.2.1, by have := h.2.2.2.1; rw [ZiD] at this; exact this, ZkR ks h.2.2.2.2⟩
theorem ZkR : ∀ a : List GTerm, wfs (nms a) → wfs a
 | [], _ => by simp [wfs]
 | a :: a', h => by
  simp only [wfs, nms] at *
  exact ⟨ZnT a h.1, ZkR a' h.2⟩
end
theorem ZiI {a b : GTerm} (h : a.nm = b.nm) (hb : b.wf) : a.wf := ZnT a (by rw [h]; exact wf_nm b hb)
end Go.Proofs.YtclfngbealdbgaaGreat
namespace Go.Proofs.YtclfngbealdbgaaGreat
open Go Go.TL
open Go.Proofs.YtclfngbealdbgaaGreat.Ty
set_option linter.unusedSimpArgs false
set_option linter.unusedVariables false
set_option linter.unusedSectionVars false
set_option maxRecDepth 20000
set_option maxHeartbeats 4000000
mutual
theorem Zl8 {s : GSys} : ∀ (g : GTerm) (cx : List (List Int)), Qr s cx g.nm = Qr s cx g
 | .mk op n nl1 ty nl2 ks, cx => by simp only [GTerm.nm, Qr, ZnA ks]
theorem ZnA {s : GSys} : ∀ (ks : List GTerm) (cx : List (List Int)) (op n : Int) (ty : List Int) (ds : List TT), Q6 s cx op n ty ds (nms ks) = Q6 s cx op n ty ds ks
 | [], _, _, _, _, _ => by simp [nms, Q6]
 | k :: ks, cx, op, n, ty, ds => by
  simp only [nms, Q6, Zl8 k]
  cases Qr s (QB op ty ds.length (first ds) ++ cx) k with
  | bad f p => rfl
  | ok x => simp only [ZnA ks]
end
theorem ZiW {s : GSys} {a b : GTerm} (h : a.nm = b.nm) (cx : List (List Int)) : Qr s cx a = Qr s cx b := by
 rw [← Zl8 a, h, Zl8]
end Go.Proofs.YtclfngbealdbgaaGreat
namespace Go.Proofs.YtclfngbealdbgaaGreat
open Go Go.TL
open Go.Proofs.YtclfngbealdbgaaGreat.Ty
set_option linter.unusedSimpArgs false
set_option linter.unusedVariables false
set_option linter.unusedSectionVars false
set_option maxRecDepth 20000
set_option maxHeartbeats 4000000
theorem Xk (N n i : Nat) (hn : n < N) : ((zeros N).set n 1).getD i 0 = if i = n then 1 else 0 := by
 by_cases h : i = n
 ·subst h
  simp [zeros, List.getD_eq_getElem?_getD, hn]
 ·rw [if_neg h]
  simp only [List.getD_eq_getElem?_getD, List.getElem?_set, if_neg (fun e => h (Eq.symm e)), zeros, List.getElem?_replicate]
  split <;> rfl
theorem ZaV (N i : Nat) : (zeros N).getD i 0 = 0 := by
 simp only [List.getD_eq_getElem?_getD, zeros, List.getElem?_replicate]
 split <;> rfl
theorem Y7 (k i : Nat) (l : List Int) : (l.drop k).getD i 0 = l.getD (k + i) 0 := by simp [List.getD_eq_getElem?_getD, List.getElem?_drop]
theorem Kt (k i : Nat) (l : List Int) (h : i < k) : (l.take k).getD i 0 = l.getD i 0 := by simp [List.getD_eq_getElem?_getD, List.getElem?_take, h]
theorem GSys.Laws.j_z {s : GSys} (l : s.Laws) (hs : s.sys = true) : s.join 0 0 = 0 := by
 have t := GSys.sys_of hs
 have h0 := GSys.G0 t
 have hj := JR hs h0 h0
 exact l.anti _ _ hj h0 (l.j_m 0 0 0 h0 h0 h0 (l.refl 0 h0) (l.refl 0 h0)) (l.j_l 0 0 h0 h0)
def insP (fr w c' : Nat) (a a' : List Int) : Prop := ∀ i, i < c' → a'.getD i 0 = if i < fr then a.getD i 0 else if i < fr + w then 0 else a.getD (i - w) 0
theorem insP_cl {s : GSys} (hs : s.sys = true) (fr w c : Nat) (hfr : fr ≤ c) : PCl s (insP fr w (c + w)) c (c + w) := by
 have t := GSys.sys_of hs
 have L := GSys.laws hs
 refine ⟨fun i hi => ?_, fun a a' b b' ha ha' hb hb' h1 h2 i hi => ?_, fun a a' b b' ha ha' hb hb' h1 h2 i hi => ?_, fun g a a' hg ha ha' h1 i hi => ?_⟩
 ·rw [ZaV, ZaV, ZaV]; split <;> (try split) <;> rfl
 ·have e1 := h1 i hi
  have e2 := h2 i hi
  simp only [XV]
  rw [XW ha'.1 hb'.1 hi, e1, e2]
  split
  ·rw [XW ha.1 hb.1 (by omega)]
  ·split
   ·exact L.z_pl 0 (GSys.G0 t)
   ·rw [XW ha.1 hb.1 (by omega)]
 ·have e1 := h1 i hi
  have e2 := h2 i hi
  simp only [XO]
  rw [XW ha'.1 hb'.1 hi, e1, e2]
  split
  ·rw [XW ha.1 hb.1 (by omega)]
  ·split
   ·exact L.j_z hs
   ·rw [XW ha.1 hb.1 (by omega)]
 ·have e1 := h1 i hi
  simp only [QT]
  rw [KP (by rw [ha'.1]; exact hi), e1]
  split
  ·rw [KP (by rw [ha.1]; omega)]
  ·split
   ·exact L.tm_z g hg
   ·rw [KP (by rw [ha.1]; omega)]
def KM (n : Int) : GTerm := .mk 0 n true [] true []
def shV (bw fr : Nat) (k : Nat) (n : Int) : GTerm := KM (if (fr : Int) + k ≤ n then n + bw else n)
mutual
theorem sh_rn (bw fr : Nat) : ∀ (g : GTerm) (k : Nat) (nv : Int), g.sk nv → (shG bw ((fr : Int) + k) g).nm = (rnG (shV bw fr) k g).nm
 | .mk op n nl1 ty nl2 ks, k, nv, h => by
  simp only [GTerm.sk] at h
  by_cases ho : op = 0
  ·obtain ⟨_, _, h3, h4⟩ := h.2.1 ho
   subst ho; subst h3; subst h4
   simp [shG, rnG, JB, shV, KM, GTerm.nm, nms]
  ·have e : (JB bw ((fr : Int) + k) op 0 ks).isEmpty = (rnK (shV bw fr) op k 0 ks).isEmpty := by cases ks <;> simp [JB, rnK]
   simp only [shG, rnG, if_neg ho, GTerm.nm, e, shs_rn bw fr ks op k 0 nv h.2.2]
   simp [ho]
theorem shs_rn (bw fr : Nat) : ∀ (ks : List GTerm) (op : Int) (k i : Nat) (nv : Int), sks nv op i ks → nms (JB bw ((fr : Int) + k) op i ks) = nms (rnK (shV bw fr) op k i ks)
 | [], _, _, _, _, _ => by simp [JB, rnK, nms]
 | t :: ts, op, k, i, nv, h => by
  simp only [sks] at h
  have := WV op i
  have e := sh_rn bw fr t ((Qp op i).toNat + k) _ h.1
  rw [show (fr : Int) + (((Qp op i).toNat + k : Nat) : Int) = (fr : Int) + k + Qp op i by omega] at e
  simp only [JB, rnK, nms, e, shs_rn bw fr ts op k (i + 1) nv h.2]
end
theorem Ya (a b : List (List Int)) (i : Nat) : (a ++ b).getD i [] = if i < a.length then a.getD i [] else b.getD (i - a.length) [] := by
 simp only [List.getD_eq_getElem?_getD]
 split
 ·rename_i h; rw [List.getElem?_append_left h]
 ·rename_i h; rw [List.getElem?_append_right (by omega)]
theorem weaken {s : GSys} (hs : s.sys = true) {pre ws cx : List (List Int)} (hp : ∀ l ∈ pre, okL s.size l = true) (hc : ∀ l ∈ cx, okL s.size l = true) {g : GTerm} {x : TT} (hw : g.wf) (hf : WE (pre ++ cx).length s.size true g = true) (ht : Qr s (pre ++ cx) g = .ok x) :
  ∃ y, Qr s (pre ++ ws ++ cx) (shG ws.length pre.length g) = .ok y ∧ y.ty = x.ty ∧ Gd s (pre ++ ws ++ cx).length y.needs ∧ insP pre.length ws.length ((pre ++ cx).length + ws.length) x.needs y.needs := by
 have t := GSys.sys_of hs
 have hall : ∀ l ∈ pre ++ cx, okL s.size l = true := fun l hl => (List.mem_append.1 hl).elim (hp l) (hc l)
 have hlen : (pre ++ ws ++ cx).length = (pre ++ cx).length + ws.length := by simp; omega
 have cl := insP_cl hs pre.length ws.length (pre ++ cx).length (by simp)
 rw [← hlen] at cl
 have key := Zmd hs (ctx := pre ++ cx) (ctx' := pre ++ ws ++ cx) cl (shV ws.length pre.length) hall ?_ g [] x (by simp) (by simpa using hf) (by simpa using ht)
 ·obtain ⟨y, y1, y2, y3⟩ := key
  simp only [List.nil_append, List.length_nil] at y1 y3
  refine ⟨y, ?_, y2, by have := y3.g'; simpa using this, by have := y3.p; rw [hlen] at this; simpa using this⟩
  rw [ZiW (b := rnG (shV ws.length pre.length) 0 g) ?_, y1]
  have := sh_rn ws.length pre.length g 0 (pre ++ cx).length (Vf g _ hw hf)
  simpa using this
 ·intro ds n hd n0 n1
  obtain ⟨m, rfl⟩ : ∃ m : Nat, n = m := ⟨n.toNat, by omega⟩
  simp only [Int.toNat_natCast]
  have n1' : m < ds.length + (pre ++ cx).length := by omega
  have hL : (pre ++ cx).length = pre.length + cx.length := List.length_append
  have hL2 : (ds ++ (pre ++ ws ++ cx)).length = ds.length + (pre.length + ws.length + cx.length) := by simp only [List.length_append]
  by_cases h : (pre.length : Int) + ds.length ≤ m
  ·have e : shV ws.length pre.length ds.length m = KM ((m + ws.length : Nat) : Int) := by simp [shV, h]
   rw [e, KM, Zcg]
   refine ⟨_, rfl, ?_, ⟨?_, ?_, ?_, ?_⟩⟩
   ·simp only [TT.ty_mk, Int.toNat_natCast]
    rw [Ya, Ya, Ya, Ya, Ya]
    simp only [List.length_append]
    rw [if_neg (by omega), if_neg (by omega), if_neg (by omega), if_neg (by omega)]
    congr 1; omega
   ·have := Zc0 t (ds.length + (pre ++ cx).length) m; exact ⟨this.1, this.2⟩
   ·have := Zc0 t (ds ++ (pre ++ ws ++ cx)).length (((m + ws.length : Nat) : Int).toNat); exact ⟨by rw [TT.needs_mk, this.1]; simp, this.2⟩
   ·intro i hi
    have hik : i < ds.length := by simp [zeros] at hi; omega
    simp only [TT.needs_mk, Int.toNat_natCast]
    rw [Kt _ _ _ hik, Kt _ _ _ hik, Xk _ _ _ (by omega), Xk _ _ _ n1', if_neg (by omega), if_neg (by omega)]
    exact (GSys.laws hs).refl 0 (GSys.G0 t)
   ·intro i hi
    simp only [TT.needs_mk, Int.toNat_natCast]
    rw [Y7, Y7, Y7, Xk _ _ _ (by omega), Xk _ _ _ n1', Xk _ _ _ n1']
    repeat' split
    all_goals first | rfl | omega
  ·have h' : (m : Int) < pre.length + ds.length := by omega
   have e : shV ws.length pre.length ds.length m = KM (m : Int) := by simp [shV, h]
   rw [e, KM, Zcg]
   refine ⟨_, rfl, ?_, ⟨?_, ?_, ?_, ?_⟩⟩
   ·simp only [TT.ty_mk, Int.toNat_natCast]
    rw [Ya, Ya, Ya, Ya, Ya]
    simp only [List.length_append]
    split
    ·rfl
    ·rw [if_pos (by omega), if_pos (by omega), if_pos (by omega)]
   ·have := Zc0 t (ds.length + (pre ++ cx).length) m; exact ⟨this.1, this.2⟩
   ·have := Zc0 t (ds ++ (pre ++ ws ++ cx)).length (((m : Nat) : Int).toNat); exact ⟨by rw [TT.needs_mk, this.1]; simp, this.2⟩
   ·intro i hi
    have hik : i < ds.length := by simp [zeros] at hi; omega
    simp only [TT.needs_mk, Int.toNat_natCast]
    rw [Kt _ _ _ hik, Kt _ _ _ hik, Xk _ _ _ (by omega), Xk _ _ _ n1']
    split
    ·exact (GSys.laws hs).refl 1 (GSys.G1 t)
    ·exact (GSys.laws hs).refl 0 (GSys.G0 t)
   ·intro i hi
    simp only [TT.needs_mk, Int.toNat_natCast]
    rw [Y7, Y7, Y7, Xk _ _ _ (by omega), Xk _ _ _ n1', Xk _ _ _ n1']
    repeat' split
    all_goals first | rfl | omega
end Go.Proofs.YtclfngbealdbgaaGreat
namespace Go.Proofs.YtclfngbealdbgaaGreat
open Go Go.TL
open Go.Proofs.YtclfngbealdbgaaGreat.Ty
set_option linter.unusedSimpArgs false
set_option linter.unusedVariables false
set_option linter.unusedSectionVars false
set_option maxRecDepth 20000
set_option maxHeartbeats 4000000
def subP (s : GSys) (m : List Int) (c' : Nat) (a a' : List Int) : Prop := ∀ i, i < c' → s.le (a'.getD i 0) (s.pl (a.getD (i + 1) 0) (s.tm (a.getD 0 0) (m.getD i 0))) = true
theorem subP_cl {s : GSys} (hs : s.sys = true) {m : List Int} {c' : Nat} (hm : Gd s c' m) : PCl s (subP s m c') (c' + 1) c' := by
 have t := GSys.sys_of hs
 have L := GSys.laws hs
 have g0 := GSys.G0 t
 have mid : ∀ a b c d, s.G a → s.G b → s.G c → s.G d → s.pl (s.pl a b) (s.pl c d) = s.pl (s.pl a c) (s.pl b d) := fun a b c d ha hb hc hd => by
  have e1 := L.pl_as a b (s.pl c d) ha hb (GSys.Gpl t _ _)
  have e2 := L.pl_as b c d hb hc hd
  have e3 := L.comm b c hb hc
  have e4 := L.pl_as c b d hc hb hd
  have e5 := L.pl_as a c (s.pl b d) ha hc (GSys.Gpl t _ _)
  rw [e1, e5, ← e2, e3, e4]
 refine ⟨fun i hi => ?_, fun a a' b b' ha ha' hb hb' h1 h2 i hi => ?_, fun a a' b b' ha ha' hb hb' h1 h2 i hi => ?_, fun g a a' hg ha ha' h1 i hi => ?_⟩
 ·rw [ZaV, ZaV, ZaV, L.z_tm _ (hm.at hi), L.z_pl 0 g0]
  exact L.refl 0 g0
 ·have e1 := h1 i hi
  have e2 := h2 i hi
  have gm := hm.at hi
  simp only [XV]
  rw [XW ha'.1 hb'.1 hi, XW ha.1 hb.1 (by omega), XW ha.1 hb.1 (by omega), L.rdis _ _ _ (ha.at (by omega)) (hb.at (by omega)) gm, mid _ _ _ _ (ha.at (by omega)) (hb.at (by omega)) (GSys.Gtm t _ _) (GSys.Gtm t _ _)]
  exact L.pl2 t (ha'.at hi) (hb'.at hi) (GSys.Gpl t _ _) (GSys.Gpl t _ _) e1 e2
 ·have e1 := h1 i hi
  have e2 := h2 i hi
  have gm := hm.at hi
  simp only [XO]
  rw [XW ha'.1 hb'.1 hi, XW ha.1 hb.1 (by omega), XW ha.1 hb.1 (by omega)]
  have a1 := ha.at (show i + 1 < c' + 1 by omega); have b1 := hb.at (show i + 1 < c' + 1 by omega)
  have a0 := ha.at (show 0 < c' + 1 by omega); have b0 := hb.at (show 0 < c' + 1 by omega)
  have ja := JR hs a1 b1; have jb := JR hs a0 b0
  refine L.j_m _ _ _ (ha'.at hi) (hb'.at hi) (GSys.Gpl t _ _) ?_ ?_
  ·refine L.trans _ _ _ (ha'.at hi) (GSys.Gpl t _ _) (GSys.Gpl t _ _) e1 (L.pl2 t a1 (GSys.Gtm t _ _) ja (GSys.Gtm t _ _) (L.j_l _ _ a1 b1) (L.tm_mr _ _ _ a0 jb gm (L.j_l _ _ a0 b0)))
  ·refine L.trans _ _ _ (hb'.at hi) (GSys.Gpl t _ _) (GSys.Gpl t _ _) e2 (L.pl2 t b1 (GSys.Gtm t _ _) ja (GSys.Gtm t _ _) (L.j_r _ _ a1 b1) (L.tm_mr _ _ _ b0 jb gm (L.j_r _ _ a0 b0)))
 ·have e1 := h1 i hi
  have gm := hm.at hi
  simp only [QT]
  rw [KP (by rw [ha'.1]; exact hi), KP (by rw [ha.1]; omega), KP (by rw [ha.1]; omega), L.tm_as _ _ _ hg (ha.at (by omega)) gm, ← L.ldis _ _ _ hg (ha.at (by omega)) (GSys.Gtm t _ _)]
  exact L.tm_ml _ _ _ (ha'.at hi) (GSys.Gpl t _ _) hg e1
def Xy (u : GTerm) (k : Nat) (n : Int) : GTerm := if n = k then shG k 0 u else if (k : Int) < n then KM (n - 1) else KM n
theorem put_tell {s : GSys} (hs : s.sys = true) {a : List Int} {cx : List (List Int)} (ha : okL s.size a = true) (hc : ∀ l ∈ cx, okL s.size l = true) {g u : GTerm} {x z : TT} (hf : WE (a :: cx).length s.size true g = true)
  (huw : u.wf) (huf : WE cx.length s.size true u = true) (ht : Qr s (a :: cx) g = .ok x) (hz : Qr s cx u = .ok z) (hza : z.ty = a) :
  ∃ y, Qr s cx (rnG (Xy u) 0 g) = .ok y ∧ y.ty = x.ty ∧ Gd s cx.length y.needs ∧ subP s z.needs cx.length x.needs y.needs := by
 have t := GSys.sys_of hs
 have L := GSys.laws hs
 have zg := Jr t u cx z hc huf hz
 have hm : Gd s cx.length z.needs := ⟨zg.2.1, zg.2.2⟩
 have hall : ∀ l ∈ a :: cx, okL s.size l = true := fun l hl => by
  rcases List.mem_cons.1 hl with rfl | hl
  ·exact ha
  ·exact hc l hl
 have cl := subP_cl hs hm
 have key := Zmd hs (ctx := a :: cx) (ctx' := cx) (by simpa using cl) (Xy u) hall ?_ g [] x (by simp) (by simpa using hf) (by simpa using ht)
 ·obtain ⟨y, y1, y2, y3⟩ := key
  simp only [List.nil_append, List.length_nil] at y1 y3
  exact ⟨y, y1, y2, by have := y3.g'; simpa using this, by have := y3.p; simpa using this⟩
 ·intro ds n hd n0 n1
  obtain ⟨m, rfl⟩ : ∃ m : Nat, n = m := ⟨n.toNat, by omega⟩
  simp only [Int.toNat_natCast]
  have hL : (a :: cx).length = cx.length + 1 := rfl
  have hL2 : (ds ++ cx).length = ds.length + cx.length := List.length_append
  have n1' : m < ds.length + (a :: cx).length := by omega
  have gN : Gd s (ds.length + (a :: cx).length) ((zeros (ds.length + (a :: cx).length)).set m 1) := Zc0 t _ _
  by_cases h : m = ds.length
  ·subst h
   have e : Xy u ds.length ((ds.length : Nat) : Int) = shG ds.length 0 u := by simp [Xy]
   obtain ⟨y, y1, y2, y3, y4⟩ := weaken hs (pre := []) (ws := ds) (cx := cx) (by simp) hc huw (by simpa using huf) (by simpa using hz)
   simp only [List.nil_append, List.length_nil, Int.natCast_zero] at y1 y3 y4
   have y5 : ∀ i, i < cx.length + ds.length → y.needs.getD i 0 = if i < ds.length then 0 else z.needs.getD (i - ds.length) 0 := fun i hi => by
    have := y4 i hi
    simpa using this
   rw [e]
   refine ⟨y, y1, ?_, ⟨gN, ⟨by rw [y3.1]; omega, y3.2⟩, fun i hi => ?_, fun i hi => ?_⟩⟩
   ·rw [y2, hza, Ya, if_neg (by omega), Nat.sub_self]; rfl
   ·have hik : i < ds.length := by simp at hi; omega
    rw [Kt _ _ _ hik, Kt _ _ _ hik, Xk _ _ _ n1', y5 i (by omega), if_pos hik, if_neg (by omega)]
    exact L.refl 0 (GSys.G0 t)
   ·rw [Y7, Y7, Y7, Xk _ _ _ n1', Xk _ _ _ n1', y5 _ (by omega), if_neg (by omega), if_neg (by omega), if_pos (by omega), show ds.length + i - ds.length = i by omega, L.o_tm _ (hm.at hi), L.z_pl _ (hm.at hi)]
    exact L.refl _ (hm.at hi)
  ·have hG01 : ∀ (q : Prop) [Decidable q], s.G (if q then 1 else 0) := fun q _ => by
    split
    ·exact GSys.G1 t
    ·exact GSys.G0 t
   by_cases h2 : ds.length < m
   ·have e : Xy u ds.length (m : Int) = KM ((m - 1 : Nat) : Int) := by
     unfold Xy
     rw [if_neg (by omega), if_pos (by omega)]
     congr 1; omega
    rw [e, KM, Zcg]
    refine ⟨_, rfl, ?_, ⟨gN, ?_, fun i hi => ?_, fun i hi => ?_⟩⟩
    ·simp only [TT.ty_mk, Int.toNat_natCast]
     rw [Ya, Ya, if_neg (by omega), if_neg (by omega), show m - ds.length = (m - 1 - ds.length) + 1 by omega]
     simp
    ·have := Zc0 t (ds ++ cx).length (((m - 1 : Nat) : Int).toNat); exact ⟨by rw [TT.needs_mk, this.1]; exact hL2, this.2⟩
    ·have hik : i < ds.length := by simp [zeros] at hi; omega
     simp only [TT.needs_mk, Int.toNat_natCast]
     rw [Kt _ _ _ hik, Kt _ _ _ hik, Xk _ _ _ (by omega), Xk _ _ _ n1', if_neg (by omega), if_neg (by omega)]
     exact L.refl 0 (GSys.G0 t)
    ·simp only [TT.needs_mk, Int.toNat_natCast]
     rw [Y7, Y7, Y7, Xk _ _ _ (by omega), Xk _ _ _ n1', Xk _ _ _ n1', if_neg (show ¬ ds.length + 0 = m by omega), L.z_tm _ (hm.at hi), L.pl_z t _ (hG01 _)]
     have ee : (if ds.length + i = m - 1 then (1 : Int) else 0) = if ds.length + (i + 1) = m then 1 else 0 := by
      split <;> split <;> first | rfl | omega
     rw [ee]
     exact L.refl _ (hG01 _)
   ·have e : Xy u ds.length (m : Int) = KM (m : Int) := by
     unfold Xy
     rw [if_neg (by omega), if_neg (by omega)]
    rw [e, KM, Zcg]
    refine ⟨_, rfl, ?_, ⟨gN, ?_, fun i hi => ?_, fun i hi => ?_⟩⟩
    ·simp only [TT.ty_mk, Int.toNat_natCast]
     rw [Ya, Ya, if_pos (by omega), if_pos (by omega)]
    ·have := Zc0 t (ds ++ cx).length (((m : Nat) : Int).toNat); exact ⟨by rw [TT.needs_mk, this.1]; exact hL2, this.2⟩
    ·have hik : i < ds.length := by simp [zeros] at hi; omega
     simp only [TT.needs_mk, Int.toNat_natCast]
     rw [Kt _ _ _ hik, Kt _ _ _ hik, Xk _ _ _ (by omega), Xk _ _ _ n1']
     exact L.refl _ (hG01 _)
    ·simp only [TT.needs_mk, Int.toNat_natCast]
     rw [Y7, Y7, Y7, Xk _ _ _ (by omega), Xk _ _ _ n1', Xk _ _ _ n1', if_neg (show ¬ ds.length + 0 = m by omega), if_neg (by omega), if_neg (by omega), L.z_tm _ (hm.at hi), L.z_pl 0 (GSys.G0 t)]
     exact L.refl _ (GSys.G0 t)
end Go.Proofs.YtclfngbealdbgaaGreat
namespace Go.Proofs.YtclfngbealdbgaaGreat
open Go Go.TL
open Go.Proofs.YtclfngbealdbgaaGreat.Ty
set_option linter.unusedSimpArgs false
set_option linter.unusedVariables false
set_option linter.unusedSectionVars false
set_option maxRecDepth 20000
set_option maxHeartbeats 4000000
theorem Zc5.of_nm {g g' : GTerm} {r : LV} (h : Zc5 g r) (e : g.nm = g'.nm) : Zc5 g' r := by
 obtain ⟨w, cs, h1, h2, h3, h4⟩ := h
 exact ⟨w, cs, h1, h2, by rw [h3, e], h4⟩
def FnS (P : Program) (f : LV) (σ : Nat → Int → GTerm) : Prop := share f = f ∧ Low 0 f ∧ ∀ (nl1 nl2 : Bool) (n : Int) (k : Nat), (0 ≤ n ∧ n ≤ 1000000) → (k ≤ 100000) →
 ∃ fid vals, YN f [(GTerm.mk 0 n nl1 [] nl2 []).lv, N k] = some (fid, vals) ∧ QE 0 vals ∧ Qd P fid vals (Zc5 (σ k n))
theorem onFn_S {P : Program} {f : LV} {σ : Nat → Int → GTerm} {n : Int} {k : Nat} {nl1 nl2 : Bool} {d : Nat} {K : St → Prop} {s : St} (h : FnS P f σ) (hn : 0 ≤ n ∧ n ≤ 1000000) (hd : k ≤ 100000)
  (hk : ∀ r, Zc5 (σ k n) r ∧ Low 0 r → K { t := upd s.t d r, h := s.h }) : onFn P .no f [(GTerm.mk 0 n nl1 [] nl2 []).lv, N k] (some d) K s := by
 obtain ⟨fid, vals, h1, h2, h3⟩ := h.2.2 nl1 nl2 n k hn hd
 exact ⟨fid, vals, h1, Qh (rw := .no) (Qd.low h3) h2 hk⟩
theorem Zh4 (n : Int) (hn : I64 n) (nl1 nl2 : Bool) : Qd Tryz.prog Yj [(GTerm.mk 0 n nl1 [] nl2 []).lv] (Zc5 (KM n)) :=
 (Zng 1 (.mk 0 n nl1 [] nl2 []) (by simp [GTerm.size, WX]) (by simp only [GTerm.wf, wfs]; exact ⟨by unfold I64; omega, hn, by simp [Lok], by simp, trivial⟩) (by simp [GTerm.fl, fls, ZJ])).mono fun r h => h.of_nm (by simp [KM, GTerm.nm, nms])
theorem Zot (bw fr : Nat) (hb : bw ≤ 100000) (hfr : fr ≤ 100000) : FnS Tryz.prog (.fn ZK [.rp [N fr], .rp [N bw]]) (shV bw fr) := by
 refine ⟨by simp, by simp, fun nl1 nl2 n k hn hd => ⟨ZK, [(GTerm.mk 0 n nl1 [] nl2 []).lv, N k, .rp [N fr], .rp [N bw]], by simp [YN], by simp, ?_⟩⟩
 refine Qd.of_codeOf Zgf Qz (by simp) (Zdd _) ?_
 have CT := fun m hm => Zh4 m hm nl1 nl2
 simp (disch := omega) [ZaW, Qv, Qt, GTerm.cells, Qf, QS]
 by_cases h : (fr : Int) + k ≤ n
 ·have hle : leB fr (n - k) = true := by rw [Ql]; omega
  have CT1 := CT (n + bw) (by unfold I64; omega)
  have e : shV bw fr k n = KM (n + bw) := by simp [shV, h]
  rw [← e] at CT1
  simp only [GTerm.lv, GTerm.cells, QS] at CT1
  simp (disch := omega) [hle, Qf, h]
  refine Qh (Qd.low CT1) (by simp) ?_
  rintro r ⟨⟨w, cs, rfl, h2, h3, h4⟩, lo⟩
  have c4 : cs.length = 4 := by rw [← QJ, h2]; simp
  have cal := Xm h2
  simp (disch := omega) [c4, cal, List.take_of_length_le, List.drop_of_length_le]
  exact ⟨by simpa using lo, w, cs, rfl, h2, h3, h4⟩
 ·have hle : leB fr (n - k) = false := by rw [Qk]; omega
  have CT1 := CT n (by unfold I64; omega)
  have e : shV bw fr k n = KM n := by simp [shV, h]
  rw [← e] at CT1
  simp only [GTerm.lv, GTerm.cells, QS] at CT1
  simp (disch := omega) [hle, h]
  refine Qh (Qd.low CT1) (by simp) ?_
  rintro r ⟨⟨w, cs, rfl, h2, h3, h4⟩, lo⟩
  have c4 : cs.length = 4 := by rw [← QJ, h2]; simp
  have cal := Xm h2
  simp (disch := omega) [c4, cal, List.take_of_length_le, List.drop_of_length_le]
  exact ⟨by simpa using lo, w, cs, rfl, h2, h3, h4⟩
theorem Jn (σ : Nat → Int → GTerm) (op : Int) (k : Nat) : ∀ (ks : List GTerm) (i : Nat), (rnK σ op k i ks).length = ks.length
 | [], _ => by simp [rnK]
 | t :: ts, i => by simp [rnK, Jn σ op k ts]
theorem Zqb (σ : Nat → Int → GTerm) (op : Int) (k : Nat) : ∀ (ks : List GTerm) (i j : Nat) (h : j < ks.length), (rnK σ op k i ks)[j]'(by rw [Jn]; exact h) = rnG σ ((Qp op ((i + j : Nat) : Int)).toNat + k) ks[j]
 | [], _, j, h => by simp at h
 | t :: ts, i, 0, h => by simp [rnK]
 | t :: ts, i, j + 1, h => by
  simp only [rnK, List.getElem_cons_succ]
  rw [Zqb σ op k ts (i + 1) j (by simpa using h), show i + 1 + j = i + (j + 1) by omega]
theorem Zn0 {σ : Nat → Int → GTerm} {op : Int} {k : Nat} {ks : List GTerm} {i : Nat} (h : i < ks.length) : (rnK σ op k 0 ks).take (i + 1) = (rnK σ op k 0 ks).take i ++ [rnG σ ((Qp op i).toNat + k) ks[i]] := by
 rw [List.take_succ_eq_append_getElem (by rw [Jn]; exact h), Zqb σ op k ks 0 i h]; simp
theorem Zgz {f : LV} {σ : Nat → Int → GTerm} (hf : FnS Tryz.prog f σ) (d : Nat) : ∀ (g : GTerm) (nv : Int) (k : Nat), g.size ≤ d → g.sk nv → g.fl → 0 ≤ nv → nv + 2 * g.size ≤ 100000 → k + 2 * g.size ≤ 100000 →
  Qd Tryz.prog Zv [g.lv, N k, f] (Zc5 (rnG σ k g)) := by
 induction d with
 | zero => intro g _ _ h; have := g.size_pos; omega
 | succ d ih =>
  rintro ⟨op, n, nl1, gty, nl2, ks⟩ nv deep hd hform hfl hn0 hnv hdeep
  simp only [GTerm.sk] at hform
  obtain ⟨⟨hop, hn, hty, hk⟩, hvar, hforms⟩ := hform
  simp only [GTerm.fl] at hfl
  obtain ⟨fl1, flk⟩ := hfl
  simp only [GTerm.size] at hd hnv hdeep
  have hgl := hty.1
  have sf := hf.1
  have lf := hf.2.1
  simp only [GTerm.lv, GTerm.cells]
  refine Qd.ofTz (Qd.of_codeOf Ziq Qz (by simp) (Zht _) ?_)
  by_cases h0 : op = 0
  ·subst h0
   have e0 : eqB 0 0 = true := by rw [Qe]
   obtain ⟨v1, v2, hk0, ht0⟩ := hvar rfl
   subst hk0 ht0
   have AP := fun (d : Nat) (K : St → Prop) (s : St) hk => onFn_S (P := Tryz.prog) (d := d) (K := K) (s := s) (n := n) (k := deep) (nl1 := nl1) (nl2 := nl2) hf (by omega) (by omega) hk
   simp only [GTerm.lv, GTerm.cells, QS] at AP
   have eS : rnG σ deep (.mk 0 n nl1 [] nl2 []) = σ deep n := by simp [rnG]
   rw [eS]
   simp (disch := omega) [Vv, Qv, Qt, e0, sf, QS]
   refine AP _ _ _ ?_
   rintro r ⟨⟨w, cs, rfl, h2, h3, h4⟩, lo⟩
   have c4 : cs.length = 4 := by rw [← QJ, h2]; simp
   have cal := Xm h2
   simp (disch := omega) [sf, c4, cal, List.take_of_length_le, List.drop_of_length_le]
   exact ⟨by simpa using lo, ⟨.agg cs, rfl, ⟨w, cs, rfl, h2, h3, h4⟩, lo⟩⟩
  ·have e0 : eqB op 0 = false := by rw [Qc]; exact h0
   have CL := Zcy nl1 gty (by omega)
   obtain ⟨T, hT, shT, loT, alT, flT⟩ : ∃ T, cl nl1 gty = T ∧ share T = L nl1 gty ∧ Low 0 T ∧ T.alive = true ∧ (T.flat = true ∧ T.cells = [T]) := by
    refine ⟨_, rfl, ?_⟩
    unfold cl
    split
    ·rename_i h; rw [fl1 h, h]; simp [LV.flat, LV.cells]
    ·rename_i h; simp at h; subst h; simp [LV.flat, LV.cells]
   rw [hT] at CL
   have eS : rnG σ deep (.mk op n nl1 gty nl2 ks) = .mk op n nl1 gty nl2 (rnK σ op deep 0 ks) := by simp [rnG, h0]
   have hSl := Jn σ op deep ks 0
   rw [eS]
   simp (disch := omega) [Vv, Qv, Qt, e0, sf]
   refine Qa CL (by simp) ?_
   simp (disch := omega) [sf, shT, alT, flT]
   refine Wf ks.length 0 (fun i t h => t 28 = N i ∧ ∃ Qj ws tl, h = none :: some [N 0, N 0, .sl true true 1 [], .sl true true 1 []] :: some [N op, N n, T, KW 0 Qj] :: tl ∧ Qu Qj = QS ws ∧ Wj 0 Qj ∧ nms ws = nms ((rnK σ op deep 0 ks).take i) ∧ fls ws)
    (fun t h => ∃ Qj ws tl, h = none :: some [N 0, N 0, .sl true true 1 [], .sl true true 1 []] :: some [N op, N n, T, KW 0 Qj] :: tl ∧ Qu Qj = QS ws ∧ Wj 0 Qj ∧ nms ws = nms (rnK σ op deep 0 ks) ∧ fls ws) ⟨by simp, [], [], [], by simp [KW], by simp [QS, Qu], by simp, by simp, by simp [fls]⟩ (by omega) ?_ ?_
   ·rintro i t1 hh hf2 hi ⟨e28, Qj, ws, tl, rfl, hsh, hlo, hnm, hfw⟩
    (have e1 := hf2 1 (by kernel_rfl); have e2 := hf2 2 (by kernel_rfl); have e3 := hf2 3 (by kernel_rfl); have e6 := hf2 6 (by kernel_rfl); have e7 := hf2 7 (by kernel_rfl); have e26 := hf2 26 (by kernel_rfl); have e27 := hf2 27 (by kernel_rfl); clear hf2; simp [] at e1 e2 e3 e6 e7 e26 e27)
    by_cases h6 : i < ks.length
    ·have hb : ltB (i : Int) ks.length = true := by rw [Qi]; omega
     have hsk := Yt h6
     have hA := WV op i
     have hkf : (ks[i]).sk (nv + Qp op i) := by have := Zhn.1 hforms i h6; simpa using this
     have recu := ih ks[i] (nv + Qp op i) ((Qp op i).toNat + deep) (by omega) hkf ((ZS.1 flk) _ (List.getElem_mem h6)) (by omega) (by omega) (by omega)
     rw [show (((Qp op i).toNat + deep : Nat) : Int) = (deep : Int) + Qp op i by omega] at recu
     have hix := ZdL ks false nl2 i h6
     have hwl : ws.length = i := by
      have := Vl hnm
      rw [this, List.length_take]; omega
     have hrl : Qj.length = i := by rw [← WL, hsh, Ky, hwl]
     have hal := ZfD 0 Qj
     simp (disch := omega) [e1, e2, e3, e6, e7, e26, e27, e28, hb, hix, hal, sf]
     refine Qa (Zhr op i) (by simp) ?_
     simp (disch := omega) [e1, e2, e3, e6, e7, e26, e27, e28, Qf, sf]
     refine Qh (Qd.low recu) (by simp [lf]) ?_
     rintro r2 ⟨⟨w, cs, rfl, hcs2, hwn, hwf⟩, lo2⟩
     obtain ⟨c0, c1, c2, c3, rfl⟩ := len4 (cs := cs) (by rw [← QJ, hcs2]; simp)
     have ap := KW_app (z := 0) (Qj := Qj) (r := [c0, c1, c2, c3]) (by omega)
     have hfl2 := ZpP 0 (Qj ++ [[c0, c1, c2, c3]])
     have hce2 := Zn2 0 (Qj ++ [[c0, c1, c2, c3]])
     simp (disch := omega) [e1, e2, e3, e6, e7, e26, e27, e28, Qm, ap, h6, Qf, hfl2, hce2]
     refine ⟨_, rfl, ws ++ [w], ?_, ?_, ?_, ZS.2 fun k hk => ?_⟩
     ·rw [Zac, ← hsh, ← hcs2]; simp [XQ, Xq]
     ·simp at lo2; simp [hlo, lo2]
     ·rw [KV, hnm, Zn0 h6, KV, hwn]
     ·rcases List.mem_append.1 hk with hk | hk
      ·exact ZS.1 hfw k hk
      ·simp at hk; subst hk; exact hwf
    ·have hb : ltB (i : Int) ks.length = false := by rw [Qg]; omega
     have e := List.take_of_length_le (l := rnK σ op deep 0 ks) (i := i) (by omega)
     rw [e] at hnm
     simp (disch := omega) [e27, e28, hb]
     exact ⟨Qj, rfl, ws, hsh, hlo, hnm, hfw⟩
   ·rintro t2 hh hf2 ⟨Qj, ws, tl, rfl, hsh, hlo, hnm, hfw⟩
    (have e6 := hf2 6 (by kernel_rfl); have e7 := hf2 7 (by kernel_rfl); clear hf2; simp [] at e6 e7)
    have hal := ZfD 0 Qj
    simp (disch := omega) [e6, e7, hal, alT]
    exact ⟨⟨loT, KW_low hlo⟩, ZmZ hsh hnm (nlT := nl1) shT loT hlo fl1 hfw⟩
end Go.Proofs.YtclfngbealdbgaaGreat
namespace Go.Proofs.YtclfngbealdbgaaGreat
open Go Go.TL
open Go.Proofs.YtclfngbealdbgaaGreat.Ty
set_option linter.unusedSimpArgs false
set_option linter.unusedVariables false
set_option linter.unusedSectionVars false
set_option maxRecDepth 20000
set_option maxHeartbeats 4000000
theorem ZnF (g : GTerm) (nv : Int) (bw fr : Nat) (hb : bw ≤ 100000) (hfr : fr ≤ 100000) (hform : g.sk nv) (hfl : g.fl) (h0 : 0 ≤ nv) (h1 : nv + 2 * g.size ≤ 100000) :
  Qd Tryz.prog VC [g.lv, N bw, N fr] (Zc5 (shG bw fr g)) := by
 refine Qd.of_codeOf Zih Qz (by simp) (Zdd _) ?_
 have FT := Zot bw fr hb hfr
 have RN := Zgz FT g.size g nv 0 (Nat.le_refl _) hform hfl h0 h1 (by omega)
 simp only [Int.natCast_zero] at RN
 have en : (rnG (shV bw fr) 0 g).nm = (shG bw fr g).nm := by
  have := sh_rn bw fr g 0 nv hform
  simpa using this.symm
 simp (disch := omega) [Zc2, Qv, Qt]
 refine Qh (Qd.low RN) (by simp) ?_
 rintro r ⟨hr, lo⟩
 obtain ⟨w, cs, rfl, h2, h3, h4⟩ := hr.of_nm en
 have c4 : cs.length = 4 := by rw [← QJ, h2]; simp
 have cal := Xm h2
 simp (disch := omega) [c4, cal, List.take_of_length_le, List.drop_of_length_le]
 exact ⟨by simpa using lo, w, cs, rfl, h2, h3, h4⟩
theorem Zg0 (u : GTerm) (nu : Int) (hu : u.sk nu) (ufl : u.fl) (h0 : 0 ≤ nu) (h1 : nu + 2 * u.size ≤ 100000) : FnS Tryz.prog (.fn Yw [.rp [N 0], .rp u.cells]) (Xy u) := by
 refine ⟨by simp, by simp, fun nl1 nl2 n k hn hd => ⟨Yw, [(GTerm.mk 0 n nl1 [] nl2 []).lv, N k, .rp [N 0], .rp u.cells], by simp [YN], by simp, ?_⟩⟩
 refine Qd.of_codeOf ZcA Qz (by simp) (Zdd _) ?_
 have CT := fun m hm => Zh4 m hm nl1 nl2
 have SH := ZnF u nu k 0 hd (by omega) hu ufl h0 h1
 simp only [Int.natCast_zero] at SH
 simp (disch := omega) [KZ, Qv, Qt, GTerm.cells, Qf, QS]
 by_cases h : n = k
 ·have hb : eqB (n - k) 0 = true := by rw [Qe]; omega
  have e : Xy u k n = shG k 0 u := by simp [Xy, h]
  rw [e]
  simp (disch := omega) [hb]
  refine Qh (Qd.low SH) (by simp) ?_
  rintro r ⟨⟨w, cs, rfl, q2, q3, q4⟩, lo⟩
  have c4 : cs.length = 4 := by rw [← QJ, q2]; simp
  have cal := Xm q2
  simp (disch := omega) [c4, cal, List.take_of_length_le, List.drop_of_length_le]
  exact ⟨by simpa using lo, w, cs, rfl, q2, q3, q4⟩
 ·have hb : eqB (n - k) 0 = false := by rw [Qc]; omega
  by_cases h2 : (k : Int) < n
  ·have hb2 : ltB 0 (n - k) = true := by rw [Qi]; omega
   have e : Xy u k n = KM (n - 1) := by simp [Xy, h, h2]
   rw [e]
   simp (disch := omega) [hb, hb2, Qf]
   have CT1 := CT (n - 1) (by unfold I64; omega)
   simp only [GTerm.lv, GTerm.cells, QS] at CT1
   refine Qh (Qd.low CT1) (by simp) ?_
   rintro r ⟨⟨w, cs, rfl, q2, q3, q4⟩, lo⟩
   have c4 : cs.length = 4 := by rw [← QJ, q2]; simp
   have cal := Xm q2
   simp (disch := omega) [c4, cal, List.take_of_length_le, List.drop_of_length_le]
   exact ⟨by simpa using lo, w, cs, rfl, q2, q3, q4⟩
  ·have hb2 : ltB 0 (n - k) = false := by rw [Qg]; omega
   have e : Xy u k n = KM n := by simp [Xy, h, h2]
   rw [e]
   simp (disch := omega) [hb, hb2]
   have CT1 := CT n (by unfold I64; omega)
   simp only [GTerm.lv, GTerm.cells, QS] at CT1
   refine Qh (Qd.low CT1) (by simp) ?_
   rintro r ⟨⟨w, cs, rfl, q2, q3, q4⟩, lo⟩
   have c4 : cs.length = 4 := by rw [← QJ, q2]; simp
   have cal := Xm q2
   simp (disch := omega) [c4, cal, List.take_of_length_le, List.drop_of_length_le]
   exact ⟨by simpa using lo, w, cs, rfl, q2, q3, q4⟩
theorem ZhL (g u : GTerm) (nv nu : Int) (hg : g.sk nv) (gfl : g.fl) (h2 : 0 ≤ nv) (h3 : nv + 2 * g.size ≤ 100000) (hu : u.sk nu) (ufl : u.fl) (h0 : 0 ≤ nu) (h1 : nu + 2 * u.size ≤ 100000) :
  Qd Tryz.prog Jo [g.lv, N 0, u.lv] (Zc5 (rnG (Xy u) 0 g)) := by
 refine Qd.of_codeOf ZeH Qz (by simp) (Zdd _) ?_
 have FT := Zg0 u nu hu ufl h0 h1
 have RN := Zgz FT g.size g nv 0 (Nat.le_refl _) hg gfl h2 h3 (by omega)
 simp only [Int.natCast_zero] at RN
 simp (disch := omega) [VU, Qv, Qt]
 refine Qh (Qd.low RN) (by simp) ?_
 rintro r ⟨⟨w, cs, rfl, q2, q3, q4⟩, lo⟩
 have c4 : cs.length = 4 := by rw [← QJ, q2]; simp
 have cal := Xm q2
 simp (disch := omega) [c4, cal, List.take_of_length_le, List.drop_of_length_le]
 exact ⟨by simpa using lo, w, cs, rfl, q2, q3, q4⟩
def JP (g u : GTerm) : Option GTerm := if g.writ = true ∧ u.writ = true ∧ (rnG (Xy u) 0 g).writ = true then some (rnG (Xy u) 0 g) else none
mutual
theorem ZlG (σ : Nat → Int → GTerm) (K : Nat) (hσ : ∀ k n, k ≤ K → I64 n → (σ k n).wf) : ∀ (g : GTerm) (k : Nat), k + 2 * g.size ≤ K → g.wf → (rnG σ k g).wf
 | .mk op n nl1 ty nl2 ks, k, hk, h => by
  simp only [GTerm.wf] at h
  simp only [GTerm.size] at hk
  simp only [rnG]
  split
  ·exact hσ k n (by omega) h.2.1
  ·simp only [GTerm.wf]
   exact ⟨h.1, h.2.1, h.2.2.1, by rw [Jn]; exact h.2.2.2.1, Zp9 σ K hσ ks op k 0 (by omega) h.2.2.2.2⟩
theorem Zp9 (σ : Nat → Int → GTerm) (K : Nat) (hσ : ∀ k n, k ≤ K → I64 n → (σ k n).wf) : ∀ (ks : List GTerm) (op : Int) (k i : Nat), k + 2 + 2 * WX ks ≤ K + 0 → wfs ks → wfs (rnK σ op k i ks)
 | [], _, _, _, _, _ => by simp [rnK, wfs]
 | t :: ts, op, k, i, hk, h => by
  simp only [wfs] at h
  simp only [WX] at hk
  have := WV op i
  simp only [rnK, wfs]
  exact ⟨ZlG σ K hσ t _ (by omega) h.1, Zp9 σ K hσ ts op k (i + 1) (by omega) h.2⟩
end
theorem ZmL {u : GTerm} {nu : Int} (hu : u.sk nu) (h0 : 0 ≤ nu) (h1 : nu + 2 * u.size ≤ 100000) : ∀ k n, k ≤ 1000 → I64 n → (Xy u k n).wf := by
 intro k n hk hn
 have vw : ∀ m, I64 m → (KM m).wf := fun m hm => by
  simp only [KM, GTerm.wf, wfs]
  exact ⟨by unfold I64; omega, hm, by simp [Lok], by simp, trivial⟩
 unfold Xy
 split
 ·exact sk_wf _ _ (sk_sh (bw := k) (by omega) u nu 0 (by omega) (by omega) hu)
 ·split
  ·exact vw _ (by unfold I64 at hn ⊢; omega)
  ·exact vw _ hn
theorem Ze7 (g u : GTerm) (gw : g.wf) (gfl : g.fl) (uw : u.wf) (ufl : u.fl) : Qd Tryz.prog Zm [g.lv, N 0, u.lv] (Zif (JP g u)) := by
 refine Qd.of_codeOf Zb7 Qz (by simp) (ZgO _) ?_
 have z0 : ltB 0 0 = false := by rw [Qg]; omega
 simp (disch := omega) [J4, Qv, Qt]
 refine Qa (J9 g gw) (by simp) ?_
 cases h1 : g.writ
 ·simp (disch := omega) [JP, h1]
  exact ⟨_, rfl, rfl, rfl⟩
 ·simp (disch := omega)
  refine Qa (J9 u uw) (by simp) ?_
  cases h2 : u.writ
  ·simp (disch := omega) [JP, h1, h2]
   exact ⟨_, rfl, rfl, rfl⟩
  ·have k1 := h1
   have k2 := h2
   unfold GTerm.writ at k1 k2
   simp only [Bool.and_eq_true, decide_eq_true_eq] at k1 k2
   have gs := Vf g 8 gw k1.2
   have us := Vf u 8 uw k2.2
   have sb := ZhL g u 8 8 gs gfl (by omega) (by omega) us ufl (by omega) (by omega)
   have pw : (rnG (Xy u) 0 g).wf := ZlG (Xy u) 1000 (ZmL us (by omega) (by omega)) g 0 (by omega) gw
   simp (disch := omega) [z0]
   refine Qh (Qd.low sb) (by simp) ?_
   rintro r ⟨⟨w, cs, rfl, q2, q3, q4⟩, lo⟩
   have c4 : cs.length = 4 := by rw [← QJ, q2]; simp
   have cal := Xm q2
   have iw := J9 w (ZiI q3 pw)
   rw [ZpU q3] at iw
   simp (disch := omega) [c4, cal, q2, List.take_of_length_le, List.drop_of_length_le]
   refine Qa iw (by simp) ?_
   cases h3 : (rnG (Xy u) 0 g).writ
   ·simp (disch := omega) [JP, h1, h2, h3]
    exact ⟨_, rfl, rfl, rfl⟩
   ·simp (disch := omega) [JP, h1, h2, h3, c4, cal, List.take_of_length_le, List.drop_of_length_le]
    exact ⟨by simpa using lo, _, rfl, w, cs, rfl, q2, q3, q4⟩
end Go.Proofs.YtclfngbealdbgaaGreat
namespace Go.Proofs.YtclfngbealdbgaaGreat
open Go Go.TL
open Go.Proofs.YtclfngbealdbgaaGreat.Ty
set_option linter.unusedSimpArgs false
set_option linter.unusedVariables false
set_option linter.unusedSectionVars false
set_option maxRecDepth 20000
set_option maxHeartbeats 4000000
mutual
def Jw (i : Int) : GTerm → Nat
 | .mk op n _ _ _ ks => if op = 0 then (if n = i then 1 else 0) else KX i op 0 ks
def KX (i op : Int) (k : Nat) : List GTerm → Nat
 | [] => 0
 | t :: ts => Jw (i + Qp op k) t + KX i op (k + 1) ts
end
mutual
theorem ZmO : ∀ (g : GTerm) (i : Int), Jw i g ≤ g.size
 | .mk op n nl1 ty nl2 ks, i => by
  simp only [Jw, GTerm.size]
  split
  ·split <;> omega
  ·have := ZiL ks i op 0; omega
theorem ZiL : ∀ (ks : List GTerm) (i op : Int) (k : Nat), KX i op k ks ≤ WX ks
 | [], _, _, _ => by simp [KX, WX]
 | t :: ts, i, op, k => by
  have h1 := ZmO t (i + Qp op k)
  have h2 := ZiL ts i op (k + 1)
  simp only [KX, WX]; omega
end
theorem Zo5 {i op : Int} {ks : List GTerm} {j : Nat} : ∀ (k : Nat) (h : j < ks.length), KX i op (k + j) (ks.drop j) = Jw (i + Qp op ((k + j : Nat) : Int)) ks[j] + KX i op (k + (j + 1)) (ks.drop (j + 1)) := fun k h => by
 rw [List.drop_eq_getElem_cons h, KX, Nat.add_assoc]
theorem ZqQ (d : Nat) : ∀ (g : GTerm) (i : Int), g.size ≤ d → g.wf → 0 ≤ i → i + 2 * g.size ≤ 1000000 → Qd Tryz.prog Ks [g.lv, N i] (· = N (Jw i g)) := by
 induction d with
 | zero => intro g _ h; have := g.size_pos; omega
 | succ d ih =>
  rintro ⟨op, n, nl1, gty, nl2, ks⟩ i hd hw hi0 hi
  simp only [GTerm.wf] at hw
  obtain ⟨hop, hn, hty, hk, hks⟩ := hw
  simp only [GTerm.size] at hd hi
  simp only [GTerm.lv, GTerm.cells]
  refine Qd.of_codeOf Zkg Qz (by simp) ⟨_, rfl, by simp⟩ ?_
  by_cases h0 : op = 0
  ·subst h0
   have e0 : eqB 0 0 = true := by rw [Qe]
   by_cases h1 : n = i
   ·have e1 : eqB n i = true := by rw [Qe]; exact h1
    simp (disch := omega) [KA, Qv, Qt, e0, e1, Jw, h1]
   ·have e1 : eqB n i = false := by rw [Qc]; exact h1
    simp (disch := omega) [KA, Qv, Qt, e0, e1, Jw, h1]
  ·have e0 : eqB op 0 = false := by rw [Qc]; exact h0
   have hul := ZiL ks i op 0
   simp (disch := omega) [KA, Qv, Qt, e0, Jw, h0]
   refine Wf ks.length 0 (fun j t _ => t 6 = N j ∧ ∃ m : Nat, t 5 = N m ∧ m + KX i op j (ks.drop j) = KX i op 0 ks) (fun t _ => t 5 = N (KX i op 0 ks)) ⟨by simp, 0, by simp, by simp⟩ (by omega) ?_ ?_
   ·rintro j t1 hh hf hj ⟨e6, m, e5, hm⟩
    (have e1 := hf 1 (by kernel_rfl); have e2 := hf 2 (by kernel_rfl); clear hf; simp [] at e1 e2)
    by_cases h6 : j < ks.length
    ·have hb : ltB (j : Int) ks.length = true := by rw [Qi]; omega
     have hsk := Yt h6
     have hA := WV op j
     have recu := ih ks[j] (i + Qp op j) (by omega) ((V7.1 hks) _ (List.getElem_mem h6)) (by omega) (by omega)
     have hix := ZdL ks false nl2 j h6
     have ud := Zo5 (i := i) (op := op) (ks := ks) (j := j) 0 h6
     simp only [Nat.zero_add] at ud
     have hkl := ZmO ks[j] (i + Qp op j)
     simp (disch := omega) [e1, e2, e5, e6, hb, hix]
     refine Qa (Zdn op j) (by simp) ?_
     simp (disch := omega) [Qf]
     refine Qa recu (by simp) ?_
     simp (disch := omega) [e5, e6, Qf]
     refine ⟨h6, m + Jw (i + Qp op j) ks[j], by simp, by omega⟩
    ·have hb : ltB (j : Int) ks.length = false := by rw [Qg]; omega
     have hm' : m = KX i op 0 ks := by
      rw [List.drop_of_length_le (by omega)] at hm
      simpa [KX] using hm
     simp (disch := omega) [e1, e2, e5, e6, hb, hm']
   ·rintro t1 hh hf e5
    simp (disch := omega) [e5]
mutual
theorem Zm0 {u : GTerm} : ∀ (g : GTerm) (k : Nat) (nv : Int), g.sk nv → (rnG (Xy u) k g).size + Jw k g = g.size + Jw k g * u.size
 | .mk op n nl1 ty nl2 ks, k, nv, h => by
  simp only [GTerm.sk] at h
  by_cases ho : op = 0
  ·obtain ⟨_, _, h3, h4⟩ := h.2.1 ho
   subst ho; subst h3
   simp only [rnG, if_true, Jw, Xy]
   by_cases h1 : n = k
   ·simp [h1, Ziw, GTerm.size, WX]; omega
   ·simp only [if_neg h1]
    split <;> simp [KM, GTerm.size, WX]
  ·have := ZkE (u := u) ks op k 0 nv h.2.2
   simp only [rnG, if_neg ho, Jw, GTerm.size]
   omega
theorem ZkE {u : GTerm} : ∀ (ks : List GTerm) (op : Int) (k i : Nat) (nv : Int), sks nv op i ks → WX (rnK (Xy u) op k i ks) + KX k op i ks = WX ks + KX k op i ks * u.size
 | [], _, _, _, _, _ => by simp [rnK, WX, KX]
 | t :: ts, op, k, i, nv, h => by
  simp only [sks] at h
  have hr := WV op i
  have h1 := Zm0 (u := u) t ((Qp op i).toNat + k) _ h.1
  have h2 := ZkE (u := u) ts op k (i + 1) nv h.2
  have e : ((((Qp op i).toNat + k : Nat) : Int)) = (k : Int) + Qp op i := by omega
  rw [e] at h1
  simp only [rnK, WX, KX, Nat.add_mul]
  omega
end
theorem ZqV (g u : GTerm) (gw : g.wf) (uw : u.wf) (h1 : g.size ≤ 400) (h2 : u.size ≤ 400) : Qd Tryz.prog Zal [g.lv, N 0, u.lv] (· = B (leB (g.size + Jw 0 g * (u.size - 1 : Int)) 400)) := by
 refine Qd.of_codeOf Zkn Qz (by simp) ⟨_, rfl, by simp⟩ ?_
 have l1 := Vq g.size g (Nat.le_refl _) gw 400 (by omega) (by omega)
 have l2 := Vq u.size u (Nat.le_refl _) uw 400 (by omega) (by omega)
 have us := ZqQ g.size g 0 (Nat.le_refl _) gw (by omega) (by omega)
 have hu := ZmO g 0
 have up := u.size_pos
 have e1 : ZF g.size 400 = 400 - g.size := by unfold ZF; rw [if_pos (by omega)]
 have e2 : ZF u.size 400 = 400 - u.size := by unfold ZF; rw [if_pos (by omega)]
 rw [e1] at l1
 rw [e2] at l2
 have hm0 : 0 ≤ (Jw 0 g : Int) * ((u.size : Int) - 1) := Int.mul_nonneg (by omega) (by omega)
 have hm1 : (Jw 0 g : Int) * ((u.size : Int) - 1) ≤ 400 * 400 := Int.mul_le_mul (by omega) (by omega) (by omega) (by omega)
 have a1 : (400 : Int) - (400 - g.size) = g.size := by omega
 have a2 : (400 : Int) - (400 - u.size) = u.size := by omega
 simp (disch := omega) [ZdD, Qv, Qt]
 refine Qa l1 (by simp) ?_
 simp (disch := omega) [Qf, a1]
 refine Qa us (by simp) ?_
 simp (disch := omega) [Qf]
 refine Qa l2 (by simp) ?_
 simp (disch := omega) [Qf, a1, a2]
end Go.Proofs.YtclfngbealdbgaaGreat
namespace Go.Proofs.YtclfngbealdbgaaGreat
open Go Go.TL
open Go.Proofs.YtclfngbealdbgaaGreat.Ty
set_option linter.unusedSimpArgs false
set_option linter.unusedVariables false
set_option linter.unusedSectionVars false
set_option maxRecDepth 20000
set_option maxHeartbeats 4000000
theorem l2Put_ok {u : GTerm} {nu : Int} (hu : u.sk nu) (ufl : u.fl) (u0 : 0 ≤ nu) (u1 : nu + 2 * u.size ≤ 100000) (d : Nat) : ∀ (g : GTerm) (nv : Int) (k : Nat), g.size ≤ d → g.sk nv → 0 ≤ nv → nv + 2 * g.size ≤ 100000 → k + 2 * g.size ≤ 100000 →
  Qd Tryz.prog Vj [g.lv, N 0, u.lv, N k] (Zc5 (rnG (Xy u) k g)) := by
 induction d with
 | zero => intro g _ _ h; have := g.size_pos; omega
 | succ d ih =>
  rintro ⟨op, n, nl1, gty, nl2, ks⟩ nv deep hd hform hn0 hnv hdeep
  simp only [GTerm.sk] at hform
  obtain ⟨⟨hop, hn, hty, hk⟩, hvar, hforms⟩ := hform
  simp only [GTerm.size] at hd hnv hdeep
  have hgl := hty.1
  simp only [GTerm.lv, GTerm.cells]
  refine Qd.ofTz (Qd.of_codeOf ZmJ Qz (by simp) (Zht _) ?_)
  have CL := ZL nl1 gty (by omega)
  by_cases h0 : op = 0
  ·subst h0
   have e0 : eqB 0 0 = true := by rw [Qe]
   obtain ⟨v1, v2, hk0, ht0⟩ := hvar rfl
   subst hk0 ht0
   have eS : rnG (Xy u) deep (.mk 0 n nl1 [] nl2 []) = Xy u deep n := by simp [rnG]
   rw [eS]
   simp (disch := omega) [Za8, Qv, Qt, e0, QS]
   refine Qa CL (by simp) ?_
   by_cases h1 : n = deep
   ·have e1 : eqB n deep = true := by rw [Qe]; exact h1
    have e : Xy u deep n = shG deep 0 u := by simp [Xy, h1]
    have sh := ZgH deep (by omega) u.size u nu 0 (Nat.le_refl _) hu u0 (by omega) (by omega) (by omega)
    rw [e]
    simp (disch := omega) [e0, e1, Qf]
    refine Qh (Qd.low sh) (by simp) ?_
    rintro r ⟨⟨w, cs, rfl, h2, h3, h4⟩, lo⟩
    have c4 : cs.length = 4 := by rw [← QJ, h2]; simp
    have cal := Xm h2
    simp (disch := omega) [c4, cal, List.take_of_length_le, List.drop_of_length_le]
    exact ⟨by simpa using lo, ⟨.agg cs, rfl, ⟨w, cs, rfl, h2, h3, h4⟩, lo⟩⟩
   ·have e1 : eqB n deep = false := by rw [Qc]; exact h1
    have lp : ∀ (n' : Int), Xy u deep n = KM n' → isTz (Xy u deep n) (.agg [N 0, N n', OU true false [], .sl true true 1 []]) := fun n' e => by
     rw [e]
     exact Zmr (Qj := []) (ws := []) (K := []) (nlT := false) (by simp [Qu, QS]) rfl (by simp) (by simp) (by simp) rfl (by simp [fls])
    by_cases h2 : (deep : Int) < n
    ·have e2 : ltB deep n = true := by rw [Qi]; exact h2
     have e : Xy u deep n = KM (n - 1) := by simp [Xy, h1, h2]
     simp (disch := omega) [e0, e1, e2, Qf]
     refine Wf 0 0 (fun i t h => t 10 = N 0 ∧ h = [none, none, some [N 0, N 0, .sl true true 1 [], .sl true true 1 []], some [N 0, N (n - 1), .sl true false 1 [], .sl true true 1 []]])
      (fun t h => h = [none, none, some [N 0, N 0, .sl true true 1 [], .sl true true 1 []], some [N 0, N (n - 1), .sl true false 1 [], .sl true true 1 []]]) (by simp) (by omega) ?_ ?_
     ·rintro i t1 hh hf2 hi ⟨e10, rfl⟩
      (have e4 := hf2 4 (by kernel_rfl); clear hf2; simp [] at e4)
      have hb : ltB 0 0 = false := by rw [Qg]; omega
      simp (disch := omega) [e4, e10, hb]
     ·rintro t2 hh hf2 rfl
      (have e8 := hf2 8 (by kernel_rfl); have e9 := hf2 9 (by kernel_rfl); clear hf2; simp [] at e8 e9)
      simp (disch := omega) [e8, e9]
      exact lp ((n - 1)) e
    ·have e2 : ltB deep n = false := by rw [Qg]; omega
     have e : Xy u deep n = KM n := by simp [Xy, h1, h2]
     simp (disch := omega) [e0, e1, e2, Qf]
     refine Wf 0 0 (fun i t h => t 10 = N 0 ∧ h = [none, none, some [N 0, N 0, .sl true true 1 [], .sl true true 1 []], some [N 0, N n, .sl true false 1 [], .sl true true 1 []]])
      (fun t h => h = [none, none, some [N 0, N 0, .sl true true 1 [], .sl true true 1 []], some [N 0, N n, .sl true false 1 [], .sl true true 1 []]]) (by simp) (by omega) ?_ ?_
     ·rintro i t1 hh hf2 hi ⟨e10, rfl⟩
      (have e4 := hf2 4 (by kernel_rfl); clear hf2; simp [] at e4)
      have hb : ltB 0 0 = false := by rw [Qg]; omega
      simp (disch := omega) [e4, e10, hb]
     ·rintro t2 hh hf2 rfl
      (have e8 := hf2 8 (by kernel_rfl); have e9 := hf2 9 (by kernel_rfl); clear hf2; simp [] at e8 e9)
      simp (disch := omega) [e8, e9]
      exact lp (n) e
  ·have e0 : eqB op 0 = false := by rw [Qc]; exact h0
   have eS : rnG (Xy u) deep (.mk op n nl1 gty nl2 ks) = .mk op n nl1 gty nl2 (rnK (Xy u) op deep 0 ks) := by simp [rnG, h0]
   have hSl := Jn (Xy u) op deep ks 0
   rw [eS]
   simp (disch := omega) [Za8, Qv, Qt, e0]
   refine Qa CL (by simp) ?_
   simp (disch := omega) [e0]
   refine Wf ks.length 0 (fun i t h => t 10 = N i ∧ ∃ Qj ws tl, h = none :: none :: some [N 0, N 0, .sl true true 1 [], .sl true true 1 []] :: some [N op, N n, OU true false gty, KR Qj] :: tl ∧ Qu Qj = QS ws ∧ Wj 0 Qj ∧ nms ws = nms ((rnK (Xy u) op deep 0 ks).take i) ∧ fls ws)
    (fun t h => ∃ Qj ws tl, h = none :: none :: some [N 0, N 0, .sl true true 1 [], .sl true true 1 []] :: some [N op, N n, OU true false gty, KR Qj] :: tl ∧ Qu Qj = QS ws ∧ Wj 0 Qj ∧ nms ws = nms (rnK (Xy u) op deep 0 ks) ∧ fls ws) ⟨by simp, [], [], [], by simp [KR], by simp [QS, Qu], by simp, by simp, by simp [fls]⟩ (by omega) ?_ ?_
   ·rintro i t1 hh hf2 hi ⟨e10, Qj, ws, tl, rfl, hsh, hlo, hnm, hfw⟩
    (have e1 := hf2 1 (by kernel_rfl); have e3 := hf2 3 (by kernel_rfl); have e4 := hf2 4 (by kernel_rfl); have e6 := hf2 6 (by kernel_rfl); have e8 := hf2 8 (by kernel_rfl); have e9 := hf2 9 (by kernel_rfl); clear hf2; simp [] at e1 e3 e4 e6 e8 e9)
    by_cases h6 : i < ks.length
    ·have hb : ltB (i : Int) ks.length = true := by rw [Qi]; omega
     have hsk := Yt h6
     have hA := WV op i
     have hkf : (ks[i]).sk (nv + Qp op i) := by have := Zhn.1 hforms i h6; simpa using this
     have recu := ih ks[i] (nv + Qp op i) ((Qp op i).toNat + deep) (by omega) hkf (by omega) (by omega) (by omega)
     rw [show (((Qp op i).toNat + deep : Nat) : Int) = (deep : Int) + Qp op i by omega] at recu
     have hix := ZdL ks false nl2 i h6
     have hwl : ws.length = i := by
      have := Vl hnm
      rw [this, List.length_take]; omega
     have hrl : Qj.length = i := by rw [← WL, hsh, Ky, hwl]
     have hal := Zfb Qj
     simp (disch := omega) [e1, e3, e4, e6, e8, e9, e10, hb, hix, hal]
     refine Qa (Zdn op i) (by simp) ?_
     simp (disch := omega) [e1, e3, e4, e6, e8, e9, e10, Qf]
     refine Qh (Qd.low recu) (by simp) ?_
     rintro r2 ⟨⟨w, cs, rfl, hcs2, hwn, hwf⟩, lo2⟩
     obtain ⟨c0, c1, c2, c3, rfl⟩ := len4 (cs := cs) (by rw [← QJ, hcs2]; simp)
     have ap := KR_app (Qj := Qj) (r := [c0, c1, c2, c3]) (by omega)
     have hfl2 := ZpI (Qj ++ [[c0, c1, c2, c3]])
     have hce2 := Zog (Qj ++ [[c0, c1, c2, c3]])
     simp (disch := omega) [e1, e3, e4, e6, e8, e9, e10, Qm, ap, h6, Qf, hfl2, hce2]
     refine ⟨_, rfl, ws ++ [w], ?_, ?_, ?_, ZS.2 fun k hk => ?_⟩
     ·rw [Zac, ← hsh, ← hcs2]; simp [XQ, Xq]
     ·simp at lo2; simp [hlo, lo2]
     ·rw [KV, hnm, Zn0 h6, KV, hwn]
     ·rcases List.mem_append.1 hk with hk | hk
      ·exact ZS.1 hfw k hk
      ·simp at hk; subst hk; exact hwf
    ·have hb : ltB (i : Int) ks.length = false := by rw [Qg]; omega
     have e := List.take_of_length_le (l := rnK (Xy u) op deep 0 ks) (i := i) (by omega)
     rw [e] at hnm
     simp (disch := omega) [e4, e10, hb]
     exact ⟨Qj, rfl, ws, hsh, hlo, hnm, hfw⟩
   ·rintro t2 hh hf2 ⟨Qj, ws, tl, rfl, hsh, hlo, hnm, hfw⟩
    (have e8 := hf2 8 (by kernel_rfl); have e9 := hf2 9 (by kernel_rfl); clear hf2; simp [] at e8 e9)
    have hal := Zfb Qj
    simp (disch := omega) [e8, e9, hal]
    exact ⟨KR_low hlo, Zmr hsh hnm (nlT := false) (by simp) (by simp) hlo rfl hfw⟩
theorem Zb2 (g u : GTerm) (gw : g.wf) (uw : u.wf) (ufl : u.fl) : Qd Tryz.prog Zp [g.lv, N 0, u.lv] (Zif (JP g u)) := by
 refine Qd.of_codeOf Zb1 Qz (by simp) (ZgO _) ?_
 have z0 : ltB 0 0 = false := by rw [Qg]; omega
 simp (disch := omega) [J2, Qv, Qt]
 refine Qa (Kj g gw) (by simp) ?_
 cases h1 : g.writ
 ·simp (disch := omega) [JP, h1]
  exact ⟨_, rfl, rfl, rfl⟩
 ·simp (disch := omega)
  refine Qa (Kj u uw) (by simp) ?_
  cases h2 : u.writ
  ·simp (disch := omega) [JP, h1, h2]
   exact ⟨_, rfl, rfl, rfl⟩
  ·have k1 := h1
   have k2 := h2
   unfold GTerm.writ at k1 k2
   simp only [Bool.and_eq_true, decide_eq_true_eq] at k1 k2
   have gs := Vf g 8 gw k1.2
   have us := Vf u 8 uw k2.2
   have pw : (rnG (Xy u) 0 g).wf := ZlG (Xy u) 1000 (ZmL us (by omega) (by omega)) g 0 (by omega) gw
   have ps := Zm0 (u := u) g 0 8 gs
   have up := u.size_pos
   simp only [Int.natCast_zero] at ps
   have pm := l2Put_ok us ufl (by omega) (by omega) g.size g 8 0 (Nat.le_refl _) gs (by omega) (by omega) (by omega)
   simp only [Int.natCast_zero] at pm
   have mn := VD 0 8
   simp (disch := omega) [z0]
   refine Qa mn (by simp) ?_
   simp (disch := omega)
   refine Qa (ZqV g u gw uw k1.1 k2.1) (by simp) ?_
   cases hft : leB ((g.size : Int) + Jw 0 g * ((u.size : Int) - 1)) 400
   ·have hno : (rnG (Xy u) 0 g).writ = false := by
     rw [Qk] at hft
     unfold GTerm.writ
     have e1 : (Jw 0 g : Int) * ((u.size : Int) - 1) = ((Jw 0 g * u.size : Nat) : Int) - Jw 0 g := by
      rw [Int.mul_sub, Int.mul_one]; simp
     have : ¬ ((rnG (Xy u) 0 g).size ≤ 400) := by omega
     simp [this]
    simp (disch := omega) [JP, hno]
    exact ⟨_, rfl, rfl, rfl⟩
   ·simp (disch := omega)
    refine Qh (Qd.low pm) (by simp) ?_
    rintro r ⟨⟨w, cs, rfl, q2, q3, q4⟩, lo⟩
    have c4 : cs.length = 4 := by rw [← QJ, q2]; simp
    have cal := Xm q2
    have iw := Kj w (ZiI q3 pw)
    rw [ZpU q3] at iw
    simp (disch := omega) [c4, cal, q2, List.take_of_length_le, List.drop_of_length_le, Qt]
    refine Qa iw (by simp) ?_
    have l4 := cells_length w
    cases h3 : (rnG (Xy u) 0 g).writ
    ·simp (disch := omega) [JP, h1, h2, h3]
     exact ⟨_, rfl, rfl, rfl⟩
    ·simp (disch := omega) [JP, h1, h2, h3, c4, cal, q2, List.take_of_length_le, List.drop_of_length_le]
     exact ⟨_, rfl, w, w.cells, rfl, by simp, q3, q4⟩
end Go.Proofs.YtclfngbealdbgaaGreat
namespace Go.Proofs.YtclfngbealdbgaaGreat
open Go Go.TL
open Go.Proofs.YtclfngbealdbgaaGreat.Ty
set_option linter.unusedSimpArgs false
set_option linter.unusedVariables false
set_option linter.unusedSectionVars false
set_option maxRecDepth 20000
set_option maxHeartbeats 4000000
theorem Zk3 {deep : Int} {n : Nat} (h : 0 < deep) : bd deep n = 3 * T0 (deep - 1).toNat + 6 := by
 unfold bd
 rw [if_neg (by omega), Zqd h]
theorem arrow_of {size : Int} {l : List Int} (h : okL size l = true) (h0 : eqB (hd l) 0 = false) (h1 : eqB (hd l) 1 = false) (h2 : eqB (hd l) 2 = false) (h3 : W4 (hd l) = false) : QM (hd l) = true := by
 obtain ⟨c1, c2, c3, _⟩ := X8 h
 rw [Qc] at h0 h1 h2
 simp [W4] at h3
 simp [QM]
 omega
section
variable (D : Dr) (ok : D.ok)
include ok
theorem dOf_ok {s : GSys} (hsy : s.sys = true) : ∀ f : Nat, DOf D s f := by
 intro f
 induction f with
 | zero =>
  intro nlc ctx ty deep hc hf hty hm
  have := QG hty
  omega
 | succ f H =>
 intro nlc ctx ty deep hc hf hty hm hd4 hlo
 have t := GSys.sys_of hsy
 have h16 := t.hi
 have h40 := QG hty
 have hs : 1 ≤ s.size ∧ s.size ≤ 16 := ⟨by have := t.lo; omega, h16⟩
 have hdI : I64 (deep - 1) := by unfold I64; omega
 have hx := hd_at h40.1
 obtain ⟨q1, q2, q3, q4, _⟩ := X8 hty
 refine WJ.of_codeOf ZoB Qz (by simp) (ZlY (Zi7 h40.1)) ?_
 intro h1 h3 ct i k hct hk
 simp only [Ziv]
 rw [Zgr]
 refine Zdl (fun t' h' => t' 6 = .rp s.cells ∧ t' 10 = .ptr (h1.length + (h3.length + 1 + 1)) 0 ∧
  ∃ i' k', Yd D i' k' ∧ h' = h1 ++ some [ct, N i', N k'] :: (h3 ++ [none, some [N 0, N 0, .sl true true 1 [], .sl true true 1 []]])) ?_ ?_
 ·simp (disch := omega) [Qv, Qt]
  refine Qq (W9 D ok 5 (by unfold I64; omega)) hct hk ?_
  rintro r i0 k0 hk0 ⟨m, rfl, hm0, hm1, _⟩
  simp (disch := omega)
  (with_reducible first | refine Qo (fun u1 => ?_) (fun u1 => ?_) | refine Qn (fun u1 => ?_) (fun u1 => ?_))
  ·simp (disch := omega)
   refine Qq (W9 D ok ctx.length (by unfold I64; omega)) hct hk0 ?_
   rintro r i1 k1 hk1 ⟨fr, rfl, f0, f1, f2⟩
   simp (disch := omega)
   refine Wf ctx.length 0 (fun j t h => t 12 = N j ∧ h = h1 ++ some [ct, N i1, N k1] :: (h3 ++ [none, some [N 0, N 0, .sl true true 1 [], .sl true true 1 []]]))
    (fun t h => h = h1 ++ some [ct, N i1, N k1] :: (h3 ++ [none, some [N 0, N 0, .sl true true 1 [], .sl true true 1 []]])) ⟨by simp, rfl⟩ (by omega) ?_ ?_
   ·rintro j t1 hh hf' hj ⟨e12, rfl⟩
    (have e2 := hf' 2 (by kernel_rfl); have e3 := hf' 3 (by kernel_rfl); have e6 := hf' 6 (by kernel_rfl); have e10 := hf' 10 (by kernel_rfl); have e11 := hf' 11 (by kernel_rfl); clear hf'; simp [] at e2 e3 e6 e10 e11)
    by_cases h6 : j < ctx.length
    ·have hb : ltB (j : Int) ctx.length = true := by rw [Qi]; omega
     have hz : ctx ≠ [] := by rintro rfl; simp at h6
     obtain ⟨p, hp, hpl⟩ : ∃ p : Nat, (fr + (j : Int)).tmod ctx.length = p ∧ p < ctx.length := by
      obtain ⟨z0, z1⟩ := Zof (m := fr + j) (k := ctx.length) (by omega) (by omega)
      exact ⟨((fr + (j : Int)).tmod ctx.length).toNat, by omega, by omega⟩
     have hix := ZbN ctx nlc p hpl
     have hoc := hc.1 _ (List.getElem_mem hpl)
     have hof := hc.2 _ (List.getElem_mem hpl)
     have hlc := QG hoc
     generalize ctx[p] = c at hix hoc hof hlc
     obtain ⟨cn, cl⟩ := c
     simp only at hof hoc hlc
     subst hof
     simp (disch := omega) [e2, e3, e6, e10, e11, e12, hb, Qf, V4, hz, hp, hix]
     refine Qa (ZaZ false false cl ty (by omega)) (by simp) ?_
     cases cl == ty
     ·simp (disch := omega) [e12, Qf]
      omega
     ·simp (disch := omega)
      refine Qa (Zbm 0 p true [] (by simp) (by simp)) (by simp) ?_
      simp (disch := omega) [e10]
      have vok : TmOk s ctx.length (bd deep ty.length) (.mk 0 p true [] true []) := TmOk.k0 (by omega) (Zmj (by omega)) (by unfold I64; omega) (by simp [Lok]) (by simp [ZJ]) (Zi7 h40.1)
      exact Z9 (.inr rfl) (by simp [e10]) rfl rfl hk1 (by simp) (Zet vok)
    ·have hb : ltB (j : Int) ctx.length = false := by rw [Qg]; omega
     simp (disch := omega) [e2, e12, hb]
   ·rintro t1 hh hf' rfl
    (have e6 := hf' 6 (by kernel_rfl); have e10 := hf' 10 (by kernel_rfl); clear hf'; simp [] at e6 e10)
    simp (disch := omega) [e6, e10]
    exact hk1
  ·simp (disch := omega)
   exact hk0
 ·rintro t1 hh hf ⟨a6, a10, i1, k1, hk1, rfl⟩
  (have e0 := hf 0 (by kernel_rfl); have e2 := hf 2 (by kernel_rfl); have e3 := hf 3 (by kernel_rfl); have e4 := hf 4 (by kernel_rfl); clear hf; simp [] at e0 e2 e3 e4)
  have ok1 := ZO D ok 3 (by unfold I64; omega)
  refine Zdl (fun t' h' => (t' 0 = .ptr h1.length 0 ∧ t' 2 = LC nlc ctx ∧ t' 3 = L false ty) ∧ ∃ i' k', Yd D i' k' ∧ h' = h1 ++ some [ct, N i', N k'] :: (h3 ++ [none, some [N 0, N 0, .sl true true 1 [], .sl true true 1 []]])) ?_ ?_
  ·by_cases hdp : 0 < deep
   ·have hb : ltB 0 deep = true := by rw [Qi]; exact hdp
    have ar := ZoU D ok hsy H nlc ctx ty (deep - 1) hc (by omega) hty (by omega) (by omega) (by omega)
    simp (disch := omega) [e0, e2, e3, e4, a6, a10, hb]
    refine Qq ok1 hct hk1 ?_
    rintro r i2 k2 hk2 ⟨b, rfl⟩
    cases b
    ·simp (disch := omega) [e0, e2, e3, e4, a6, a10, hb]
     exact hk2
    ·simp (disch := omega) [e0, e2, e3, e4, a6, a10, hb, Qf]
     refine Qq ar hct hk2 ?_
     rintro r i3 k3 hk3 hr
     rw [← Zk3 (n := ty.length) hdp] at hr
     obtain ⟨w, cs, rfl, c4, csh, clo, cal, cok⟩ := hr.el
     simp (disch := omega) [e0, e2, e3, e4, a6, a10, c4]
     exact Z9 (.inr rfl) (by simp [a10]) rfl c4 hk3 (by simp [clo]) hr
   ·have hb : ltB 0 deep = false := by rw [Qg]; omega
    simp (disch := omega) [e0, e2, e3, e4, a6, a10, hb]
    exact hk1
  ·rintro t2 hh hf ⟨⟨g0, g2, g3⟩, i2, k2, hk2, rfl⟩
   (have g4 := hf 4 (by kernel_rfl); have g6 := hf 6 (by kernel_rfl); have g10 := hf 10 (by kernel_rfl); clear hf; simp [e4, a6, a10] at g4 g6 g10)
   clear e0 e2 e3 e4 a6 a10
   refine Zdl (fun t' h' => t' 14 = N (hd ty) ∧ h' = h1 ++ some [ct, N i2, N k2] :: (h3 ++ [none, some [N 0, N 0, .sl true true 1 [], .sl true true 1 []]])) ?_ ?_
   ·simp (disch := omega) [g3, hx]
   ·rintro t3 hh hf ⟨e14, rfl⟩
    (have f0 := hf 0 (by kernel_rfl); have f2 := hf 2 (by kernel_rfl); have f3 := hf 3 (by kernel_rfl); have f4 := hf 4 (by kernel_rfl); have f6 := hf 6 (by kernel_rfl); have f10 := hf 10 (by kernel_rfl); clear hf; simp [g0, g2, g3, g4, g6, g10] at f0 f2 f3 f4 f6 f10)
    clear g0 g2 g3 g4 g6 g10
    have step1 : ∀ (l : List Int), okL s.size l = true → l.length < ty.length ∨ 0 < deep → WJ Tryz.prog D QN [s.lv, LC nlc ctx, L false l, N (deep - 1)] (isD s ctx.length (bd (deep - 1) l.length)) := fun l hl hlt => by
     have := QG hl
     exact H nlc ctx l (deep - 1) hc (by omega) hl (by omega) (by omega) (by omega)
    by_cases z0 : hd ty = 0
    ·
     have z0b : eqB (hd ty) 0 = true := by rw [Qe]; exact z0
     have num : ∀ (i' k' : Int), Yd D i' k' → ∀ m : Int, 0 ≤ m ∧ m < 3 → isD s ctx.length (bd deep ty.length) (.agg [N 1, N m, .sl true true 1 [], .sl false true 4 []]) := fun i' k' hk' m hm =>
      Zet (ks := []) (TmOk.k0 (by omega) (ZoC hm) (by unfold I64; omega) (by simp [Lok]) (by simp [ZJ]) (Zi7 h40.1))
     by_cases hdp : 0 < deep
     ·have hb : ltB 0 deep = true := by rw [Qi]; exact hdp
      simp (disch := omega) [f0, f2, f3, f4, f6, f10, e14, z0b, hb]
      refine Qq (ZO D ok 2 (by unfold I64; omega)) hct hk2 ?_
      rintro r i3 k3 hk3 ⟨b, rfl⟩
      cases b
      ·simp (disch := omega) [f0, f2, f3, f4, f6, f10, e14, z0b, hb]
       refine Qq (W9 D ok 3 (by unfold I64; omega)) hct hk3 ?_
       rintro r i4 k4 hk4 ⟨m, rfl, m0, m1, _⟩
       simp (disch := omega)
       refine Qa (Zbm 1 m true [] (by simp) (by simp)) (by simp) ?_
       simp (disch := omega) [f10]
       exact Z9 (.inr rfl) (by simp [f10]) rfl rfl hk4 (by simp) (num i4 k4 hk4 m ⟨m0, m1 (by omega)⟩)
      ·simp (disch := omega) [f0, f2, f3, f4, f6, f10, e14, z0b, hb, Qf]
       refine Qq (step1 ty hty (.inr hdp)) hct hk3 ?_
       rintro r i4 k4 hk4 hr
       obtain ⟨w1, cs1, rfl, a4, ash, alo, aal, aok⟩ := hr.el
       simp (disch := omega) [f0, f2, f3, f4, f6, f10, Qf]
       refine Qq (step1 ty hty (.inr hdp)) hct hk4 ?_
       rintro r i5 k5 hk5 hr
       obtain ⟨w2, cs2, rfl, b4, bsh, blo, bal, bok⟩ := hr.el
       have n1 := ZkO (deep := deep - 1) (n := ty.length) h40.2
       have n2 := Zk3 (n := ty.length) hdp
       simp (disch := omega) [a4, b4, ash, bsh, aal, bal, List.take_append, List.drop_append, List.take_of_length_le, List.drop_of_length_le, Qm, Qu]
       refine Qa (ZcN 2 0 w1 w2) (by simp) ?_
       simp (disch := omega) [f10]
       refine Z9 (.inr rfl) (by simp [f10]) rfl rfl hk5 (by simp) (Zbw ?_)
       refine TmOk.k2 (by omega) (Zip (by simp)) (by unfold I64; omega) (by simp [Lok]) (by simp [ZJ]) aok (by simp [Qp]) bok (by simp [Qp]) (by omega)
     ·have hb : ltB 0 deep = false := by rw [Qg]; omega
      simp (disch := omega) [f0, f2, f3, f4, f6, f10, e14, z0b, hb]
      refine Qq (W9 D ok 3 (by unfold I64; omega)) hct hk2 ?_
      rintro r i4 k4 hk4 ⟨m, rfl, m0, m1, _⟩
      simp (disch := omega)
      refine Qa (Zbm 1 m true [] (by simp) (by simp)) (by simp) ?_
      simp (disch := omega) [f10]
      exact Z9 (.inr rfl) (by simp [f10]) rfl rfl hk4 (by simp) (num i4 k4 hk4 m ⟨m0, m1 (by omega)⟩)
    have z0b : eqB (hd ty) 0 = false := by rw [Qc]; exact z0
    by_cases z1 : hd ty = 1
    ·
     have z1b : eqB (hd ty) 1 = true := by rw [Qe]; exact z1
     have kk : Wv (hd ty) = some 2 := by rw [z1]; exact Xo.1
     obtain ⟨el, oa, ob⟩ := JQ hty kk
     have hlen : ty.length = 1 + (QI ty).length + (Ws ty).length := by
      conv => lhs; rw [el]
      simp; omega
     have pa := XM hty 0 (.inr kk)
     have pb := XM hty 1 (.inr kk)
     simp only [if_true, if_neg (show (1 : Int) ≠ 0 by decide)] at pa pb
     simp (disch := omega) [f0, f2, f3, f4, f6, f10, e14, z0b, z1b]
     refine Qa pa (by simp) ?_
     simp (disch := omega) [f0, f2, f3, f4, f6, f10, Qf]
     refine Qq (step1 _ oa (.inl (by omega))) hct hk2 ?_
     rintro r i4 k4 hk4 hr
     obtain ⟨w1, cs1, rfl, a4, ash, alo, aal, aok⟩ := hr.el
     simp (disch := omega) [f0, f2, f3, f4, f6, f10, Qf]
     refine Qa pb (by simp) ?_
     simp (disch := omega) [f0, f2, f3, f4, f6, f10, Qf]
     refine Qq (step1 _ ob (.inl (by omega))) hct hk4 ?_
     rintro r i5 k5 hk5 hr
     obtain ⟨w2, cs2, rfl, b4, bsh, blo, bal, bok⟩ := hr.el
     simp (disch := omega) [a4, b4, ash, bsh, aal, bal, List.take_append, List.drop_append, List.take_of_length_le, List.drop_of_length_le, Qm, Qu]
     refine Qa (ZcN 4 0 w1 w2) (by simp) ?_
     simp (disch := omega) [f10]
     refine Z9 (.inr rfl) (by simp [f10]) rfl rfl hk5 (by simp) (Zbw ?_)
     refine TmOk.k2 (by omega) (Zip (by simp)) (by unfold I64; omega) (by simp [Lok]) (by simp [ZJ]) aok (by simp [Qp]) bok (by simp [Qp]) (bd_two (by omega) h40.2)
    have z1b : eqB (hd ty) 1 = false := by rw [Qc]; exact z1
    by_cases z2 : hd ty = 2
    ·
     have z2b : eqB (hd ty) 2 = true := by rw [Qe]; exact z2
     have kk : Wv (hd ty) = some 2 := by rw [z2]; exact Xo.2
     obtain ⟨el, oa, ob⟩ := JQ hty kk
     have hlen : ty.length = 1 + (QI ty).length + (Ws ty).length := by
      conv => lhs; rw [el]
      simp; omega
     have pa := XM hty 0 (.inr kk)
     have pb := XM hty 1 (.inr kk)
     simp only [if_true, if_neg (show (1 : Int) ≠ 0 by decide)] at pa pb
     simp (disch := omega) [f0, f2, f3, f4, f6, f10, e14, z0b, z1b, z2b]
     refine Qq (ZO D ok 2 (by unfold I64; omega)) hct hk2 ?_
     rintro r i3 k3 hk3 ⟨b, rfl⟩
     cases b
     ·simp (disch := omega) [f0, f2, f3, f4, f6, f10, e14, z0b, z1b, z2b]
      refine Qa pa (by simp) ?_
      simp (disch := omega) [f0, f2, f3, f4, f6, f10, Qf]
      refine Qa pb (by simp) ?_
      simp (disch := omega) [f0, f2, f3, f4, f6, f10, Qf]
      refine Qq (step1 _ ob (.inl (by omega))) hct hk3 ?_
      rintro r i4 k4 hk4 hr
      obtain ⟨w1, cs1, rfl, a4, ash, alo, aal, aok⟩ := hr.el
      simp (disch := omega) [f10, a4, ash, aal, List.take_append, List.drop_append, List.take_of_length_le, List.drop_of_length_le, Qm, Qu]
      refine Z9 (.inr rfl) (by simp [f10]) rfl rfl hk4 (by simp [alo]) (Zlx (nlT := false) (ty := QI ty) (ks := [w1]) (by simp) (by simp) (by simp) (by simp [Qu, ash, QS]) (by simp [alo]) ?_)
      exact TmOk.k1 (by omega) (nd_ty oa (by simp)) (by unfold I64; omega) (ZbB (JT oa)) (by simp [ZJ]) aok (by simp [Qp]) (Zmi (by omega) h40.2)
     ·simp (disch := omega) [f0, f2, f3, f4, f6, f10, e14, z0b, z1b, z2b]
      refine Qa pb (by simp) ?_
      simp (disch := omega) [f0, f2, f3, f4, f6, f10, Qf]
      refine Qa pa (by simp) ?_
      simp (disch := omega) [f0, f2, f3, f4, f6, f10, Qf]
      refine Qq (step1 _ oa (.inl (by omega))) hct hk3 ?_
      rintro r i4 k4 hk4 hr
      obtain ⟨w1, cs1, rfl, a4, ash, alo, aal, aok⟩ := hr.el
      simp (disch := omega) [f10, a4, ash, aal, List.take_append, List.drop_append, List.take_of_length_le, List.drop_of_length_le, Qm, Qu]
      refine Z9 (.inr rfl) (by simp [f10]) rfl rfl hk4 (by simp [alo]) (Zlx (nlT := false) (ty := Ws ty) (ks := [w1]) (by simp) (by simp) (by simp) (by simp [Qu, ash, QS]) (by simp [alo]) ?_)
      exact TmOk.k1 (by omega) (nd_ty ob (by simp)) (by unfold I64; omega) (ZbB (JT ob)) (by simp [ZJ]) aok (by simp [Qp]) (Zmi (by omega) h40.2)
    have z2b : eqB (hd ty) 2 = false := by rw [Qc]; exact z2
    simp (disch := omega) [f0, f2, f3, f4, f6, f10, e14, z0b, z1b, z2b]
    refine Qa (Zms (hd ty)) (by simp) ?_
    cases hbx : W4 (hd ty)
    ·
     have ha := arrow_of hty z0b z1b z2b hbx
     simp (disch := omega) [f0, f2, f3, f4, f6, f10, e14]
     refine Qq (dFun_ok D ok hsy H nlc ctx ty deep hc (by omega) hty ha hm hd4 hlo) hct hk2 ?_
     rintro r i4 k4 hk4 hr
     obtain ⟨w1, cs1, rfl, a4, ash, alo, aal, aok⟩ := hr.el
     simp (disch := omega) [f10, a4]
     exact Z9 (.inr rfl) (by simp [f10]) rfl a4 hk4 (by simp [alo]) hr
    ·
     have kk := Zdk hbx
     obtain ⟨el, _, oa⟩ := Zhp hty kk
     have hlen : ty.length = 1 + (QI ty).length := by
      conv => lhs; rw [el]
      simp; omega
     have hg := Ke q1 (.inr hbx)
     have pa := XM hty 0 (.inl kk)
     simp only [if_true] at pa
     simp (disch := omega) [f0, f2, f3, f4, f6, f10, e14]
     refine Qa (ZcJ (hd ty) (by unfold I64; omega) q2) (by simp) ?_
     simp (disch := omega) [f0, f2, f3, f4, f6, f10, e14]
     refine Qa pa (by simp) ?_
     simp (disch := omega) [f0, f2, f3, f4, f6, f10, Qf]
     refine Qq (step1 _ oa (.inl (by omega))) hct hk2 ?_
     rintro r i4 k4 hk4 hr
     obtain ⟨w1, cs1, rfl, a4, ash, alo, aal, aok⟩ := hr.el
     simp (disch := omega) [f10, a4, ash, aal, List.take_append, List.drop_append, List.take_of_length_le, List.drop_of_length_le, Qm, Qu]
     refine Qa (op1_ok 11 (W1 (hd ty)) w1) (by simp) ?_
     simp (disch := omega) [f10]
     refine Z9 (.inr rfl) (by simp [f10]) rfl rfl hk4 (by simp) (isD_op1 ?_)
     exact TmOk.k1 (by omega) (ZlM hg (by simp)) (GI h16 hg) (by simp [Lok]) (by simp [ZJ]) aok (by simp [Qp]) (Zmi (by omega) h40.2)
end
end Go.Proofs.YtclfngbealdbgaaGreat
namespace Go.Proofs.YtclfngbealdbgaaGreat
open Go Go.TL
open Go.Proofs.YtclfngbealdbgaaGreat.Ty
set_option linter.unusedSimpArgs false
set_option linter.unusedVariables false
set_option linter.unusedSectionVars false
set_option maxRecDepth 20000
set_option maxHeartbeats 4000000
section
variable (D : Dr) (ok : D.ok)
include ok
theorem Zhs {s : GSys} (hsy : s.sys = true) (nlc : Bool) (ctx : Wx) (ty : List Int) (deep : Int) (hc : YF s ctx) (hf : ctx.length ≤ 100) (hty : okL s.size ty = true) (hd0 : 0 ≤ deep) (hd4 : deep ≤ 4) :
  WJ Tryz.prog D QN [s.lv, LC nlc ctx, L false ty, N deep] (isD s ctx.length 3480) := by
 have h := QG hty
 exact (dOf_ok D ok hsy 204 nlc ctx ty deep hc (by omega) hty (by omega) hd4 (by omega)).mono fun r hr => hr.mono (bd_max h.2 hd4)
theorem dIn_ok {s : GSys} (hsy : s.sys = true) (nlc : Bool) (ctx : Wx) (deep : Int) (data : Bool) (hc : YF s ctx) (hf : ctx.length ≤ 100) (hd0 : 0 ≤ deep) (hd4 : deep ≤ 4) :
  WJ Tryz.prog D Zeu [s.lv, LC nlc ctx, N deep, B data] (isD s ctx.length 400) := by
 have t := GSys.sys_of hsy
 have h16 := t.hi
 have hs : 1 ≤ s.size ∧ s.size ≤ 16 := ⟨by have := t.lo; omega, h16⟩
 refine WJ.of_codeOf ZoQ Qz (by simp) (ZlY (by omega)) ?_
 intro h1 h3 ct i k hct hk
 simp (disch := omega) [ZiO, Qv, Qt]
 refine Qq (Zz D ok s hs data 2 (by omega)) hct hk ?_
 rintro r i1 k1 hk1 ⟨l, rfl, hl⟩
 have ol := Zr hl (by omega)
 simp (disch := omega)
 refine Qq (Zhs D ok hsy nlc ctx l deep hc hf ol hd0 hd4) hct hk1 ?_
 rintro r i2 k2 hk2 hr
 obtain ⟨w, cs, rfl, c4, csh, clo, cal, cok⟩ := hr.el
 simp (disch := omega) [c4, csh, cal]
 refine Wf 3 0 (fun j t h => t 12 = N j ∧ HasT D s ctx.length 3480 h1 h3 ct [none, some [N 0, N 0, .sl true true 1 [], .sl true true 1 []]] h)
  (fun t h => HasT D s ctx.length 3480 h1 h3 ct [none, some [N 0, N 0, .sl true true 1 [], .sl true true 1 []]] h) ⟨by simp, i2, k2, w, cs, hk2, c4, csh, clo, cal, cok, rfl⟩ (by omega) ?_ ?_
 ·clear hr cok cal clo csh c4 hk2
  rintro j t1 hh hf' hj ⟨e12, i1, k1, w, cs, hk1, c4, csh, clo, cal, cok, rfl⟩
  have c4t : List.take 4 cs = cs := List.take_of_length_le (Nat.le_of_eq c4)
  have c4d : List.drop 4 cs = [] := List.drop_of_length_le (Nat.le_of_eq c4)
  have csz := cok.size
  (have e0 := hf' 0 (by kernel_rfl); have e2 := hf' 2 (by kernel_rfl); have e3 := hf' 3 (by kernel_rfl); have e4 := hf' 4 (by kernel_rfl); have e6 := hf' 6 (by kernel_rfl); have e10 := hf' 10 (by kernel_rfl); have e11 := hf' 11 (by kernel_rfl); clear hf'; simp [] at e0 e2 e3 e4 e6 e10 e11)
  by_cases h6 : j < 3
  ·have hb : ltB (j : Int) 3 = true := by rw [Qi]; omega
   have lf := Vq w.size w (Nat.le_refl _) cok.wf 120 (by omega) (by omega)
   have tl := ZfY hsy w.size w nlc ctx (Nat.le_refl _) cok.wf cok.fl hc.1 hc.2 (by omega) cok.form
   have mn : 0 ≤ min deep 2 ∧ min deep 2 ≤ 2 := by omega
   have c4l : 4 ≤ cs.length := Nat.le_of_eq c4.symm
   simp (disch := omega) [e0, e2, e3, e4, e6, e10, e11, e12, hb, c4, c4t, c4d, csh, cal]
   refine Qa lf (by simp) ?_
   by_cases hsz : w.size ≤ 120
   ·have hl0 : leB 0 (ZF w.size 120) = true := by
     rw [Ql]; unfold ZF; split <;> omega
    simp (disch := omega) [e0, e2, e3, e4, e6, e10, e11, e12, hb, c4, c4t, c4d, csh, cal, hl0]
    refine Qh (Qd.low tl) (by simp) ?_
    cases hT : Qr s (ctx.map Prod.snd) w with
    | ok x =>
     rintro r ⟨⟨u1, u2, u4, n4, rfl⟩, lo⟩
     have h0 : eqB 0 0 = true := by rw [Qe]
     simp (disch := omega) [e0, e2, e3, e4, e6, e10, e11, e12, c4, c4t, c4d, csh, cal, h0, fldLV]
     exact Z9 (.inr rfl) (by first | exact e10 | simp [e10]) rfl c4 hk1 clo ⟨w, cs, rfl, csh, clo, cal, cok.wf, cok.fl, cok.form, by omega⟩
    | bad f p =>
     rintro r ⟨⟨hf0, u1, u2, u4, n4, rfl⟩, lo⟩
     have h0 : eqB f 0 = false := by rw [Qc]; exact hf0
     simp (disch := omega) [e0, e2, e3, e4, e6, e10, e11, e12, c4, c4t, c4d, csh, cal, h0, fldLV]
     refine Qq (Zz D ok s hs data 1 (by omega)) hct hk1 ?_
     rintro r i2 k2 hk2 ⟨l', rfl, hl'⟩
     have ol' := Zr hl' (by omega)
     simp (disch := omega) [e0, e2, e3, e4, e6, e10, e11, e12]
     refine Qa (VD deep 2) (by simp) ?_
     simp (disch := omega) [e0, e2, e3, e4, e6, e10, e11, e12]
     refine Qq (Zhs D ok hsy nlc ctx l' (min deep 2) hc hf ol' mn.1 (by omega)) hct hk2 ?_
     rintro r i3 k3 hk3 hr2
     obtain ⟨w2, cs2, rfl, d4, dsh, dlo, dal, dok⟩ := hr2.el
     have d4t : List.take 4 cs2 = cs2 := List.take_of_length_le (Nat.le_of_eq d4)
     simp (disch := omega) [e0, e2, e3, e4, e6, e10, e11, e12, c4, c4l, c4d, d4, d4t, Qf]
     exact ⟨by omega, i3, k3, w2, cs2, hk3, d4, dsh, dlo, dal, dok, rfl⟩
   ·have hl0 : leB 0 (ZF w.size 120) = false := by
     rw [Qk]; unfold ZF; split <;> omega
    simp (disch := omega) [e0, e2, e3, e4, e6, e10, e11, e12, hb, c4, c4t, c4d, csh, cal, hl0]
    refine Qq (Zz D ok s hs data 1 (by omega)) hct hk1 ?_
    rintro r i2 k2 hk2 ⟨l', rfl, hl'⟩
    have ol' := Zr hl' (by omega)
    simp (disch := omega) [e0, e2, e3, e4, e6, e10, e11, e12]
    refine Qa (VD deep 2) (by simp) ?_
    simp (disch := omega) [e0, e2, e3, e4, e6, e10, e11, e12]
    refine Qq (Zhs D ok hsy nlc ctx l' (min deep 2) hc hf ol' mn.1 (by omega)) hct hk2 ?_
    rintro r i3 k3 hk3 hr2
    obtain ⟨w2, cs2, rfl, d4, dsh, dlo, dal, dok⟩ := hr2.el
    have d4t : List.take 4 cs2 = cs2 := List.take_of_length_le (Nat.le_of_eq d4)
    simp (disch := omega) [e0, e2, e3, e4, e6, e10, e11, e12, c4, c4l, c4d, d4, d4t, Qf]
    exact ⟨by omega, i3, k3, w2, cs2, hk3, d4, dsh, dlo, dal, dok, rfl⟩
  ·have hb : ltB (j : Int) 3 = false := by rw [Qg]; omega
   simp (disch := omega) [e0, e2, e3, e4, e6, e10, e11, e12, hb]
   exact ⟨i1, k1, w, cs, hk1, c4, csh, clo, cal, cok, rfl⟩
 ·clear hr cok cal clo csh c4 hk2
  rintro t1 hh hf' ⟨i1, k1, w, cs, hk1, c4, csh, clo, cal, cok, rfl⟩
  have c4t : List.take 4 cs = cs := List.take_of_length_le (Nat.le_of_eq c4)
  have c4d : List.drop 4 cs = [] := List.drop_of_length_le (Nat.le_of_eq c4)
  have csz := cok.size
  have lf := Vq w.size w (Nat.le_refl _) cok.wf 400 (by omega) (by omega)
  (have e10 := hf' 10 (by kernel_rfl); have e11 := hf' 11 (by kernel_rfl); clear hf'; simp [] at e10 e11)
  simp (disch := omega) [e10, e11, c4, csh, cal, c4t, c4d]
  refine Qa lf (by simp) ?_
  by_cases hsz : w.size ≤ 400
  ·have hl0 : ltB (ZF w.size 400) 0 = false := by
    rw [Qg]; unfold ZF; split <;> omega
   simp (disch := omega) [e10, e11, c4, csh, cal, c4t, c4d, hl0]
   exact Z9 (.inr rfl) (by simp [e10]) rfl c4 hk1 (by simp [clo]) ⟨w, cs, rfl, csh, clo, cal, cok.wf, cok.fl, cok.form, by omega⟩
  ·have hl0 : ltB (ZF w.size 400) 0 = true := by
    rw [Qi]; unfold ZF; split <;> omega
   have c4l : 4 ≤ cs.length := Nat.le_of_eq c4.symm
   simp (disch := omega) [e10, e11, c4, csh, cal, c4t, c4d, hl0]
   refine Qa (Zbm 1 1 true [] (by simp) (by simp)) (by simp) ?_
   simp (disch := omega) [e10, e11, c4, c4l, c4d]
   exact Z9 (.inr rfl) (by simp [e10]) rfl rfl hk1 (by simp) (Zet (ks := []) (TmOk.k0 (by omega) (ZoC (by omega)) (by unfold I64; omega) (by simp [Lok]) (by simp [ZJ]) (by omega)))
end
end Go.Proofs.YtclfngbealdbgaaGreat
namespace Go.Proofs.YtclfngbealdbgaaGreat
open Go Go.TL
open Go.Proofs.YtclfngbealdbgaaGreat.Ty
set_option linter.unusedSimpArgs false
set_option linter.unusedVariables false
set_option linter.unusedSectionVars false
set_option maxRecDepth 20000
set_option maxHeartbeats 4000000
theorem ZqK {a : Int} (h0 : 0 ≤ a) (h1 : a ≤ 1099511627776) : Xi .num .quo (N a) (N 60) = some (N (a / 60)) := by
 simp only [Xi, ZZ]
 simp (disch := omega) [Int.tdiv_eq_ediv_of_nonneg h0, Qf]
theorem dDeep_ok (D : Dr) (ok : D.ok) : Qd Tryz.prog Zbc [D.lv] (fun r => ∃ m : Int, r = N m ∧ 2 ≤ m ∧ m ≤ 4) := by
 refine Qd.of_codeOf ZmB Qz (by simp) ⟨N 2, ⟨2, rfl, by omega, by omega⟩, by simp⟩ ?_
 have hlen := ok.len
 have hq := ZqK (a := D.bs.length) (by omega) (by omega)
 simp (disch := omega) [ZeR, hq]
 refine Qa (VD _ 2) (by simp) ?_
 have h0 : 0 ≤ (D.bs.length : Int) / 60 := by omega
 simp (disch := omega) [Qf]
 omega
theorem DS.cells (d : DS) : ∃ cs, d.lv = .agg cs ∧ cs.length = 4 ∧ Wz cs = true ∧ QE 0 cs ∧ shareAll cs = d.sys.cells := by
 have sd := DS.share d
 cases d
 all_goals
  refine ⟨_, rfl, rfl, rfl, by simp, ?_⟩
  simp only [DS.lv, share] at sd
  injection sd
end Go.Proofs.YtclfngbealdbgaaGreat
namespace Go.Proofs.YtclfngbealdbgaaGreat
open Go Go.TL
open Go.Proofs.YtclfngbealdbgaaGreat.Ty
set_option linter.unusedSimpArgs false
set_option linter.unusedVariables false
set_option linter.unusedSectionVars false
set_option maxRecDepth 20000
set_option maxHeartbeats 4000000
section
variable {s : GSys} (hs : s.sys = true) (hw : s.wf) {a b : Int} (ha : s.G a) (hb : s.G b)
include hs hw ha hb
theorem Zjj : Qd Tryz.prog KL [s.lv, N a, N b] (· = B true) := by
 refine Qd.of_codeOf Znt Qz (by simp) ⟨_, rfl, by simp⟩ ?_
 have t := GSys.sys_of hs
 have h2 := t.lo; have h16 := t.hi
 have hI : I64 s.size := by unfold I64; omega
 have w1 : QW a 0 (s.size - 1) = true := by rw [QV]; have := ha.1; have := ha.2; omega
 have w2 : QW b 0 (s.size - 1) = true := by rw [QV]; have := hb.1; have := hb.2; omega
 simp (disch := omega) [ZgG, Qv, Qt]
 refine Qa (ZiN s hI (by omega) a) (by simp) ?_
 rw [w1]
 simp (disch := omega)
 refine Qa (ZiN s hI (by omega) b) (by simp) ?_
 rw [w2]
 simp (disch := omega)
 refine Qa (ZbQ s hw) (by simp) ?_
 rw [hs]
 simp (disch := omega)
theorem ZlL : Qd Tryz.prog Km [s.lv, N a, N b] (· = N (s.pl a b)) := by
 refine Qd.of_codeOf Zgn Qz (by simp) ⟨_, rfl, by simp⟩ ?_
 have t := GSys.sys_of hs
 simp (disch := omega) [Zaz, Qv, Qt]
 refine Qa (Zjj hs hw ha hb) (by simp) ?_
 simp (disch := omega)
 refine Qa (Zdf t ha hb) (by simp) ?_
 simp (disch := omega)
theorem Zfv : Qd Tryz.prog Zn [s.lv, N a, N b] (· = N (s.tm a b)) := by
 refine Qd.of_codeOf Zb5 Qz (by simp) ⟨_, rfl, by simp⟩ ?_
 have t := GSys.sys_of hs
 simp (disch := omega) [JZ, Qv, Qt]
 refine Qa (Zjj hs hw ha hb) (by simp) ?_
 simp (disch := omega)
 refine Qa (Zca t ha hb) (by simp) ?_
 simp (disch := omega)
theorem ZoI : Qd Tryz.prog VK [s.lv, N a, N b] (· = B (s.le a b)) := by
 refine Qd.of_codeOf ZiC Qz (by simp) ⟨_, rfl, by simp⟩ ?_
 have t := GSys.sys_of hs
 simp (disch := omega) [Zcd, Qv, Qt]
 refine Qa (Zjj hs hw ha hb) (by simp) ?_
 simp (disch := omega)
 refine Qa (JU t ha hb) (by simp) ?_
 simp (disch := omega)
end
theorem Zie (nlc : Bool) (ctx : Wx) (a : List Int) (hc : ctx.length ≤ 1000000) : Qd Tryz.prog Vg [LC nlc ctx, L false a] (· = .sl true false 1 (((false, a) :: ctx).map fun x => [eC x])) := by
 refine Qd.of_codeOf ZlJ Qz (by simp) ⟨_, rfl, by simp⟩ ?_
 have h2 : 1 + ctx.length ≤ most := by unfold most; omega
 simp (disch := omega) [ZeQ, Qm, WN, h2]
theorem Ju {P : Program} {D : Dr} {K : St → Prop} {d : Nat} {f : FuncId} {rest : List LV} {Q : LV → Prop} {t : Nat → LV} {a b c : Box} {h3 : List Box} {ct : LV} {i k : Int} (cc : WJ P D f rest Q) (hct : TL.share ct = D.lv) (hk : Yd D i k)
  (hh : ∀ r i' k', Yd D i' k' → Q r → K { t := upd t d r, h := a :: b :: c :: some [ct, N i', N k'] :: h3 }) : Z5 P .fr f (.ptr 3 0 :: rest) (some d) K { t := t, h := a :: b :: c :: some [ct, N i, N k] :: h3 } :=
 Qq (h1 := [a, b, c]) cc hct hk hh
def isPut (r : LV) : Prop := ∃ (s : GSys) (ctx : Wx) (a : List Int) (g u : GTerm) (cs : List LV), r = .tup [s.lv, LC false ctx, L false a, g.lv, .agg cs] ∧ shareAll cs = u.cells ∧ cs.length = 4 ∧ s.sys = true ∧ s.wf ∧ YF s ctx ∧ ctx.length ≤ 2 ∧ okL s.size a = true ∧
 TmOk s (ctx.length + 1) 400 g ∧ TmOk s ctx.length 3480 u
theorem isPut_ex : ∃ r, isPut r ∧ Low 0 r := by
 have h : ∀ nv m, 1 ≤ m → TmOk (KF 1 false) nv m (.mk 1 0 true [] true []) := fun nv m hm => TmOk.k0 (by omega) (ZoC (by omega)) (by unfold I64; omega) (by simp [Lok]) (by simp [ZJ]) hm
 exact ⟨_, ⟨KF 1 false, [], [0], .mk 1 0 true [] true [], .mk 1 0 true [] true [], GTerm.cells (.mk 1 0 true [] true []), rfl, by simp, by simp, (DS.sound (.count 1) rfl).1, (DS.sound (.count 1) rfl).2, by simp [YF], by simp, Zhv _, h _ _ (by omega), h _ _ (by omega)⟩, by simp⟩
section
variable (D : Dr) (ok : D.ok)
include ok
theorem Zpy : Qd Tryz.prog VS [D.lv] isPut := by
 refine Qd.of_codeOf ZhV Qz (by simp) isPut_ex ?_
 simp (disch := omega) [Zcj]
 refine WG (l1New_ok D ok _) ?_
 rintro r h' ⟨k, rfl, hk, rfl⟩
 have hct := D.share
 simp (disch := omega)
 refine Ju (Zpj D ok) hct hk ?_
 rintro r i1 k1 hk1 ⟨d, hd', rfl⟩
 obtain ⟨dc, hdc, d4, dal, dlo, dsh⟩ := DS.cells d
 obtain ⟨s1, s2⟩ := DS.sound d hd'
 have ts := GSys.sys_of s1
 have h16 := ts.hi
 have hs : 1 ≤ d.sys.size ∧ d.sys.size ≤ 16 := ⟨by have := ts.lo; omega, h16⟩
 have l4 : d.sys.cells.length = 4 := rfl
 simp (disch := omega) [hdc, d4, dal, dsh, List.take_of_length_le, List.drop_of_length_le, Qt]
 refine Ju (ZO D ok 2 (by unfold I64; omega)) hct hk1 ?_
 rintro r i2 k2 hk2 ⟨b, rfl⟩
 simp (disch := omega) [d4, dsh, List.take_of_length_le]
 refine Ju (ZmU D ok d.sys hs 2 (by omega) b) hct hk2 ?_
 rintro r i3 k3 hk3 ⟨ctx, rfl, hc, hlen⟩
 have hcl : ctx.length ≤ 2 := by omega
 have hcm : LC false ctx = .sl false false 1 (ctx.map fun x => [L false x.2]) := congrArg _ (cx_map hc)
 simp (disch := omega) [d4, dsh, List.take_of_length_le]
 refine Ju (Zz D ok d.sys hs b 2 (by omega)) hct hk3 ?_
 rintro r i4 k4 hk4 ⟨a, rfl, ha⟩
 have oa := Zr ha (by omega)
 have wi := Yg false false ctx [(false, a)] (by omega) (by simp)
 rw [hcm] at wi
 simp (disch := omega) [d4, dsh, List.take_of_length_le, Qm]
 refine Qa wi (by simp) ?_
 simp (disch := omega)
 refine Qh (dDeep_ok D ok) (by simp) ?_
 rintro r ⟨m, rfl, m2, m4⟩
 simp (disch := omega)
 have ci : YF d.sys ((false, a) :: ctx) := (YF.one oa).app hc
 refine Ju (dIn_ok D ok s1 false ((false, a) :: ctx) m b ci (by simp; omega) (by omega) m4) hct hk4 ?_
 rintro r i5 k5 hk5 hr
 obtain ⟨w, cs, rfl, c4, csh, clo, cal, cok⟩ := hr.el
 simp (disch := omega) [c4, csh, cal, d4, dsh, List.take_of_length_le, List.drop_of_length_le, Qt]
 have dof := Zhs D ok s1 false ctx a 2 hc (by omega) oa (by omega) (by omega)
 rw [hcm] at dof
 refine Ju dof hct hk5 ?_
 rintro r i6 k6 hk6 hr
 obtain ⟨w2, cs2, rfl, b4, bsh, blo, bal, bok⟩ := hr.el
 have l5 := cells_length w
 simp (disch := omega) [c4, csh, cal, b4, bal, l4, List.take_of_length_le, List.drop_of_length_le]
 exact ⟨blo, d.sys, ctx, a, w, w2, cs2, by rw [hcm], bsh, b4, s1, s2, hc, hcl, oa, cok, bok⟩
end
end Go.Proofs.YtclfngbealdbgaaGreat
namespace Go.Proofs.YtclfngbealdbgaaGreat
open Go Go.TL
open Go.Proofs.YtclfngbealdbgaaGreat.Ty
set_option linter.unusedSimpArgs false
set_option linter.unusedVariables false
set_option linter.unusedSectionVars false
set_option maxRecDepth 20000
set_option maxHeartbeats 4000000
mutual
theorem ZpZ {size : Int} {c c' : Nat} (σ : Nat → Int → GTerm) (hσ : ∀ (k : Nat) (n : Int), 0 ≤ n → n < k + c → WE ((k + c' : Nat) : Int) size true (σ k n) = true) : ∀ (g : GTerm) (k : Nat), WE ((k + c : Nat) : Int) size true g = true → WE ((k + c' : Nat) : Int) size true (rnG σ k g) = true
 | .mk op n nl1 ty nl2 ks, k, h => by
  simp only [WE, Bool.and_eq_true] at h
  by_cases ho : op = 0
  ·subst ho
   simp only [rnG, if_true]
   have h1 := h.1
   simp [YQ, ZbV, eqB, QV] at h1
   exact hσ k n h1.2.1.1 (by omega)
  ·simp only [rnG, if_neg ho, WE, Jn, Bool.and_eq_true]
   refine ⟨?_, ZmY σ hσ ks op k 0 h.2⟩
   have h1 := h.1
   unfold YQ ZbV at h1 ⊢
   have e0 : eqB op 0 = false := by rw [Qc]; exact ho
   simpa [e0] using h1
theorem ZmY {size : Int} {c c' : Nat} (σ : Nat → Int → GTerm) (hσ : ∀ (k : Nat) (n : Int), 0 ≤ n → n < k + c → WE ((k + c' : Nat) : Int) size true (σ k n) = true) : ∀ (ks : List GTerm) (op : Int) (k i : Nat), WR ((k + c : Nat) : Int) size true op i ks = true → WR ((k + c' : Nat) : Int) size true op i (rnK σ op k i ks) = true
 | [], _, _, _, _ => by simp [rnK, WR]
 | t :: ts, op, k, i, h => by
  simp only [WR, Bool.and_eq_true] at h
  have hr := WV op i
  simp only [rnK, WR, Bool.and_eq_true]
  refine ⟨?_, ZmY σ hσ ts op k (i + 1) h.2⟩
  have := ZpZ σ hσ t ((Qp op i).toNat + k) (by rw [show (((Qp op i).toNat + k + c : Nat) : Int) = ((k + c : Nat) : Int) + Qp op i by omega]; exact h.1)
  rw [show ((k + c' : Nat) : Int) + Qp op i = (((Qp op i).toNat + k + c' : Nat) : Int) by omega]
  exact this
end
theorem Zny {size : Int} {nv : Int} {n : Int} (h : 0 ≤ n ∧ n < nv) : WE nv size true (KM n) = true := by
 simp only [KM, WE, WR, List.length_nil, Zmj h, Bool.and_self]
theorem put_form {size : Int} {c : Nat} {g u : GTerm} (hg : WE ((1 + c : Nat) : Int) size true g = true) (hu : WE (c : Int) size true u = true) : WE (c : Int) size true (rnG (Xy u) 0 g) = true := by
 have := ZpZ (size := size) (c := 1 + c) (c' := c) (Xy u) (fun k n n0 n1 => by
  unfold Xy
  split
  ·have := Zl4 (size := size) (bw := k) (by omega) u c 0 (by omega) (by omega)
   rw [show ((k + c : Nat) : Int) = (c : Int) + k by omega, this]; exact hu
  ·split
   ·exact Zny (by omega)
   ·exact Zny (by omega)) g 0 (by simpa using hg)
 simpa using this
theorem put_law {s : GSys} {ctx : Wx} {a : List Int} {g u c w : GTerm} {x z : TT} (a1 : Arg s ((false, a) :: ctx) g) (a2 : Arg s ctx u) (hx : YR s ((false, a) :: ctx) g = some x) (hz : YR s ctx u = some z) (hza : z.ty = a)
  (hp : JP g u = some c) (hw : w.nm = c.nm) (hf : w.fl) : Arg s ctx w ∧ ∃ y, YR s ctx w = some y ∧ y.ty = x.ty ∧ subP s z.needs ctx.length x.needs y.needs := by
 obtain ⟨gx, hs, hc1, ht1, _, tx⟩ := Kc a1 hx
 obtain ⟨gz, _, hc2, ht2, hc8, tz⟩ := Kc a2 hz
 obtain ⟨f1, f2, _⟩ := a2.flags hc2
 obtain ⟨e1, _, _⟩ := a1.flags hc1
 have oa : okL s.size a = true := e1 (false, a) (by simp)
 unfold JP at hp
 split at hp
 ·rename_i hh
  obtain ⟨h1, h2, h3⟩ := hh
  simp only [Option.some.injEq] at hp
  have ht1' := ht1
  have ht2' := ht2
  unfold GTerm.termB at ht1' ht2'
  simp only [Bool.and_eq_true, decide_eq_true_eq] at ht1' ht2'
  have hcs : ∀ l ∈ ctx.map Prod.snd, okL s.size l = true := fun l hl => by
   obtain ⟨c, hc, rfl⟩ := List.mem_map.1 hl
   exact f1 c hc
  have fu : WE ((ctx.map Prod.snd).length : Int) s.size true u = true := by rw [List.length_map]; exact ht2'.2.2
  have fg : WE (((a :: ctx.map Prod.snd).length : Nat) : Int) s.size true g = true := by
   have := ht1'.2.2
   simpa using this
  simp only [List.map_cons] at tx
  obtain ⟨y, y1, y2, y3, y4⟩ := put_tell hs oa hcs fg a2.gw fu tx tz hza
  rw [List.length_map] at y4
  have k2 := h2
  unfold GTerm.writ at k2
  simp only [Bool.and_eq_true, decide_eq_true_eq] at k2
  have k1 := h1
  unfold GTerm.writ at k1
  simp only [Bool.and_eq_true, decide_eq_true_eq] at k1
  have us := Vf u 8 a2.gw k2.2
  have pw : (rnG (Xy u) 0 g).wf := ZlG (Xy u) 1000 (ZmL us (by omega) (by omega)) g 0 (by omega) a1.gw
  have hwn : w.nm = (rnG (Xy u) 0 g).nm := by rw [hw, ← hp]
  have ww := ZiI hwn pw
  have aw : Arg s ctx w := ⟨a2.sw, a2.cw, ww, a2.cf, hf⟩
  refine ⟨aw, y, ?_, y2, y4⟩
  have k3 := h3
  unfold GTerm.writ at k3
  simp only [Bool.and_eq_true, decide_eq_true_eq] at k3
  have pf : WE (ctx.length : Int) s.size true (rnG (Xy u) 0 g) = true := by
   refine put_form ?_ ht2'.2.2
   have := ht1'.2.2
   rw [show ((1 + ctx.length : Nat) : Int) = (((false, a) :: ctx).length : Int) by simp; omega]
   exact this
  have hin : inB s ctx w = true := by
   unfold inB GTerm.termB
   rw [← Za6 w, ← Zbu w, hwn, Za6, Zbu, hs, hc2, ht2'.1, pf]
   simp [k3.1]
  unfold YR
  rw [if_pos hin, ZiW hwn, y1]
 ·simp at hp
theorem ZnI (D : Dr) (hb' : ∀ b ∈ D.bs, 0 ≤ b ∧ b ≤ 255) : Qd Tryz.prog Zaf [D.lv] (· = B true) := by
 refine Qd.of_codeOf ZfJ Qz (by simp) ⟨_, rfl, by simp⟩ ?_
 simp (disch := omega) [Zad]
 refine Qa (big_ok D) (by simp) ?_
 cases hB : ltB 1048576 (D.bs.length : Int)
 rotate_left
 ·simp (disch := omega)
 rw [Qg] at hB
 have ok : D.ok := ⟨by omega, hb'⟩
 simp (disch := omega)
 refine Qh (Qd.low (Zpy D ok)) (by simp) ?_
 rintro r ⟨⟨s, ctx, a, g, u, cs, rfl, csh, c4, hsy, hsw, hc, hcl, oa, hg, hu⟩, lo⟩
 have cal := Xm csh
 have ts := GSys.sys_of hsy
 have h16 := ts.hi
 have hal := QG oa
 have hcm : LC false ctx = .sl false false 1 (ctx.map fun x => [L false x.2]) := congrArg _ (cx_map hc)
 have ci : YF s ((false, a) :: ctx) := (YF.one oa).app hc
 have argOf : ∀ {cx : Wx} {w : GTerm}, YF s cx → cx.length ≤ 3 → w.wf → w.fl → Arg s cx w := fun h1 h2 h3 h4 => ⟨hsw, ⟨by omega, fun c h => ZbB (JT (h1.1 c h))⟩, h3, fun c h => by rw [h1.2 c h]; simp [ZJ], h4⟩
 have a1 : Arg s ((false, a) :: ctx) g := argOf ci (by simp; omega) hg.wf hg.fl
 have a2 : Arg s ctx u := argOf hc (by omega) hu.wf hu.fl
 have fr := Zie false ctx a (by omega)
 have to1 := ZfV a1 false
 have to2 := ZfV a2 false
 simp (disch := omega) [Qt, c4, csh, cal, List.take_of_length_le, List.drop_of_length_le]
 refine Qa fr (by simp) ?_
 simp (disch := omega) [c4, csh, List.take_of_length_le]
 refine Qh (Qd.low to1) (by simp) ?_
 rintro r ⟨hr1, lo1⟩
 cases hx : YR s ((false, a) :: ctx) g with
 | none =>
  rw [hx] at hr1
  subst hr1
  simp (disch := omega) [c4, csh, List.take_of_length_le]
  refine Qh (Qd.low to2) (by simp) ?_
  rintro r ⟨hr2, lo2⟩
  have fr' := Zie false ctx a (by omega)
  have ht := Zi6 a1 false
  rw [hx] at ht
  cases hz : YR s ctx u with
  | none =>
   rw [hz] at hr2
   subst hr2
   simp (disch := omega) [c4, csh, List.take_of_length_le]
   refine Qh (Qd.low (Jd a2 false)) (by simp) ?_
   rintro r ⟨hr3, lo3⟩
   rw [hz] at hr3
   obtain ⟨u1, u2, rfl⟩ := hr3
   simp (disch := omega)
   refine Qa fr' (by simp) ?_
   simp (disch := omega) [c4, csh, List.take_of_length_le]
   refine Qa ht (by simp) ?_
   simp (disch := omega)
  | some z =>
   rw [hz] at hr2
   subst hr2
   simp (disch := omega) [c4, csh, List.take_of_length_le]
   refine Qh (Qd.low (Jd a2 false)) (by simp) ?_
   rintro r ⟨hr3, lo3⟩
   rw [hz] at hr3
   obtain ⟨u1, u2, rfl⟩ := hr3
   simp (disch := omega)
   refine Qa fr' (by simp) ?_
   simp (disch := omega) [c4, csh, List.take_of_length_le]
   refine Qa ht (by simp) ?_
   simp (disch := omega)
 | some x =>
  rw [hx] at hr1
  subst hr1
  simp (disch := omega) [c4, csh, List.take_of_length_le]
  refine Qh (Qd.low to2) (by simp) ?_
  rintro r ⟨hr2, lo2⟩
  have fr' := Zie false ctx a (by omega)
  have ht := Zi6 a1 false
  rw [hx] at ht
  cases hz : YR s ctx u with
  | none =>
   rw [hz] at hr2
   subst hr2
   simp (disch := omega) [c4, csh, List.take_of_length_le]
   refine Qh (Qd.low (Jd a2 false)) (by simp) ?_
   rintro r ⟨hr3, lo3⟩
   rw [hz] at hr3
   obtain ⟨u1, u2, rfl⟩ := hr3
   simp (disch := omega)
   refine Qa fr' (by simp) ?_
   simp (disch := omega) [c4, csh, List.take_of_length_le]
   refine Qa ht (by simp) ?_
   simp (disch := omega)
  | some z =>
   rw [hz] at hr2
   subst hr2
   have io := ZpQ false false a z.ty (by omega)
   simp (disch := omega)
   refine Qa io (by simp) ?_
   cases hza : a == z.ty
   ·simp (disch := omega) [c4, csh, List.take_of_length_le]
    refine Qh (Qd.low (Jd a2 false)) (by simp) ?_
    rintro r ⟨hr3, lo3⟩
    rw [hz] at hr3
    obtain ⟨u1, u2, rfl⟩ := hr3
    simp (disch := omega)
    refine Qa fr' (by simp) ?_
    simp (disch := omega) [c4, csh, List.take_of_length_le]
    refine Qa ht (by simp) ?_
    simp (disch := omega)
    refine Qa io (by simp) ?_
    rw [hza]
    simp (disch := omega)
   ·have hza' : z.ty = a := by simpa using (beq_iff_eq.1 hza).symm
    simp (disch := omega) [c4, csh, List.take_of_length_le]
    refine Qh (Qd.low (Ze7 g u hg.wf hg.fl hu.wf hu.fl)) (by simp) ?_
    rintro r ⟨hr3, lo3⟩
    cases hp : JP g u with
    | none =>
     rw [hp] at hr3
     obtain ⟨v, rfl, v4, val⟩ := hr3
     simp (disch := omega) [Qt, v4, val, c4, csh, List.take_of_length_le]
     refine Qh (Qd.low (Zb2 g u hg.wf hu.wf hu.fl)) (by simp) ?_
     rintro r ⟨hr4, lo4⟩
     rw [hp] at hr4
     obtain ⟨v', rfl, v4', val'⟩ := hr4
     simp (disch := omega) [Qt, v4', val', List.take_of_length_le]
    | some c =>
     rw [hp] at hr3
     obtain ⟨v, rfl, w, ws, rfl, wsh, wn, wf⟩ := hr3
     have w4 : ws.length = 4 := by rw [← QJ, wsh]; simp
     have wal := Xm wsh
     obtain ⟨aw, y, hy, yt, ys⟩ := put_law a1 a2 hx hz hza' hp wn wf
     have gx := (Kc a1 hx).1
     have gz := (Kc a2 hz).1
     have gy := (Kc aw hy).1
     have to3 := ZfV aw false
     rw [hy] at to3
     have yl := QG gy.1
     simp (disch := omega) [Qt, w4, wsh, wal, c4, csh, List.take_of_length_le]
     refine Qh (Qd.low to3) (by simp) ?_
     rintro r ⟨hr5, lo5⟩
     subst hr5
     simp (disch := omega)
     refine Qa (ZpQ false false y.ty x.ty (by omega)) (by simp) ?_
     have ly : y.needs.length = ctx.length := gy.2.1
     have lx : x.needs.length = ctx.length + 1 := by have := gx.2.1; simpa using this
     have lz : z.needs.length = ctx.length := gz.2.1
     have q1 : eqB (y.needs.length : Int) ctx.length = true := by rw [Qe]; omega
     have q2 : eqB (x.needs.length : Int) (ctx.length + 1) = true := by rw [Qe]; omega
     have q3 : eqB (z.needs.length : Int) ctx.length = true := by rw [Qe]; omega
     have q4 : (y.ty == x.ty) = true := by rw [yt]; simp
     have gD : ∀ (l : List Int), (∀ u ∈ l, s.G u) → ∀ i, i < l.length → s.G (l.getD i 0) := fun l hl i hi => by
      rw [List.getD_eq_getElem?_getD, List.getElem?_eq_getElem hi]
      exact hl _ (List.getElem_mem _)
     simp (disch := omega) [q1, q2, q3, q4, Qf]
     refine Wf ctx.length 0 (fun j t _ => t 24 = N j) (fun _ _ => True) (by simp) (by omega) ?_ ?_
     ·rintro j t1 hh hf' hj e24
      (have e3 := hf' 3 (by kernel_rfl); have e4 := hf' 4 (by kernel_rfl); have e9 := hf' 9 (by kernel_rfl); have e12 := hf' 12 (by kernel_rfl); have e22 := hf' 22 (by kernel_rfl); clear hf'; simp [] at e3 e4 e9 e12 e22)
      by_cases h6 : j < ctx.length
      ·have hb6 : ltB (j : Int) ctx.length = true := by rw [Qi]; omega
       have i1 := Xh y.needs false false j (by omega) (by omega)
       have i2 := Xh x.needs false false ((j : Int) + 1) (by omega) (by omega)
       have i3 := Xh x.needs false false 0 (by omega) (by omega)
       have i4 := Xh z.needs false false j (by omega) (by omega)
       rw [show ((j : Int) + 1).toNat = j + 1 by omega] at i2
       rw [show ((j : Int)).toNat = j by omega] at i1 i4
       rw [show (0 : Int).toNat = 0 from rfl] at i3
       have y1 := gD _ gy.2.2 j (by omega)
       have x1 := gD _ gx.2.2 (j + 1) (by omega)
       have x0 := gD _ gx.2.2 0 (by omega)
       have z1 := gD _ gz.2.2 j (by omega)
       have le := ys j h6
       generalize y.needs.getD j 0 = yj at *
       generalize x.needs.getD (j + 1) 0 = xj at *
       generalize x.needs.getD 0 0 = x00 at *
       generalize z.needs.getD j 0 = zj at *
       have mu := Zfv hsy hsw x0 z1
       have gm : s.G (s.tm x00 zj) := GSys.Gtm ts _ _
       have ad := ZlL hsy hsw x1 gm
       have be := ZoI hsy hsw y1 (GSys.Gpl ts xj (s.tm x00 zj))
       rw [le] at be
       simp (disch := omega) [e3, e4, e9, e12, e22, e24, hb6, i1, i2, i3, i4, Qf]
       refine Qa mu (by simp) ?_
       simp (disch := omega)
       refine Qa ad (by simp) ?_
       simp (disch := omega)
       refine Qa be (by simp) ?_
       simp (disch := omega) [e24, Qf]
       omega
      ·have hb6 : ltB (j : Int) ctx.length = false := by rw [Qg]; omega
       simp (disch := omega) [e4, e24, hb6]
     ·rintro t1 hh hf' _
      simp (disch := omega)
end Go.Proofs.YtclfngbealdbgaaGreat
