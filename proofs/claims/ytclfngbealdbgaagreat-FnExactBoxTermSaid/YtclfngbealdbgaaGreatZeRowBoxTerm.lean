/- Part 5 of the proof of the row of the text YtclfngbealdbgaaGreatZRowBoxTerm: texts joined. No conditions. -/
import Derived.ProofKit
import Derived.RowKit
import Derived.ChangeArms
import Derived.Test.YtclfngbealdbgaaGreatZdRowBoxTerm
set_option linter.unusedSimpArgs false
set_option linter.unusedVariables false
set_option linter.unusedSectionVars false
namespace Go.Proofs.YtclfngbealdbgaaGreat
open Go Go.TL
set_option linter.unusedSimpArgs false
set_option linter.unusedVariables false
set_option maxRecDepth 20000
set_option maxHeartbeats 4000000
def WS (sz : Nat) (left : Int) : Int := if (sz : Int) ≤ left then left - sz else -1
theorem Zu {a b : Nat} {m : Int} (h : 0 ≤ m) : WS (a + b) m = WS b (WS a m) := by
 unfold WS; repeat' split
 all_goals omega
theorem XT {a : Nat} {m : Int} (h : 0 ≤ m) : -1 ≤ WS a m ∧ WS a m ≤ m := by
 unfold WS; split <;> omega
theorem Zaz {a : Nat} {m : Int} (h : m < 0) : WS a m = -1 := by
 unfold WS; split <;> omega
theorem ZiN {m : Int} (h : 0 ≤ m) : WS 0 m = m := by
 unfold WS; split <;> omega
def fill {α : Type} (e : α → List LV) (z : List LV) (l : List α) (i : Nat) : List LV := ((l.take i).map e).flatten ++ (List.replicate (l.length - i) z).flatten
section
variable {α : Type} {e : α → List LV} {z : List LV} {l : List α} {sz : Nat} (he : ∀ x, (e x).length = sz) (hz : z.length = sz)
include he
theorem Zim (k : List α) : ((k.map e).flatten).length = k.length * sz := by
 induction k with
 | nil => simp
 | cons x k ih => simp [ih, he, Nat.add_mul, Nat.add_comm]
include hz
theorem Zac {i : Nat} (h : i ≤ l.length) : (fill e z l i).length = l.length * sz := by
 simp only [fill, List.length_append, Zim he, List.length_take, Nat.min_eq_left h]
 rw [List.length_flatten]
 simp only [List.map_replicate, hz, List.sum_replicate_nat]
 rw [← Nat.add_mul]; congr 1; omega
theorem Vg {i : Nat} (h : i < l.length) : splice (fill e z l i) (i * sz) (e l[i]) = fill e z l (i + 1) := by
 have h1 : (((l.take i).map e).flatten).length = i * sz := by rw [Zim he]; simp [Nat.min_eq_left (Nat.le_of_lt h)]
 have h2 : l.length - i = (l.length - (i + 1)) + 1 := by omega
 unfold splice
 rw [fill, h2, List.replicate_succ, List.flatten_cons, fill, List.take_append_of_le_length (by omega), List.take_of_length_le (by omega), List.take_succ_eq_append_getElem h, List.map_append, List.flatten_append]
 simp only [List.map_cons, List.map_nil, List.flatten_cons, List.flatten_nil, List.append_nil]
 congr 1
 rw [List.drop_append, List.drop_of_length_le (by omega), he, h1, List.nil_append, List.drop_append, List.drop_of_length_le (by omega)]
 simp [hz]
end
theorem Zcy {α : Type} {e : α → List LV} {z : List LV} {l : List α} : fill e z l l.length = (l.map e).flatten := by simp [fill]
theorem Vf {α : Type} {e : α → List LV} {z : List LV} {l : List α} : fill e z l 0 = (List.replicate l.length z).flatten := by simp [fill]
theorem ZcP (nl : Bool) (l : List Int) (hl : l.length ≤ 9223372036854775807) (left : Int) (h0 : 0 ≤ left) (h1 : left ≤ 1099511627776) : Qe Tryz.prog YY [L nl l, N left] (· = N (WS l.length left)) := by
 refine Qe.of_codeOf ZjI Qy (by simp) ⟨_, rfl, by simp⟩ ?_
 simp (disch := omega) [Zc9, Qh]
 repeat' (first
  | (with_reducible (first | refine Ql (fun hb_ => ?_) (fun hb_ => ?_) | refine Qk (fun hb_ => ?_) (fun hb_ => ?_)) <;> simp (disch := omega) [hb_])
  | simp (disch := omega))
 all_goals simp only [Qf, Qd, Qi, Qg, Qc, Qb, Bool.not_true, Bool.not_false, WS] at *
 all_goals (split <;> omega)
theorem Zow (nl : Bool) (l : List Bool) (hl : l.length ≤ 9223372036854775807) (left : Int) (h0 : 0 ≤ left) (h1 : left ≤ 1099511627776) : Qe Tryz.prog VB [LB nl l, N left] (· = N (WS l.length left)) := by
 refine Qe.of_codeOf ZhV Qy (by simp) ⟨_, rfl, by simp⟩ ?_
 simp (disch := omega) [Zcj, Qh]
 repeat' (first
  | (with_reducible (first | refine Ql (fun hb_ => ?_) (fun hb_ => ?_) | refine Qk (fun hb_ => ?_) (fun hb_ => ?_)) <;> simp (disch := omega) [hb_])
  | simp (disch := omega))
 all_goals simp only [Qf, Qd, Qi, Qg, Qc, Qb, Bool.not_true, Bool.not_false, WS] at *
 all_goals (split <;> omega)
theorem ZeE {α : Type} {e : α → List LV} {sz : Nat} (he : ∀ x, (e x).length = sz) (l : List α) : Qu [some (l.map e).flatten] (.ha 0 sz 0 l.length l.length) = some (.sl true false sz (l.map e), [none]) := by
 have := frz_ha (h := [some (l.map e).flatten]) (l := 0) (sz := sz) (n := l.length) rfl (Zim he l)
 rw [Zf1 e sz l (fun x _ => he x)] at this
 simpa using this
theorem ZcN (nl : Bool) (l : List Int) (hl : l.length ≤ 1099511627776) : Qe Tryz.prog Y4 [L nl l] (· = OU true false l) := by
 refine Qe.of_codeOf Zkn Qy (by simp) ⟨_, rfl, by simp⟩ ?_
 have hm : (l.length : Int) ≤ (WQ : Nat) := by unfold WQ; omega
 have he : ∀ x : Int, ([N x] : List LV).length = 1 := by simp
 simp (disch := omega) [Zdr, hm]
 refine Q9 l.length 0 (fun i t h => t 4 = N i ∧ h = [some (fill (fun x => [N x]) [N 0] l i)]) (by simp [Vf]) (by omega) ?_
 rintro i t1 hh hf hi ⟨e4, rfl⟩
 (have e0 := hf 0 (by kernel_rfl); have e3 := hf 3 (by kernel_rfl); clear hf; simp [] at e0 e3)
 simp (disch := omega) [e0, e3, e4]
 (with_reducible first | refine Ql (fun h6 => ?_) (fun h6 => ?_) | refine Qk (fun h6 => ?_) (fun h6 => ?_))
 ·simp only [Qf, Qd, Qi, Qg, Qc, Qb, Bool.not_true, Bool.not_false] at h6
  have hlen := Zac (z := [N 0]) (l := l) he rfl hi
  have hst := Vg (z := [N 0]) (l := l) he rfl (i := i) (by omega)
  simp (disch := omega) [e0, e3, e4, Xj, Y6, Qh, hlen, hst]
  exact ⟨by omega, by omega, by simpa [splice] using hst⟩
 ·simp only [Qf, Qd, Qi, Qg, Qc, Qb, Bool.not_true, Bool.not_false] at h6
  rw [show i = l.length by omega, Zcy]
  simp (disch := omega) [e0, e3, e4]
  rw [ZeE he]
  simp
theorem Zob (nl : Bool) (l : List Bool) (hl : l.length ≤ 1099511627776) : Qe Tryz.prog Vz [LB nl l] (· = OB true false l) := by
 refine Qe.of_codeOf Zhx Qy (by simp) ⟨_, rfl, by simp⟩ ?_
 have hm : (l.length : Int) ≤ (WQ : Nat) := by unfold WQ; omega
 have he : ∀ x : Bool, ([B x] : List LV).length = 1 := by simp
 simp (disch := omega) [Zcu, hm]
 refine Q9 l.length 0 (fun i t h => t 4 = N i ∧ h = [some (fill (fun x => [B x]) [B false] l i)]) (by simp [Vf]) (by omega) ?_
 rintro i t1 hh hf hi ⟨e4, rfl⟩
 (have e0 := hf 0 (by kernel_rfl); have e3 := hf 3 (by kernel_rfl); clear hf; simp [] at e0 e3)
 simp (disch := omega) [e0, e3, e4]
 (with_reducible first | refine Ql (fun h6 => ?_) (fun h6 => ?_) | refine Qk (fun h6 => ?_) (fun h6 => ?_))
 ·simp only [Qf, Qd, Qi, Qg, Qc, Qb, Bool.not_true, Bool.not_false] at h6
  have hlen := Zac (z := [B false]) (l := l) he rfl hi
  have hst := Vg (z := [B false]) (l := l) he rfl (i := i) (by omega)
  simp (disch := omega) [e0, e3, e4, ZlE, Y6, Qh, hlen, hst]
  exact ⟨by omega, by omega, by simpa [splice] using hst⟩
 ·simp only [Qf, Qd, Qi, Qg, Qc, Qb, Bool.not_true, Bool.not_false] at h6
  rw [show i = l.length by omega, Zcy]
  simp (disch := omega) [e0, e3, e4]
  rw [ZeE he]
  simp
abbrev Wf := List (Bool × List Int)
abbrev eC (c : Bool × List Int) : LV := L c.1 c.2
abbrev LC (nl : Bool) (ctx : Wf) : LV := .sl false nl 1 (ctx.map fun c => [eC c])
theorem JW (ctx : Wf) (nl : Bool) (i : Nat) (h : i < ctx.length) : QF 1 (LC nl ctx) (i : Int) = some (.rp [eC (ctx[i]'h)]) := by
 have := Zh0 eC (by simp) ctx false nl i (by omega) (by omega)
 rw [this]
 simp
def Wf.raw (ctx : Wf) : Prop := ctx.length ≤ 9223372036854775807 ∧ ∀ c ∈ ctx, c.2.length ≤ 9223372036854775807 ∧ ∀ n ∈ c.2, I64 n
def Wf.wf (ctx : Wf) : Prop := ctx.length ≤ 1099511627776 ∧ ∀ c ∈ ctx, Lok c.2
def Wf.norm (ctx : Wf) : Wf := ctx.map fun c => (false, c.2)
abbrev Wf.own (ctx : Wf) : LV := .sl true false 1 (ctx.map fun c => [OU true false c.2])
theorem share_own (ctx : Wf) : share ctx.own = LC false ctx.norm := by
 simp [Wf.own, Wf.norm]
theorem low_own (k : Nat) (ctx : Wf) : Low k ctx.own := by simp [Wf.own]
def cws : Wf → Nat
 | [] => 0
 | c :: cs => c.2.length + cws cs
theorem ZmJ {ctx : Wf} {i : Nat} (h : i < ctx.length) : cws (ctx.drop i) = ctx[i].2.length + cws (ctx.drop (i + 1)) := by
 rw [List.drop_eq_getElem_cons h, cws]
theorem Zha : ∀ {ctx : Wf} {c : Bool × List Int}, c ∈ ctx → c.2.length ≤ cws ctx
 | d :: ctx, c, h => by
  simp only [List.mem_cons] at h
  simp only [cws]
  rcases h with rfl | h
  ·omega
  ·have := Zha h; omega
theorem ZoT (nl : Bool) (ctx : Wf) (hw : ctx.raw) (left : Int) (h0 : 0 ≤ left) (h1 : left ≤ 1099511627776) : Qe Tryz.prog Vu [LC nl ctx, N left] (· = N (WS (ctx.length + cws ctx) left)) := by
 have hlen := hw.1
 refine Qe.of_codeOf ZhZ Qy (by simp) ⟨_, rfl, by simp⟩ ?_
 simp (disch := omega) [Zca, Qh]
 (with_reducible first | refine Ql (fun h2 => ?_) (fun h2 => ?_) | refine Qk (fun h2 => ?_) (fun h2 => ?_))
 ·simp (disch := omega) [h2]
  simp only [Qf, Qd, Qi, Qg, Qc, Qb, Bool.not_true, Bool.not_false] at h2
  unfold WS; rw [if_neg (by omega)]
 ·simp (disch := omega) [h2]
  simp only [Qf, Qd, Qi, Qg, Qc, Qb, Bool.not_true, Bool.not_false] at h2
  have e1 : WS (ctx.length + cws ctx) left = WS (cws ctx) (left - ctx.length) := by
   rw [Zu h0]; congr 1; unfold WS; rw [if_pos (by omega)]
  rw [e1]
  refine Q9 ctx.length 0 (fun i t _ => ∃ m : Int, t 5 = N i ∧ t 1 = N m ∧ 0 ≤ m ∧ m ≤ left ∧ WS (cws ctx) (left - ctx.length) = WS (cws (ctx.drop i)) m) ⟨left - ctx.length, by simp, by simp, by omega, by omega, by simp⟩ (by omega) ?_
  rintro i t1 hh hf hi ⟨m, e5, e1', hm, hm2, he⟩
  (have e0 := hf 0 (by kernel_rfl); clear hf; simp [] at e0)
  simp (disch := omega) [e0, e1', e5]
  (with_reducible first | refine Ql (fun h6 => ?_) (fun h6 => ?_) | refine Qk (fun h6 => ?_) (fun h6 => ?_))
  ·simp only [Qf, Qd, Qi, Qg, Qc, Qb, Bool.not_true, Bool.not_false] at h6
   have hr := hw.2 (ctx[i]'(by omega)) (List.getElem_mem _)
   have hs := ZcP (ctx[i]'(by omega)).1 (ctx[i]'(by omega)).2 hr.1 m hm (by omega)
   simp (disch := omega) [e0, e1', e5, JW]
   repeat' (first
  | with_reducible refine Qa (hs) (by simp) ?_
  | (with_reducible (first | refine Ql (fun hb_ => ?_) (fun hb_ => ?_) | refine Qk (fun hb_ => ?_) (fun hb_ => ?_)) <;> simp (disch := omega) [hb_, e0, e1', e5, Qh])
  | simp (disch := omega) [e0, e1', e5, Qh])
   all_goals simp only [Qf, Qd, Qi, Qg, Qc, Qb, Bool.not_true, Bool.not_false] at hb_
   ·rw [he, ZmJ (by omega), Zu hm, Zaz hb_]
   ·refine ⟨by omega, hb_, ?_, ?_⟩
    ·have := XT (a := (ctx[i]'(by omega)).2.length) hm; omega
    ·rw [he, ZmJ (by omega), Zu hm]
  ·simp only [Qf, Qd, Qi, Qg, Qc, Qb, Bool.not_true, Bool.not_false] at h6
   simp (disch := omega) [e1']
   rw [he, show i = ctx.length by omega, List.drop_length, cws, ZiN hm]
theorem Zo3 (nl : Bool) (ctx : Wf) (hw : ctx.wf) : Qe Tryz.prog YB [LC nl ctx] (· = ctx.own) := by
 have hl := hw.1
 refine Qe.of_codeOf Zho Qy (by simp) ⟨_, rfl, by simp⟩ ?_
 have hm : (ctx.length : Int) ≤ (WQ : Nat) := by unfold WQ; omega
 have he : ∀ x : Bool × List Int, ([OU true false x.2] : List LV).length = 1 := by simp
 simp (disch := omega) [ZbN, hm]
 refine Q9 ctx.length 0 (fun i t h => t 4 = N i ∧ h = [some (fill (fun x : Bool × List Int => [OU true false x.2]) [.sl true true 1 []] ctx i)]) (by simp [Vf]) (by omega) ?_
 rintro i t1 hh hf hi ⟨e4, rfl⟩
 (have e0 := hf 0 (by kernel_rfl); have e3 := hf 3 (by kernel_rfl); clear hf; simp [] at e0 e3)
 simp (disch := omega) [e0, e3, e4]
 (with_reducible first | refine Ql (fun h6 => ?_) (fun h6 => ?_) | refine Qk (fun h6 => ?_) (fun h6 => ?_))
 ·simp only [Qf, Qd, Qi, Qg, Qc, Qb, Bool.not_true, Bool.not_false] at h6
  have hlen := Zac (z := [.sl true true 1 []]) (l := ctx) he rfl hi
  have hst := Vg (z := [.sl true true 1 []]) (l := ctx) he rfl (i := i) (by omega)
  have hL := hw.2 (ctx[i]'(by omega)) (List.getElem_mem _)
  have hto := ZcN (ctx[i]'(by omega)).1 (ctx[i]'(by omega)).2 hL.1
  simp (disch := omega) [e0, e3, e4, JW, Y6, Qh, hlen, hst]
  repeat' (first
  | with_reducible refine Qa (hto) (by simp) ?_
  | (with_reducible (first | refine Ql (fun hb_ => ?_) (fun hb_ => ?_) | refine Qk (fun hb_ => ?_) (fun hb_ => ?_)) <;> simp (disch := omega) [hb_, e0, e3, e4, JW, Y6, Qh, hlen, hst])
  | simp (disch := omega) [e0, e3, e4, JW, Y6, Qh, hlen, hst])
  exact ⟨by omega, by omega, by simpa [splice] using hst⟩
 ·simp only [Qf, Qd, Qi, Qg, Qc, Qb, Bool.not_true, Bool.not_false] at h6
  rw [show i = ctx.length by omega, Zcy]
  simp (disch := omega) [e0, e3, e4]
  rw [ZeE he]
  simp [Wf.own]
theorem ZcQ (n1 n2 : Bool) (a b : List Int) (ha : a.length ≤ 1099511627776) : Qe Tryz.prog Y0 [L n1 a, L n2 b] (· = B (a == b)) := by
 generalize hq : (a == b) = q
 refine Qe.of_codeOf ZjU Qy (by simp) ⟨_, rfl, by simp⟩ ?_
 simp (disch := omega) [Zdv]
 (with_reducible first | refine Ql (fun h1 => ?_) (fun h1 => ?_) | refine Qk (fun h1 => ?_) (fun h1 => ?_))
 ·simp (disch := omega) [h1]
  simp only [Qf, Qd, Qi, Qg, Qc, Qb, Bool.not_true, Bool.not_false] at h1
  refine Q9 a.length 0 (fun i t _ => t 5 = N i ∧ q = (a.drop i == b.drop i)) (by simp [hq]) (by omega) ?_
  rintro i t1 hh hf hi ⟨e5, hj⟩
  (have e0 := hf 0 (by kernel_rfl); have e1 := hf 1 (by kernel_rfl); clear hf; simp [] at e0 e1)
  simp (disch := omega) [e0, e1, e5]
  (with_reducible first | refine Ql (fun h6 => ?_) (fun h6 => ?_) | refine Qk (fun h6 => ?_) (fun h6 => ?_))
  ·simp only [Qf, Qd, Qi, Qg, Qc, Qb, Bool.not_true, Bool.not_false] at h6
   have hd1 := List.drop_eq_getElem_cons (l := a) (i := i) (by omega)
   have hd2 := List.drop_eq_getElem_cons (l := b) (i := i) (by omega)
   have hq2 : q = (a[i]'(by omega) == b[i]'(by omega) && (a.drop (i + 1) == b.drop (i + 1))) := by rw [hj, hd1, hd2]; rfl
   clear hd1 hd2 hj
   simp (disch := omega) [e0, e1, e5, Xj]
   repeat' (first
  | (with_reducible (first | refine Ql (fun hb_ => ?_) (fun hb_ => ?_) | refine Qk (fun hb_ => ?_) (fun hb_ => ?_)) <;> simp (disch := omega) [hb_, e0, e1, e5, Qh])
  | simp (disch := omega) [e0, e1, e5, Qh])
   all_goals simp only [Qf, Qd, Qi, Qg, Qc, Qb, Bool.not_true, Bool.not_false] at hb_
   ·exact ⟨by omega, by simp [hq2, hb_]⟩
   ·simp [hq2, hb_]
  ·simp only [Qf, Qd, Qi, Qg, Qc, Qb, Bool.not_true, Bool.not_false] at h6
   simp (disch := omega)
   rw [hj, List.drop_of_length_le (by omega), List.drop_of_length_le (by omega)]; simp
 ·simp (disch := omega) [h1]
  simp only [Qf, Qd, Qi, Qg, Qc, Qb, Bool.not_true, Bool.not_false] at h1
  rw [← hq]; simp; intro h; exact h1 (by rw [h])
theorem Zok (n1 n2 : Bool) (a b : List Bool) (ha : a.length ≤ 1099511627776) : Qe Tryz.prog VI [LB n1 a, LB n2 b] (· = B (a == b)) := by
 generalize hq : (a == b) = q
 refine Qe.of_codeOf ZiZ Qy (by simp) ⟨_, rfl, by simp⟩ ?_
 simp (disch := omega) [Zcc]
 (with_reducible first | refine Ql (fun h1 => ?_) (fun h1 => ?_) | refine Qk (fun h1 => ?_) (fun h1 => ?_))
 ·simp (disch := omega) [h1]
  simp only [Qf, Qd, Qi, Qg, Qc, Qb, Bool.not_true, Bool.not_false] at h1
  refine Q9 a.length 0 (fun i t _ => t 5 = N i ∧ q = (a.drop i == b.drop i)) (by simp [hq]) (by omega) ?_
  rintro i t1 hh hf hi ⟨e5, hj⟩
  (have e0 := hf 0 (by kernel_rfl); have e1 := hf 1 (by kernel_rfl); clear hf; simp [] at e0 e1)
  simp (disch := omega) [e0, e1, e5]
  (with_reducible first | refine Ql (fun h6 => ?_) (fun h6 => ?_) | refine Qk (fun h6 => ?_) (fun h6 => ?_))
  ·simp only [Qf, Qd, Qi, Qg, Qc, Qb, Bool.not_true, Bool.not_false] at h6
   have hd1 := List.drop_eq_getElem_cons (l := a) (i := i) (by omega)
   have hd2 := List.drop_eq_getElem_cons (l := b) (i := i) (by omega)
   have hq2 : q = (a[i]'(by omega) == b[i]'(by omega) && (a.drop (i + 1) == b.drop (i + 1))) := by rw [hj, hd1, hd2]; rfl
   clear hd1 hd2 hj
   simp (disch := omega) [e0, e1, e5, ZlE]
   repeat' (first
  | (with_reducible (first | refine Ql (fun hb_ => ?_) (fun hb_ => ?_) | refine Qk (fun hb_ => ?_) (fun hb_ => ?_)) <;> simp (disch := omega) [hb_, e0, e1, e5, Qh])
  | simp (disch := omega) [e0, e1, e5, Qh])
   ·exact ⟨by omega, by rw [hq2, hb_, Bool.true_and]⟩
   ·rw [hq2, hb_, Bool.false_and]
  ·simp only [Qf, Qd, Qi, Qg, Qc, Qb, Bool.not_true, Bool.not_false] at h6
   simp (disch := omega)
   rw [hj, List.drop_of_length_le (by omega), List.drop_of_length_le (by omega)]; simp
 ·simp (disch := omega) [h1]
  simp only [Qf, Qd, Qi, Qg, Qc, Qb, Bool.not_true, Bool.not_false] at h1
  rw [← hq]; simp; intro h; exact h1 (by rw [h])
def ZbU : Wf → Wf → Bool
 | [], [] => true
 | a :: a', b :: b' => (a.2 == b.2) && ZbU a' b'
 | _, _ => false
theorem ZkE : ∀ {a b : Wf}, a.length ≠ b.length → ZbU a b = false
 | [], [], h => by simp at h
 | [], _ :: _, _ => rfl
 | _ :: _, [], _ => rfl
 | a :: a', b :: b', h => by simp only [ZbU, ZkE (a := a') (b := b') (by simpa using h), Bool.and_false]
theorem ZdW : ∀ a : Wf, ZbU a a = true
 | [] => rfl
 | a :: a' => by simp [ZbU, ZdW a']
theorem Zpa (n1 n2 : Bool) (a b : Wf) (ha : a.wf) : Qe Tryz.prog VJ [LC n1 a, LC n2 b] (· = B (ZbU a b)) := by
 have hla := ha.1
 refine Qe.of_codeOf ZhX Qy (by simp) ⟨_, rfl, by simp⟩ ?_
 simp (disch := omega) [ZcA]
 (with_reducible first | refine Ql (fun h1 => ?_) (fun h1 => ?_) | refine Qk (fun h1 => ?_) (fun h1 => ?_))
 ·simp (disch := omega) [h1]
  simp only [Qf, Qd, Qi, Qg, Qc, Qb, Bool.not_true, Bool.not_false] at h1
  refine Q9 a.length 0 (fun i t _ => t 5 = N i ∧ ZbU a b = ZbU (a.drop i) (b.drop i)) (by simp) (by omega) ?_
  rintro i t1 hh hf hi ⟨e5, hj⟩
  (have e0 := hf 0 (by kernel_rfl); have e1 := hf 1 (by kernel_rfl); clear hf; simp [] at e0 e1)
  simp (disch := omega) [e0, e1, e5]
  (with_reducible first | refine Ql (fun h6 => ?_) (fun h6 => ?_) | refine Qk (fun h6 => ?_) (fun h6 => ?_))
  ·simp only [Qf, Qd, Qi, Qg, Qc, Qb, Bool.not_true, Bool.not_false] at h6
   have hd1 := List.drop_eq_getElem_cons (l := a) (i := i) (by omega)
   have hd2 := List.drop_eq_getElem_cons (l := b) (i := i) (by omega)
   have hq2 : ZbU a b = ((a[i]'(by omega)).2 == (b[i]'(by omega)).2 && ZbU (a.drop (i + 1)) (b.drop (i + 1))) := by rw [hj, hd1, hd2]; rfl
   clear hd1 hd2 hj
   have hL := ha.2 (a[i]'(by omega)) (List.getElem_mem _)
   have hc := ZcQ (a[i]'(by omega)).1 (b[i]'(by omega)).1 (a[i]'(by omega)).2 (b[i]'(by omega)).2 hL.1
   simp (disch := omega) [e0, e1, e5, JW]
   generalize ((a[i]'(by omega)).2 == (b[i]'(by omega)).2) = q1 at *
   repeat' (first
  | with_reducible refine Qa (hc) (by simp) ?_
  | (with_reducible (first | refine Ql (fun hb_ => ?_) (fun hb_ => ?_) | refine Qk (fun hb_ => ?_) (fun hb_ => ?_)) <;> simp (disch := omega) [hb_, e0, e1, e5, JW, Qh])
  | simp (disch := omega) [e0, e1, e5, JW, Qh])
   ·exact ⟨by omega, by rw [hq2, hb_, Bool.true_and]⟩
   ·rw [hq2, hb_, Bool.false_and]
  ·simp only [Qf, Qd, Qi, Qg, Qc, Qb, Bool.not_true, Bool.not_false] at h6
   simp (disch := omega)
   rw [hj, List.drop_of_length_le (by omega), List.drop_of_length_le (by omega)]; rfl
 ·simp (disch := omega) [h1]
  simp only [Qf, Qd, Qi, Qg, Qc, Qb, Bool.not_true, Bool.not_false] at h1
  exact ZkE (by omega)
end Go.Proofs.YtclfngbealdbgaaGreat
namespace Go.Proofs.YtclfngbealdbgaaGreat.Ty
def QJ (c : Int) : Bool := (decide (3 ≤ c) && decide (c ≤ 18)) || c == 35
def W6 (c : Int) : Bool := (decide (19 ≤ c) && decide (c ≤ 34)) || c == 36
def WC (c : Int) : Option Nat :=
 if c = 0 then some 0 else if c = 1 ∨ c = 2 ∨ QJ c = true then some 2 else if W6 c = true then some 1 else none
def skip : Nat → List Int → Option (List Int)
 | 0, l => some l
 | _ + 1, [] => none
 | n + 1, c :: l => match WC c with
  | none => none
  | some k => skip (n + k) l
def Ku (n : Nat) (l : List Int) (len : Nat) : Int := match skip n l with
 | some r => (len : Int) - r.length
 | none => -1
def wty (l : List Int) : Bool := decide (1 ≤ l.length) && decide (l.length ≤ 40) && (skip 1 l == some [])
theorem Zje {c : Int} {k : Nat} (h : WC c = some k) : k ≤ 2 := by
 unfold WC at h
 split at h
 ·simp at h; omega
 ·split at h
  ·simp at h; omega
  ·split at h
   ·simp at h; omega
   ·simp at h
theorem ZhM (b : Nat) : ∀ (l : List Int) (a : Nat), skip (a + b) l = (skip a l).bind (skip b)
 | [], 0 => by simp [skip]
 | [], a + 1 => by rw [show a + 1 + b = (a + b) + 1 by omega]; simp [skip]
 | c :: l, 0 => by simp [skip]
 | c :: l, a + 1 => by
  rw [show a + 1 + b = (a + b) + 1 by omega]
  simp only [skip]
  cases h : WC c with
  | none => simp
  | some k =>
   simp only
   rw [show a + b + k = (a + k) + b by omega]
   exact ZhM b l (a + k)
theorem ZfN : ∀ (l : List Int) (n : Nat) (r : List Int), skip n l = some r → ∃ m, r = l.drop m ∧ n ≤ m ∧ m ≤ l.length
 | l, 0, r, h => ⟨0, by simp [skip] at h; simp [h], by omega, by omega⟩
 | [], n + 1, r, h => by simp [skip] at h
 | c :: l, n + 1, r, h => by
  simp only [skip] at h
  cases hk : WC c with
  | none => simp [hk] at h
  | some k =>
   simp only [hk] at h
   obtain ⟨m, hm, h1, h2⟩ := ZfN l (n + k) r h
   exact ⟨m + 1, by simpa using hm, by omega, by simp; omega⟩
theorem Zgm {l r : List Int} {n : Nat} (h : skip n l = some r) : r.length + n ≤ l.length := by
 obtain ⟨m, rfl, h1, h2⟩ := ZfN l n r h
 simp; omega
end Go.Proofs.YtclfngbealdbgaaGreat.Ty
namespace Go.Proofs.YtclfngbealdbgaaGreat
open Go Go.TL
open Go.Proofs.YtclfngbealdbgaaGreat.Ty
set_option linter.unusedSimpArgs false
set_option linter.unusedVariables false
set_option maxRecDepth 20000
set_option maxHeartbeats 4000000
def Qz (k : Int) : Int × Int :=
 if Wb k 0 2 = true then (k, -1) else if Wb k 3 18 = true then (3, k - 3) else if Wb k 19 34 = true then (4, k - 19)
 else if eqB k 35 = true then (3, -1) else if eqB k 36 = true then (4, -1) else (5, -1)
theorem KD (k : Int) (h : I64 k) : Qe Tryz.prog XN [N k] (· = .tup [N (Qz k).1, N (Qz k).2]) := by
 obtain ⟨ha, hb⟩ := h
 refine Qe.of_codeOf Zl4 Qy (by simp) ⟨_, rfl, by simp⟩ ?_
 simp (disch := omega) [Zel]
 repeat' (first
  | with_reducible refine Qa (Jm _ _ _) (by simp) ?_
  | (with_reducible (first | refine Ql (fun hb_ => ?_) (fun hb_ => ?_) | refine Qk (fun hb_ => ?_) (fun hb_ => ?_)) <;> simp (disch := omega) [hb_])
  | simp (disch := omega))
 all_goals unfold Qz
 ·simp_all
 ·rename_i h0
  rw [Q7] at hb_
  rw [if_neg (by simp_all), if_pos (by rw [Q7]; exact hb_)]
  simp (disch := omega) [Qh]
 ·rename_i h0 h1
  rw [Q7] at hb_
  rw [if_neg (by simp_all), if_neg (by simp_all), if_pos (by rw [Q7]; exact hb_)]
  simp (disch := omega) [Qh]
 all_goals simp_all
def Za (l : List Int) (i : Int) : Int := if 0 ≤ i then Ku 1 (l.drop i.toNat) l.length else -1
theorem Zm5 {l : List Int} {i : Int} (h : i < 0 ∨ l.length ≤ i) : Za l i = -1 := by
 unfold Za
 split
 ·rw [List.drop_eq_nil_of_le (by omega)]; simp [Ku, Ty.skip]
 ·rfl
theorem ZoZ {l : List Int} {i : Int} (h : 0 ≤ i) : Za l i = -1 ∨ (i < Za l i ∧ Za l i ≤ l.length) := by
 unfold Za Ku
 rw [if_pos h]
 cases hs : Ty.skip 1 (l.drop i.toNat) with
 | none => exact .inl rfl
 | some r =>
  have := Zgm hs
  simp only [List.length_drop] at this ⊢
  right; omega
theorem ZoX (c : Int) : WC c = if c = 0 then some 0 else if (1 ≤ c ∧ c ≤ 18) ∨ c = 35 then some 2 else if (19 ≤ c ∧ c ≤ 34) ∨ c = 36 then some 1 else none := by
 have e1 : (c = 1 ∨ c = 2 ∨ QJ c = true) ↔ ((1 ≤ c ∧ c ≤ 18) ∨ c = 35) := by simp [QJ]; omega
 have e2 : (W6 c = true) ↔ ((19 ≤ c ∧ c ≤ 34) ∨ c = 36) := by simp [W6]
 unfold WC
 simp only [e1, e2]
theorem Zol (c : Int) : ((Qz c).1 = 0 ∧ WC c = some 0) ∨ ((Qz c).1 = 4 ∧ WC c = some 1) ∨ ((Qz c).1 = 5 ∧ WC c = none) ∨ ((Qz c).1 ≠ 0 ∧ (Qz c).1 ≠ 4 ∧ (Qz c).1 ≠ 5 ∧ WC c = some 2) := by
 rw [ZoX]
 unfold Qz
 simp only [Q7, Qc]
 by_cases h0 : 0 ≤ c ∧ c ≤ 2
 ·rw [if_pos h0]
  by_cases h : c = 0
  ·simp [h]
  ·rw [if_neg h, if_pos (by omega)]; simp; omega
 rw [if_neg h0, if_neg (show ¬ c = 0 by omega)]
 by_cases h1 : 3 ≤ c ∧ c ≤ 18
 ·rw [if_pos h1, if_pos (by omega)]; simp
 rw [if_neg h1]
 by_cases h2 : 19 ≤ c ∧ c ≤ 34
 ·rw [if_pos h2, if_neg (by omega), if_pos (by omega)]; simp
 rw [if_neg h2]
 by_cases h3 : c = 35
 ·simp [h3]
 rw [if_neg h3]
 by_cases h4 : c = 36
 ·simp [h4]
 rw [if_neg h4, if_neg (by omega), if_neg (by omega)]
 simp
theorem tEnd_in {l : List Int} {i : Int} (h0 : 0 ≤ i) (h1 : i < l.length) (c : Int) (hc : c = l[i.toNat]'(by omega)) :
  ((Qz c).1 = 0 → Za l i = i + 1) ∧ ((Qz c).1 = 4 → Za l i = Za l (i + 1)) ∧ ((Qz c).1 = 5 → Za l i = -1) ∧
  ((Qz c).1 ≠ 0 → (Qz c).1 ≠ 4 → (Qz c).1 ≠ 5 → Za l i = Za l (Za l (i + 1))) := by
 have hd : l.drop i.toNat = c :: l.drop (i.toNat + 1) := by rw [hc]; exact List.drop_eq_getElem_cons (by omega)
 have e1 : (i + 1).toNat = i.toNat + 1 := by omega
 have key : Za l i = match WC c with
   | none => -1
   | some k => Ku (0 + k) (l.drop (i.toNat + 1)) l.length := by
  unfold Za Ku
  rw [if_pos h0, hd]
  simp only [Ty.skip]
  cases WC c <;> rfl
 rcases Zol c with ⟨a, b⟩ | ⟨a, b⟩ | ⟨a, b⟩ | ⟨a1, a2, a3, b⟩
 ·rw [b] at key
  refine ⟨fun _ => ?_, fun h => by omega, fun h => by omega, fun h => absurd a h⟩
  rw [key]; simp [Ku, Ty.skip]; omega
 ·rw [b] at key
  refine ⟨fun h => by omega, fun _ => ?_, fun h => by omega, fun _ h => absurd a h⟩
  rw [key]; unfold Za; rw [if_pos (by omega), e1]
 ·rw [b] at key
  exact ⟨fun h => by omega, fun h => by omega, fun _ => key, fun _ _ h => absurd a h⟩
 ·rw [b] at key
  refine ⟨fun h => absurd h a1, fun h => absurd h a2, fun h => absurd h a3, fun _ _ _ => ?_⟩
  rw [key]
  show Ku (1 + 1) _ _ = _
  unfold Za
  rw [if_pos (show 0 ≤ i + 1 by omega), e1]
  unfold Ku
  rw [ZhM]
  cases hs : Ty.skip 1 (l.drop (i.toNat + 1)) with
  | none => simp
  | some r =>
   obtain ⟨m, hm, h2, h3⟩ := ZfN _ _ _ hs
   have hr : r.length ≤ l.length := by rw [hm]; simp
   simp only [Option.bind_some]
   rw [if_pos (by omega)]
   have : l.drop ((l.length : Int) - r.length).toNat = r := by
    rw [hm, List.drop_drop]
    simp only [List.length_drop] at h3 ⊢
    congr 1; omega
   rw [this]
def meas (l : List Int) (i : Int) : Nat := if i < 0 then 0 else (l.length + 1 - i).toNat
theorem Ziq (nl : Bool) (l : List Int) (hl : Lok l) (i : Int) (hi : I64 i) : Qe Tryz.prog W2 [L nl l, N i] (· = N (Za l i)) := by
 have hlen := hl.1
 generalize hd : meas l i = d
 induction d using Nat.strongRecOn generalizing i with
 | _ d ih =>
  obtain ⟨ha, hb⟩ := hi
  refine Qe.of_codeOf Zhs Qy (by simp) ⟨_, rfl, by simp⟩ ?_
  simp (disch := omega) [Zcv, Qh]
  (with_reducible first | refine Ql (fun h1 => ?_) (fun h1 => ?_) | refine Qk (fun h1 => ?_) (fun h1 => ?_))
  ·simp (disch := omega) [h1]
   simp only [Qf, Qd, Qi, Qg, Qc, Qb, Bool.not_true, Bool.not_false] at h1
   exact (Zm5 (.inl h1)).symm
  simp (disch := omega) [h1]
  (with_reducible first | refine Ql (fun h2 => ?_) (fun h2 => ?_) | refine Qk (fun h2 => ?_) (fun h2 => ?_))
  ·simp (disch := omega) [h2]
   simp only [Qf, Qd, Qi, Qg, Qc, Qb, Bool.not_true, Bool.not_false] at h2
   exact (Zm5 (.inr h2)).symm
  simp only [Qf, Qd, Qi, Qg, Qc, Qb, Bool.not_true, Bool.not_false] at h1 h2
  simp (disch := omega) [Xj]
  have hci : I64 (l[i.toNat]'(by omega)) := hl.2 _ (List.getElem_mem _)
  generalize hc : l[i.toNat]'(by omega) = c at *
  obtain ⟨g0, g4, g5, g2⟩ := tEnd_in h1 h2 c hc.symm
  have i1 : Qe Tryz.prog W2 [L nl l, N (i + 1)] (· = N (Za l (i + 1))) := ih _ (by rw [← hd]; unfold meas; rw [if_neg (by omega), if_neg (by omega)]; omega) (i + 1) ⟨by omega, by omega⟩ rfl
  have hr := ZoZ (l := l) (i := i + 1) (by omega)
  have i2 : Qe Tryz.prog W2 [L nl l, N (Za l (i + 1))] (· = N (Za l (Za l (i + 1)))) := ih _ (by rw [← hd]; unfold meas; split <;> (rw [if_neg (by omega)]; omega)) _ ⟨by omega, by omega⟩ rfl
  repeat' (first
  | with_reducible refine Qa (KD _ hci) (by simp) ?_
  | with_reducible refine Qa (i1) (by simp) ?_
  | with_reducible refine Qa (i2) (by simp) ?_
  | (with_reducible (first | refine Ql (fun hb_ => ?_) (fun hb_ => ?_) | refine Qk (fun hb_ => ?_) (fun hb_ => ?_)) <;> simp (disch := omega) [hb_, Qh])
  | simp (disch := omega) [Qh])
  all_goals simp only [Qf, Qd, Qi, Qg, Qc, Qb, Bool.not_true, Bool.not_false] at *
  ·exact (g0 (by omega)).symm
  ·exact (g4 (by omega)).symm
  ·exact (g5 (by omega)).symm
  ·exact (g2 (by omega) (by omega) (by omega)).symm
theorem Zmo (l : List Int) : wty l = (Wb l.length 1 40 && eqB (Za l 0) l.length) := by
 have : (Ty.skip 1 l == some []) = eqB (Za l 0) l.length := by
  unfold Za Ku eqB
  simp only [Int.le_refl, if_true, Int.toNat_zero, List.drop_zero]
  cases h : Ty.skip 1 l with
  | none => simp
  | some r =>
   have := Zgm h
   cases r with
   | nil => simp
   | cons a r => simp; omega
 rw [← this, wty]
 congr 1
 rw [Bool.eq_iff_iff]; simp [Wb, leB]; omega
theorem Zfj (nl : Bool) (l : List Int) (hl : Lok l) : Qe Tryz.prog Zc [L nl l] (· = B (wty l)) := by
 refine Qe.of_codeOf ZbX Qy (by simp) ⟨_, rfl, by simp⟩ ?_
 have h0 : I64 0 := ⟨by omega, by omega⟩
 have hl1 := hl.1
 simp (disch := omega) [Ks]
 repeat' (first
  | with_reducible refine Qa (Jm _ _ _) (by simp) ?_
  | with_reducible refine Qa (Ziq nl l hl 0 h0) (by simp) ?_
  | (with_reducible (first | refine Ql (fun hb_ => ?_) (fun hb_ => ?_) | refine Qk (fun hb_ => ?_) (fun hb_ => ?_)) <;> simp (disch := omega) [hb_])
  | simp (disch := omega))
 all_goals simp_all [Zmo]
theorem ZiD (c : Int) : QJ c = (Wb c 3 18 || eqB c 35) := by
 unfold QJ Wb leB eqB
 by_cases h : c = 35 <;> simp [h]
theorem ZlZ (c : Int) : W6 c = (Wb c 19 34 || eqB c 36) := by
 unfold W6 Wb leB eqB
 by_cases h : c = 36 <;> simp [h]
theorem XL (c : Int) : QJ c = true ↔ (3 ≤ c ∧ c ≤ 18) ∨ c = 35 := by simp [QJ]
theorem Zb3 (c : Int) : W6 c = true ↔ (19 ≤ c ∧ c ≤ 34) ∨ c = 36 := by simp [W6]
theorem Zh4 (c : Int) : Qe Tryz.prog Zj [N c] (· = B (QJ c)) := by
 refine Qe.of_codeOf Zii Qy (by simp) ⟨_, rfl, by simp⟩ ?_
 simp (disch := omega) [Zcf]
 repeat' (first
  | with_reducible refine Qa (Zht _ _ _) (by simp) ?_
  | (with_reducible (first | refine Ql (fun hb_ => ?_) (fun hb_ => ?_) | refine Qk (fun hb_ => ?_) (fun hb_ => ?_)) <;> simp (disch := omega) [hb_])
  | simp (disch := omega))
 all_goals simp_all [ZiD]
theorem Zoj (c : Int) : Qe Tryz.prog K5 [N c] (· = B (W6 c)) := by
 refine Qe.of_codeOf ZlI Qy (by simp) ⟨_, rfl, by simp⟩ ?_
 simp (disch := omega) [ZeP]
 repeat' (first
  | with_reducible refine Qa (Zht _ _ _) (by simp) ?_
  | (with_reducible (first | refine Ql (fun hb_ => ?_) (fun hb_ => ?_) | refine Qk (fun hb_ => ?_) (fun hb_ => ?_)) <;> simp (disch := omega) [hb_])
  | simp (disch := omega))
 all_goals simp_all [ZlZ]
def Zdn (c : Int) : Int := match WC c with
 | some n => n
 | none => -1
theorem kidsI' (c : Int) : Zdn c = if c = 0 then 0 else if c = 1 ∨ c = 2 ∨ QJ c = true then 2 else if W6 c = true then 1 else -1 := by
 unfold Zdn WC
 split <;> rename_i h <;> (repeat' split at h) <;> simp_all
 all_goals omega
theorem Zhd (c : Int) : Qe Tryz.prog ZN [N c] (· = N (Zdn c)) := by
 refine Qe.of_codeOf Zjj Qy (by simp) ⟨_, rfl, by simp⟩ ?_
 simp (disch := omega) [Zdk]
 repeat' (first
  | with_reducible refine Qa (Zh4 _) (by simp) ?_
  | with_reducible refine Qa (Zoj _) (by simp) ?_
  | (with_reducible (first | refine Ql (fun hb_ => ?_) (fun hb_ => ?_) | refine Qk (fun hb_ => ?_) (fun hb_ => ?_)) <;> simp (disch := omega) [hb_])
  | simp (disch := omega))
 all_goals simp_all [kidsI', Qf, Qd, Qi, Qg, Qc, Qb, Bool.not_true, Bool.not_false]
def Wp (c : Int) : Int := if 35 ≤ c then -1 else if 19 ≤ c then c - 19 else c - 3
theorem ZbY (c : Int) (h : I64 c) (hg : 0 ≤ c) : Qe Tryz.prog XY [N c] (· = N (Wp c)) := by
 refine Qe.of_codeOf ZhD Qy (by simp) ⟨_, rfl, by simp⟩ ?_
 obtain ⟨h1, h2⟩ := h
 simp (disch := omega) [ZbW, Qh]
 repeat' (first
  | (with_reducible (first | refine Ql (fun hb_ => ?_) (fun hb_ => ?_) | refine Qk (fun hb_ => ?_) (fun hb_ => ?_)) <;> simp (disch := omega) [hb_, Qh])
  | simp (disch := omega) [Qh])
 all_goals simp only [Qf, Qd, Qi, Qg, Qc, Qb, Bool.not_true, Bool.not_false, Wp] at *
 ·rw [if_pos hb_]
 ·rename_i h
  rw [if_neg (by omega), if_pos hb_]
 ·rename_i h
  rw [if_neg (by omega), if_neg (by omega)]
theorem Znr (nl : Bool) (l : List Int) (hl : Lok l) (i : Nat) (hi : i ≤ l.length) : Qe Tryz.prog Va [L nl l, N i] (· = N (Za l i)) := by
 have hlen := hl.1
 refine Qe.of_codeOf ZlP Qy (by simp) ⟨_, rfl, by simp⟩ ?_
 simp (disch := omega) [ZeG]
 refine Q9 l.length i (fun j t _ => ∃ m : Nat, t 6 = N j ∧ t 5 = N (m + 1) ∧ m ≤ j ∧ Za l i = Ku (m + 1) (l.drop j) l.length) ⟨0, by simp, by simp, by omega, by unfold Za; rw [if_pos (by omega)]; simp⟩ hi ?_
 rintro j t1 hh hf hj ⟨m, e6, e5, hm, he⟩
 (have e0 := hf 0 (by kernel_rfl); clear hf; simp [] at e0)
 simp (disch := omega) [e0, e5, e6]
 (with_reducible first | refine Ql (fun h6 => ?_) (fun h6 => ?_) | refine Qk (fun h6 => ?_) (fun h6 => ?_))
 ·simp only [Qf, Qd, Qi, Qg, Qc, Qb, Bool.not_true, Bool.not_false] at h6
  simp (disch := omega) [e0, e5, e6, Xj]
  have hd : l.drop j = l[j] :: l.drop (j + 1) := List.drop_eq_getElem_cons (by omega)
  generalize l[j]'(by omega) = c at *
  have key : Za l i = match WC c with
    | none => -1
    | some q => Ku (m + q) (l.drop (j + 1)) l.length := by
   rw [he, hd]
   unfold Ku
   simp only [Ty.skip]
   cases WC c <;> rfl
  refine Qa (Zhd c) (by simp) ?_
  cases hq : WC c with
  | none =>
   rw [hq] at key
   have hk1 : Zdn c = -1 := by simp [Zdn, hq]
   rw [hk1]
   have hn1 : ltB (-1) 0 = true := by simp [Qf, Qd, Qi, Qg, Qc, Qb, Bool.not_true, Bool.not_false]
   repeat' (first
  | (with_reducible (first | refine Ql (fun hb_ => ?_) (fun hb_ => ?_) | refine Qk (fun hb_ => ?_) (fun hb_ => ?_)) <;> simp (disch := omega) [hb_, e0, e5, e6, hn1])
  | simp (disch := omega) [e0, e5, e6, hn1])
   exact key.symm
  | some q =>
   rw [hq] at key
   have hk1 : Zdn c = q := by simp [Zdn, hq]
   have hq2 := Zje hq
   rw [hk1]
   simp (disch := omega) [e0, e5, e6, Qh]
   repeat' (first
  | (with_reducible (first | refine Ql (fun hb_ => ?_) (fun hb_ => ?_) | refine Qk (fun hb_ => ?_) (fun hb_ => ?_)) <;> simp (disch := omega) [hb_, e0, e5, e6, Qh])
  | simp (disch := omega) [e0, e5, e6, Qh])
   all_goals simp only [Qf, Qd, Qi, Qg, Qc, Qb, Bool.not_true, Bool.not_false] at *
   ·omega
   ·rw [key]
    show _ = Ku (m + q) _ _
    rw [show m + q = 0 by omega]; simp [Ku, Ty.skip]; omega
   ·refine ⟨by omega, m + q - 1, by omega, by omega, ?_⟩
    rw [key, show m + q - 1 + 1 = m + q by omega]
 ·simp only [Qf, Qd, Qi, Qg, Qc, Qb, Bool.not_true, Bool.not_false] at h6
  simp (disch := omega)
  rw [he, List.drop_eq_nil_of_le (by omega)]; simp [Ku, Ty.skip]
theorem Zfm (nl : Bool) (l : List Int) (hl : Lok l) : Qe Tryz.prog YX [L nl l] (· = B (wty l)) := by
 refine Qe.of_codeOf ZjF Qy (by simp) ⟨_, rfl, by simp⟩ ?_
 have hl1 := hl.1
 have hE := Znr nl l hl 0 (by omega)
 simp (disch := omega) [Zdl]
 repeat' (first
  | with_reducible refine Qa (hE) (by simp) ?_
  | (with_reducible (first | refine Ql (fun hb_ => ?_) (fun hb_ => ?_) | refine Qk (fun hb_ => ?_) (fun hb_ => ?_)) <;> simp (disch := omega) [hb_])
  | simp (disch := omega))
 ·rw [Zmo, hb_]
  simp_all [Wb, ltB, leB]
  omega
 all_goals simp_all [Zmo, Wb]
def okC (size : Int) (closed : Bool) (c : Int) : Bool := !(QJ c || W6 c) || (ltB (Wp c) size && (!closed || leB 0 (Wp c)))
def YA (size : Int) (closed : Bool) (l : List Int) (i : Nat) : Bool := okC size closed (l.getD i 0)
def Z4 (size : Int) (closed : Bool) (l : List Int) : Bool := YE (YA size closed l) l.length
theorem Zos (c : Int) : (ltB 0 (Zdn c) && ltB 2 c) = (QJ c || W6 c) := by
 rw [Bool.eq_iff_iff]
 simp only [kidsI', Bool.and_eq_true, Bool.or_eq_true, Qf, Qd, Qi, Qg, Qc, Qb, Bool.not_true, Bool.not_false, XL, Zb3]
 repeat' split
 all_goals omega
theorem Zf0 (nl : Bool) (l : List Int) (hl : Lok l) (size : Int) (hs : I64 size) (closed : Bool) : Qe Tryz.prog ZW [L nl l, N size, B closed] (· = B (Z4 size closed l)) := by
 have hlen := hl.1
 refine Qe.of_codeOf ZgM Qy (by simp) ⟨_, rfl, by simp⟩ ?_
 simp (disch := omega) [Zbv]
 refine Q9 l.length 0 (fun i t _ => t 7 = N i ∧ YE (YA size closed l) i = true) (by simp) (by omega) ?_
 rintro i t1 hh hf hi ⟨e7, hj⟩
 (have e0 := hf 0 (by kernel_rfl); have e1 := hf 1 (by kernel_rfl); have e2 := hf 2 (by kernel_rfl); clear hf; simp [] at e0 e1 e2)
 simp (disch := omega) [e0, e1, e2, e7]
 (with_reducible first | refine Ql (fun h6 => ?_) (fun h6 => ?_) | refine Qk (fun h6 => ?_) (fun h6 => ?_))
 ·simp only [Qf, Qd, Qi, Qg, Qc, Qb, Bool.not_true, Bool.not_false] at h6
  have hc := hl.at (i := i) (by omega)
  have hget : YA size closed l i = okC size closed (l[i]'(by omega)) := by simp [YA, show i < l.length by omega]
  obtain ⟨c, hce⟩ : ∃ c, l[i]'(by omega) = c := ⟨_, rfl⟩
  rw [hce] at hc hget
  have hkg := Zos c
  simp (disch := omega) [e0, e1, e2, e7, Xj, hce]
  refine Qa (Zhd c) (by simp) ?_
  refine ZeW (fun t h => t 27 = B (QJ c || W6 c)) ?_ ?_
  ·repeat' (first
  | (with_reducible (first | refine Ql (fun hb_ => ?_) (fun hb_ => ?_) | refine Qk (fun hb_ => ?_) (fun hb_ => ?_)) <;> simp (disch := omega) [hb_, e0, e1, e2, e7, Xj, hce])
  | simp (disch := omega) [e0, e1, e2, e7, Xj, hce])
   all_goals simp_all
  ·rintro t2 hh hf h27
   (have f0 := hf 0 (by kernel_rfl); have f1 := hf 1 (by kernel_rfl); have f2 := hf 2 (by kernel_rfl); have f7 := hf 7 (by kernel_rfl); clear hf; simp [e0, e1, e2, e7] at f0 f1 f2 f7)
   simp (disch := omega) [h27]
   (with_reducible first | refine Ql (fun h8 => ?_) (fun h8 => ?_) | refine Qk (fun h8 => ?_) (fun h8 => ?_))
   ·have hc0 : 0 ≤ c := by simp only [Bool.or_eq_true, XL, Zb3] at h8; omega
    rw [okC, h8, ZaR] at hget
    cases closed <;> repeat' (first
  | with_reducible refine Qa (ZbY c hc hc0) (by simp) ?_
  | (with_reducible (first | refine Ql (fun hb_ => ?_) (fun hb_ => ?_) | refine Qk (fun hb_ => ?_) (fun hb_ => ?_)) <;> simp (disch := omega) [hb_, f0, f1, f2, f7, Xj, hce])
  | simp (disch := omega) [f0, f1, f2, f7, Xj, hce])
    ·exact Xu (p := YA size false l) (i := i) (by omega) (by simp [hget, hb_])
    ·exact ⟨by omega, Qh (by omega), by simp [Wy, hj, hget, hb_]⟩
    ·exact Xu (p := YA size true l) (i := i) (by omega) (by simp [hget, hb_])
    ·exact Xu (p := YA size true l) (i := i) (by omega) (by rw [ZaR] at hb_; simp at hb_; simp [hget, hb_])
    ·refine ⟨by omega, Qh (by omega), ?_⟩
     rw [ZaR] at hb_
     simp_all [Wy]
   ·simp (disch := omega) [f0, f1, f2, f7]
    exact ⟨by omega, Qh (by omega), by simp [Wy, hj, hget, okC, h8]⟩
 ·simp only [Qf, Qd, Qi, Qg, Qc, Qb, Bool.not_true, Bool.not_false] at h6
  simp (disch := omega)
  rw [← hj, show i = l.length by omega, Z4]
theorem ZmD {c : Int} (h : 0 ≤ c ∧ c ≤ 36) : ((eqB (Qz c).1 3 || eqB (Qz c).1 4) = (QJ c || W6 c)) ∧ ((QJ c || W6 c) = true → (Qz c).2 = Wp c) := by
 unfold Qz Wp
 simp only [Q7, Qc]
 refine ⟨?_, fun h1 => ?_⟩
 ·rw [Bool.eq_iff_iff]
  simp only [Bool.or_eq_true, XL, Zb3, Qc]
  repeat' split
  all_goals (simp; try omega)
 ·simp only [Bool.or_eq_true, XL, Zb3] at h1
  repeat' split
  all_goals (simp; try omega)
theorem Zf7 {c : Int} {k : Nat} (h : WC c = some k) : 0 ≤ c ∧ c ≤ 36 := by
 rw [ZoX] at h
 repeat' split at h
 all_goals first | omega | simp at h
theorem Zh6 : ∀ (l : List Int) (n : Nat) (r : List Int), Ty.skip n l = some r → ∀ i, i + r.length < l.length → 0 ≤ l.getD i 0 ∧ l.getD i 0 ≤ 36
 | l, 0, r, h, i, hi => by simp [Ty.skip] at h; subst h; omega
 | [], n + 1, r, h, i, hi => by simp [Ty.skip] at h
 | c :: l, n + 1, r, h, i, hi => by
  simp only [Ty.skip] at h
  cases hk : WC c with
  | none => simp [hk] at h
  | some k =>
   simp only [hk] at h
   cases i with
   | zero => simpa using Zf7 hk
   | succ i =>
    have := Zh6 l (n + k) r h i (by simp at hi; omega)
    simpa using this
theorem ZkO {l : List Int} (h : wty l = true) (i : Nat) (hi : i < l.length) : 0 ≤ l.getD i 0 ∧ l.getD i 0 ≤ 36 := by
 simp [wty] at h
 exact Zh6 l 1 [] h.2 i (by simpa using hi)
theorem Zf5 {s : GSys} (t : s.Tab) (nl : Bool) (l : List Int) (hl : Lok l) : Qe Tryz.prog Z0 [s.lv, L nl l] (· = B (wty l && Z4 s.size true l)) := by
 have hlen := hl.1
 have h2 := t.lo; have h16 := t.hi
 refine Qe.of_codeOf ZgT Qy (by simp) ⟨_, rfl, by simp⟩ ?_
 simp (disch := omega) [Zbn, Qw, Qu]
 refine Qa (Zfj nl l hl) (by simp) ?_
 simp (disch := omega)
 (with_reducible first | refine Ql (fun h1 => ?_) (fun h1 => ?_) | refine Qk (fun h1 => ?_) (fun h1 => ?_))
 ·rw [h1, Bool.true_and]
  simp (disch := omega)
  refine Q9 l.length 0 (fun i t _ => t 14 = N i ∧ YE (YA s.size true l) i = true) (by simp) (by omega) ?_
  rintro i t1 hh hf hi ⟨e14, hj⟩
  (have e2 := hf 2 (by kernel_rfl); have e12 := hf 12 (by kernel_rfl); have e13 := hf 13 (by kernel_rfl); clear hf; simp [] at e2 e12 e13)
  simp (disch := omega) [e2, e12, e13, e14]
  (with_reducible first | refine Ql (fun h6 => ?_) (fun h6 => ?_) | refine Qk (fun h6 => ?_) (fun h6 => ?_))
  ·simp only [Qf, Qd, Qi, Qg, Qc, Qb, Bool.not_true, Bool.not_false] at h6
   have hc := hl.at (i := i) (by omega)
   have hcr := ZkO h1 i (by omega)
   have hget : YA s.size true l i = okC s.size true (l[i]'(by omega)) := by simp [YA, show i < l.length by omega]
   simp only [List.getD_eq_getElem?_getD, List.getElem?_eq_getElem (show i < l.length by omega), Option.getD_some] at hcr
   obtain ⟨c, hce⟩ : ∃ c, l[i]'(by omega) = c := ⟨_, rfl⟩
   rw [hce] at hc hget hcr
   obtain ⟨hs1, hs2⟩ := ZmD hcr
   simp (disch := omega) [e2, e12, e13, e14, Xj, hce]
   refine Qa (KD c hc) (by simp) ?_
   simp (disch := omega) [e2, e12, e13, e14]
   rw [okC] at hget
   have hI : I64 s.size := ⟨by omega, by omega⟩
   have hlo : -9223372036854775808 < s.size := by omega
   have hwb : Wb (Qz c).2 0 (s.size - 1) = (leB 0 (Qz c).2 && ltB (Qz c).2 s.size) := by
    rw [Bool.eq_iff_iff]; simp [Wb, Qf, Qd, Qi, Qg, Qc, Qb, Bool.not_true, Bool.not_false]; omega
   simp only [Bool.not_true, Bool.false_or] at hget
   repeat' (first
  | with_reducible refine Qa (Zpc s hI hlo _) (by simp) ?_
  | (with_reducible (first | refine Ql (fun hb_ => ?_) (fun hb_ => ?_) | refine Qk (fun hb_ => ?_) (fun hb_ => ?_)) <;> simp (disch := omega) [hb_, e2, e12, e13, e14])
  | simp (disch := omega) [e2, e12, e13, e14])
   all_goals first
    | exact ⟨by omega, Qh (by omega), by simp_all [Wy]⟩
    | exact Xu (p := YA s.size true l) (i := i) (by omega) (by cases hB : leB 0 (Wp c) <;> cases hC : QJ c <;> cases hD : W6 c <;> simp_all)
  ·simp only [Qf, Qd, Qi, Qg, Qc, Qb, Bool.not_true, Bool.not_false] at h6
   simp (disch := omega)
   rw [show i = l.length by omega] at hj
   rw [Z4, hj]
 ·simp_all
end Go.Proofs.YtclfngbealdbgaaGreat
namespace Go.Proofs.YtclfngbealdbgaaGreat
open Go Go.TL
open Go.Proofs.YtclfngbealdbgaaGreat.Ty
set_option linter.unusedSimpArgs false
set_option linter.unusedVariables false
set_option maxRecDepth 20000
set_option maxHeartbeats 4000000
inductive GTerm where
 | mk (op n : Int) (nl1 : Bool) (ty : List Int) (nl2 : Bool) (ks : List GTerm)
mutual
def GTerm.cells : GTerm → List LV
 | .mk op n nl1 ty nl2 ks => [N op, N n, L nl1 ty, .sl false nl2 4 (QV ks)]
def QV : List GTerm → List (List LV)
 | [] => []
 | k :: ks => k.cells :: QV ks
end
abbrev GTerm.lv (t : GTerm) : LV := .agg t.cells
mutual
def GTerm.size : GTerm → Nat
 | .mk _ _ _ _ _ ks => Wl ks + 1
def Wl : List GTerm → Nat
 | [] => 0
 | k :: ks => k.size + Wl ks
end
mutual
def GTerm.wf : GTerm → Prop
 | .mk op n _ ty _ ks => I64 op ∧ I64 n ∧ Lok ty ∧ ks.length ≤ 1099511627776 ∧ wfs ks
def wfs : List GTerm → Prop
 | [] => True
 | k :: ks => k.wf ∧ wfs ks
end
theorem Vc : ∀ ks : List GTerm, QV ks = ks.map GTerm.cells
 | [] => by simp [QV]
 | k :: ks => by simp [QV, Vc ks]
@[simp] theorem Kl (ks : List GTerm) : (QV ks).length = ks.length := by simp [Vc]
theorem Z5 : ∀ {ks : List GTerm}, wfs ks ↔ ∀ k ∈ ks, k.wf
 | [] => by simp [wfs]
 | k :: ks => by simp [wfs, Z5 (ks := ks)]
theorem GTerm.size_pos (t : GTerm) : 0 < t.size := by cases t; simp [GTerm.size]
theorem ZkH : ∀ a b : List GTerm, Wl (a ++ b) = Wl a + Wl b
 | [], b => by simp [Wl]
 | k :: a, b => by simp [Wl, ZkH a b]; omega
theorem ZdT {ks : List GTerm} {i : Nat} (h : i < ks.length) : Wl (ks.drop i) = ks[i].size + Wl (ks.drop (i + 1)) := by
 rw [List.drop_eq_getElem_cons h, Wl]
theorem WP {ks : List GTerm} {i : Nat} (h : i < ks.length) : ks[i].size ≤ Wl ks := by
 have := ZdT h
 have h2 := ZkH (ks.take i) (ks.drop i)
 rw [List.take_append_drop] at h2
 omega
mutual
theorem Zgp : ∀ t : GTerm, shareAll t.cells = t.cells
 | .mk op n nl1 ty nl2 ks => by
  simp only [GTerm.cells, shareAll, share, ZaP ks]
  congr 3
  simp
theorem ZaP : ∀ ks : List GTerm, Qr (QV ks) = QV ks
 | [] => by simp [QV, Qr]
 | k :: ks => by simp only [QV, Qr, Zgp k, ZaP ks]
end
attribute [simp] Zgp ZaP
@[simp] theorem cells_length (t : GTerm) : t.cells.length = 4 := by cases t; simp [GTerm.cells]
@[simp] theorem take_cells (t : GTerm) : t.cells.take 4 = t.cells := List.take_of_length_le (by simp)
mutual
theorem low_cells (k : Nat) : ∀ t : GTerm, QD k t.cells
 | .mk op n nl1 ty nl2 ks => by
  have := ZdL k ks
  simp [GTerm.cells, this]
theorem ZdL (k : Nat) : ∀ ks : List GTerm, Wo k (QV ks)
 | [] => by simp [QV]
 | t :: ks => by simp [QV, low_cells k t, ZdL k ks]
end
attribute [simp] low_cells ZdL
@[simp] theorem alive_cells (t : GTerm) : WI t.cells = true := by
 cases t; simp [GTerm.cells]
theorem ZG (ks : List GTerm) (u nl : Bool) (i : Nat) (h : i < ks.length) : QF 4 (.sl u nl 4 (QV ks)) (i : Int) = some (.rp (ks[i]'h).cells) := by
 simp only [QF]
 rw [if_pos ⟨trivial, by omega, by simpa using h⟩]
 have : (QV ks).getD (i : Int).toNat [] = (ks[i]'h).cells := by
  simp [List.getD_eq_getElem?_getD, Vc, h]
 rw [this]
 simp
def Yh (op : Int) : Int := if op = 0 ∨ op = 1 then 0 else if op = 2 ∨ op = 4 ∨ op = 5 ∨ op = 10 ∨ op = 12 then 2 else if op = 3 ∨ op = 8 then 3 else if op = 6 ∨ op = 7 ∨ op = 9 ∨ op = 11 then 1 else -1
def Jo (op : Int) : Bool := eqB op 5 || eqB op 8 || eqB op 9 || eqB op 11 || eqB op 12
def WD (op : Int) : Bool := eqB op 6 || eqB op 7 || eqB op 9
def Qq (op k : Int) : Int := if op = 5 ∧ k = 1 then 2 else if (op = 8 ∧ 0 < k) ∨ op = 9 ∨ (op = 12 ∧ k = 1) then 1 else 0
theorem Zhb (op k : Int) : Qe Tryz.prog KE [N op, N k] (· = N (Qq op k)) := by
 refine Qe.of_codeOf ZmB Qy (by simp) ⟨_, rfl, by simp⟩ ?_
 simp (disch := omega) [Zge]
 repeat' (first
  | (with_reducible (first | refine Ql (fun hb_ => ?_) (fun hb_ => ?_) | refine Qk (fun hb_ => ?_) (fun hb_ => ?_)) <;> simp (disch := omega) [hb_])
  | simp (disch := omega))
 all_goals simp only [Qf, Qd, Qi, Qg, Qc, Qb, Bool.not_true, Bool.not_false] at *
 all_goals simp_all [Qq]
theorem ZfM (op k : Int) : Qe Tryz.prog ZQ [N op, N k] (· = N (Qq op k)) := by
 refine Qe.of_codeOf Zjv Qy (by simp) ⟨_, rfl, by simp⟩ ?_
 simp (disch := omega) [Zdt]
 repeat' (first
  | (with_reducible (first | refine Ql (fun hb_ => ?_) (fun hb_ => ?_) | refine Qk (fun hb_ => ?_) (fun hb_ => ?_)) <;> simp (disch := omega) [hb_])
  | simp (disch := omega))
 all_goals simp only [Qf, Qd, Qi, Qg, Qc, Qb, Bool.not_true, Bool.not_false] at *
 all_goals simp_all [Qq]
theorem l2Has_ok (op : Int) : Qe Tryz.prog Za2 [N op] (· = B (Jo op)) := by
 refine Qe.of_codeOf Zlf Qy (by simp) ⟨_, rfl, by simp⟩ ?_
 simp (disch := omega) [Zei]
 repeat' (first
  | (with_reducible (first | refine Ql (fun hb_ => ?_) (fun hb_ => ?_) | refine Qk (fun hb_ => ?_) (fun hb_ => ?_)) <;> simp (disch := omega) [hb_])
  | simp (disch := omega))
 all_goals simp_all [Jo]
theorem ZhO (op : Int) : Qe Tryz.prog JG [N op] (· = B (WD op)) := by
 refine Qe.of_codeOf ZiA Qy (by simp) ⟨_, rfl, by simp⟩ ?_
 simp (disch := omega) [Zcb]
 repeat' (first
  | (with_reducible (first | refine Ql (fun hb_ => ?_) (fun hb_ => ?_) | refine Qk (fun hb_ => ?_) (fun hb_ => ?_)) <;> simp (disch := omega) [hb_])
  | simp (disch := omega))
 all_goals simp_all [WD]
theorem ops13 {op : Int} (h : Wb op 0 12 = true) : op = 0 ∨ op = 1 ∨ op = 2 ∨ op = 3 ∨ op = 4 ∨ op = 5 ∨ op = 6 ∨ op = 7 ∨ op = 8 ∨ op = 9 ∨ op = 10 ∨ op = 11 ∨ op = 12 := by
 rw [Q7] at h; omega
theorem Zp0 (op : Int) : Qe Tryz.prog Zaa [N op] (· = N (Yh op)) := by
 refine Qe.of_codeOf ZjK Qy (by simp) ⟨_, rfl, by simp⟩ ?_
 simp (disch := omega) [Zc8]
 refine Qa (Zht _ _ _) (by simp) ?_
 simp (disch := omega)
 (with_reducible first | refine Ql (fun h1 => ?_) (fun h1 => ?_) | refine Qk (fun h1 => ?_) (fun h1 => ?_))
 ·rcases ops13 h1 with h | h | h | h | h | h | h | h | h | h | h | h | h <;> subst h <;> simp [QF, Yh, Qn]
 ·rw [Zey] at h1
  simp [Yh]
  repeat' split
  all_goals omega
def wordS (op : Int) : Value := if op = 0 then .string ⟨#[120]⟩ else if op = 2 then .string ⟨#[97, 100, 100]⟩ else if op = 3 then .string ⟨#[105, 102]⟩ else if op = 4 then .string ⟨#[112, 97, 105, 114]⟩ else if op = 5 then .string ⟨#[115, 112, 108, 105, 116]⟩
 else if op = 6 then .string ⟨#[108, 101, 102, 116]⟩ else if op = 7 then .string ⟨#[114, 105, 103, 104, 116]⟩ else if op = 8 then .string ⟨#[99, 97, 115, 101]⟩ else if op = 9 then .string ⟨#[102, 117, 110]⟩
 else if op = 10 then .string ⟨#[97, 112, 112]⟩ else if op = 11 then .string ⟨#[98, 111, 120]⟩ else if op = 12 then .string ⟨#[111, 112, 101, 110]⟩ else .string ⟨#[]⟩
abbrev wordV (op : Int) : LV := .sc (wordS op)
def Zio (op : Int) : LV := if Wb op 0 12 = true then .tup [.agg [wordV op, N (Yh op), B (Jo op), B (WD op)], B true] else .tup [.agg [.sc (.string ⟨#[]⟩), N 0, B false, B false], B false]
@[simp] theorem low_formV (op : Int) (k : Nat) : Low k (Zio op) := by
 unfold Zio; split <;> simp
theorem Zqd (op : Int) : Qe Tryz.prog VY [N op] (· = Zio op) := by
 refine Qe.of_codeOf ZjB Qy (by simp) ⟨_, rfl, by simp⟩ ?_
 simp (disch := omega) [Zdf]
 refine Qa (Jm _ _ _) (by simp) ?_
 simp (disch := omega)
 (with_reducible first | refine Ql (fun h1 => ?_) (fun h1 => ?_) | refine Qk (fun h1 => ?_) (fun h1 => ?_))
 ·rcases ops13 h1 with h | h | h | h | h | h | h | h | h | h | h | h | h <;> subst h <;> simp [QF, Qn, Yh, Zio, wordS, Jo, WD, Wb, leB, eqB]
 ·simp [Zio, h1]
end Go.Proofs.YtclfngbealdbgaaGreat
namespace Go.Proofs.YtclfngbealdbgaaGreat
open Go Go.TL
set_option linter.unusedSimpArgs false
set_option linter.unusedVariables false
set_option maxRecDepth 20000
set_option maxHeartbeats 4000000
mutual
def GTerm.raw : GTerm → Prop
 | .mk op n _ ty _ ks => I64 op ∧ I64 n ∧ (ty.length ≤ 9223372036854775807 ∧ ∀ c ∈ ty, I64 c) ∧ ks.length ≤ 9223372036854775807 ∧ raws ks
def raws : List GTerm → Prop
 | [] => True
 | k :: ks => k.raw ∧ raws ks
end
theorem Zi4 : ∀ {ks : List GTerm}, raws ks ↔ ∀ k ∈ ks, k.raw
 | [] => by simp [raws]
 | k :: ks => by simp [raws, Zi4 (ks := ks)]
mutual
def GTerm.w : GTerm → Nat
 | .mk _ _ _ ty _ ks => ty.length + (ks.length + tws ks)
def tws : List GTerm → Nat
 | [] => 0
 | k :: ks => k.w + tws ks
end
theorem ZmW {ks : List GTerm} {i : Nat} (h : i < ks.length) : tws (ks.drop i) = ks[i].w + tws (ks.drop (i + 1)) := by
 rw [List.drop_eq_getElem_cons h, tws]
mutual
theorem wf_of : ∀ (t : GTerm), t.raw → t.w ≤ 1099511627776 → t.wf
 | .mk op n nl1 ty nl2 ks, h, hw => by
  simp only [GTerm.raw, GTerm.w, GTerm.wf] at *
  exact ⟨h.1, h.2.1, ⟨by omega, h.2.2.1.2⟩, by omega, wfs_of ks h.2.2.2.2 (by omega)⟩
theorem wfs_of : ∀ (ks : List GTerm), raws ks → tws ks ≤ 1099511627776 → wfs ks
 | [], _, _ => by simp [wfs]
 | k :: ks, h, hw => by
  simp only [raws, tws, wfs] at *
  exact ⟨wf_of k h.1 (by omega), wfs_of ks h.2 (by omega)⟩
end
mutual
def GTerm.norm : GTerm → GTerm
 | .mk op n _ ty _ ks => .mk op n false ty false (ZP ks)
def ZP : List GTerm → List GTerm
 | [] => []
 | k :: ks => k.norm :: ZP ks
end
mutual
def GTerm.own : GTerm → List LV
 | .mk op n _ ty _ ks => [N op, N n, OU true false ty, .sl true false 4 (ZaQ ks)]
def ZaQ : List GTerm → List (List LV)
 | [] => []
 | k :: ks => k.own :: ZaQ ks
end
theorem Zl5 : ∀ ks : List GTerm, ZaQ ks = ks.map GTerm.own
 | [] => by simp [ZaQ]
 | k :: ks => by simp [ZaQ, Zl5 ks]
mutual
theorem Zec : ∀ t : GTerm, shareAll t.own = t.norm.cells
 | .mk op n nl1 ty nl2 ks => by
  simp only [GTerm.own, GTerm.norm, GTerm.cells, shareAll, share, Zd6 ks]
  congr 3
  simp
theorem Zd6 : ∀ ks : List GTerm, Qr (ZaQ ks) = QV (ZP ks)
 | [] => by simp [ZaQ, ZP, QV, Qr]
 | k :: ks => by simp only [ZaQ, ZP, QV, Qr, Zec k, Zd6 ks]
end
attribute [simp] Zec Zd6
@[simp] theorem own_length (t : GTerm) : t.own.length = 4 := by cases t; simp [GTerm.own]
@[simp] theorem take_own (t : GTerm) : t.own.take 4 = t.own := List.take_of_length_le (by simp)
@[simp] theorem alive_own (t : GTerm) : WI t.own = true := by cases t; simp [GTerm.own]
mutual
theorem ZmI (k : Nat) : ∀ t : GTerm, QD k t.own
 | .mk op n nl1 ty nl2 ks => by
  have := Zir k ks
  simp [GTerm.own, this]
theorem Zir (k : Nat) : ∀ ks : List GTerm, Wo k (ZaQ ks)
 | [] => by simp [ZaQ]
 | t :: ks => by simp [ZaQ, ZmI k t, Zir k ks]
end
attribute [simp] ZmI Zir
mutual
def GTerm.same : GTerm → GTerm → Bool
 | .mk op n _ ty _ ks, .mk op' n' _ ty' _ ks' => eqB op op' && (eqB n n' && ((ty == ty') && JB ks ks'))
def JB : List GTerm → List GTerm → Bool
 | [], [] => true
 | a :: a', b :: b' => a.same b && JB a' b'
 | _, _ => false
end
theorem ZkB : ∀ {a b : List GTerm}, a.length ≠ b.length → JB a b = false
 | [], [], h => by simp at h
 | [], _ :: _, _ => by simp [JB]
 | _ :: _, [], _ => by simp [JB]
 | a :: a', b :: b', h => by simp only [JB, ZkB (a := a') (b := b') (by simpa using h), Bool.and_false]
mutual
theorem same_refl : ∀ a : GTerm, a.same a = true
 | .mk op n nl1 ty nl2 ks => by simp [GTerm.same, Zhf ks]
theorem Zhf : ∀ a : List GTerm, JB a a = true
 | [] => by simp [JB]
 | a :: a' => by simp [JB, same_refl a, Zhf a']
end
mutual
theorem norm_wf : ∀ t : GTerm, t.wf → t.norm.wf
 | .mk op n nl1 ty nl2 ks, h => by
  simp only [GTerm.wf, GTerm.norm] at *
  exact ⟨h.1, h.2.1, h.2.2.1, by rw [Zew]; exact h.2.2.2.1, Zm9 ks h.2.2.2.2⟩
theorem Zm9 : ∀ ks : List GTerm, wfs ks → wfs (ZP ks)
 | [], _ => by simp [ZP, wfs]
 | k :: ks, h => by
  simp only [wfs, ZP] at *
  exact ⟨norm_wf k h.1, Zm9 ks h.2⟩
theorem Zew : ∀ ks : List GTerm, (ZP ks).length = ks.length
 | [] => by simp [ZP]
 | k :: ks => by simp [ZP, Zew ks]
end
theorem ZoV (nl : Bool) (ks : List GTerm) (hl : ks.length ≤ 9223372036854775807) (left : Int) (h0 : 0 ≤ left) (h1 : left ≤ 1099511627776)
  (hk : ∀ k ∈ ks, ∀ m : Int, 0 ≤ m → m ≤ 1099511627776 → Qe Tryz.prog ZR [k.lv, N m] (· = N (WS k.w m))) :
  Qe Tryz.prog VE [.sl false nl 4 (QV ks), N left] (· = N (WS (ks.length + tws ks) left)) := by
 refine Qe.of_codeOf ZiK Qy (by simp) ⟨_, rfl, by simp⟩ ?_
 simp (disch := omega) [Zb9, Qh]
 (with_reducible first | refine Ql (fun h2 => ?_) (fun h2 => ?_) | refine Qk (fun h2 => ?_) (fun h2 => ?_))
 ·simp (disch := omega) [h2]
  simp only [Qf, Qd, Qi, Qg, Qc, Qb, Bool.not_true, Bool.not_false] at h2
  unfold WS; rw [if_neg (by omega)]
 ·simp (disch := omega) [h2]
  simp only [Qf, Qd, Qi, Qg, Qc, Qb, Bool.not_true, Bool.not_false] at h2
  have e1 : WS (ks.length + tws ks) left = WS (tws ks) (left - ks.length) := by
   rw [Zu h0]; congr 1; unfold WS; rw [if_pos (by omega)]
  rw [e1]
  refine Q9 ks.length 0 (fun i t _ => ∃ m : Int, t 5 = N i ∧ t 1 = N m ∧ 0 ≤ m ∧ m ≤ left ∧ WS (tws ks) (left - ks.length) = WS (tws (ks.drop i)) m) ⟨left - ks.length, by simp, by simp, by omega, by omega, by simp⟩ (by omega) ?_
  rintro i t1 hh hf hi ⟨m, e5, e1', hm, hm2, he⟩
  (have e0 := hf 0 (by kernel_rfl); clear hf; simp [] at e0)
  simp (disch := omega) [e0, e1', e5]
  (with_reducible first | refine Ql (fun h6 => ?_) (fun h6 => ?_) | refine Qk (fun h6 => ?_) (fun h6 => ?_))
  ·simp only [Qf, Qd, Qi, Qg, Qc, Qb, Bool.not_true, Bool.not_false] at h6
   have hs := hk (ks[i]'(by omega)) (List.getElem_mem _) m hm (by omega)
   simp (disch := omega) [e0, e1', e5, ZG]
   repeat' (first
  | with_reducible refine Qa (hs) (by simp) ?_
  | (with_reducible (first | refine Ql (fun hb_ => ?_) (fun hb_ => ?_) | refine Qk (fun hb_ => ?_) (fun hb_ => ?_)) <;> simp (disch := omega) [hb_, e0, e1', e5, Qh])
  | simp (disch := omega) [e0, e1', e5, Qh])
   all_goals simp only [Qf, Qd, Qi, Qg, Qc, Qb, Bool.not_true, Bool.not_false] at hb_
   ·rw [he, ZmW (by omega), Zu hm, Zaz hb_]
   ·refine ⟨by omega, hb_, ?_, ?_⟩
    ·have := XT (a := (ks[i]'(by omega)).w) hm; omega
    ·rw [he, ZmW (by omega), Zu hm]
  ·simp only [Qf, Qd, Qi, Qg, Qc, Qb, Bool.not_true, Bool.not_false] at h6
   simp (disch := omega) [e1']
   rw [he, show i = ks.length by omega, List.drop_length, tws, ZiN hm]
theorem ZqE : ∀ (d : Nat) (t : GTerm), t.size ≤ d → t.raw → ∀ left : Int, 0 ≤ left → left ≤ 1099511627776 → Qe Tryz.prog ZR [t.lv, N left] (· = N (WS t.w left)) := by
 intro d
 induction d with
 | zero => intro t h; have := t.size_pos; omega
 | succ d ih =>
  rintro ⟨op, n, nl1, ty, nl2, ks⟩ hd hw left h0 h1
  simp only [GTerm.raw] at hw
  obtain ⟨hop, hn, hty, hk, hks⟩ := hw
  simp only [GTerm.size, GTerm.lv, GTerm.cells, GTerm.w] at hd ⊢
  refine Qe.of_codeOf Zkg Qy (by simp) ⟨_, rfl, by simp⟩ ?_
  have hi := ZcP nl1 ty hty.1 left h0 h1
  simp (disch := omega) [ZdD, Qw, Qu]
  refine Qa hi (by simp) ?_
  simp (disch := omega)
  rw [Zu h0]
  (with_reducible first | refine Ql (fun h2 => ?_) (fun h2 => ?_) | refine Qk (fun h2 => ?_) (fun h2 => ?_))
  ·simp only [Qf, Qd, Qi, Qg, Qc, Qb, Bool.not_true, Bool.not_false] at h2
   simp (disch := omega)
   rw [Zaz h2]
  ·simp only [Qf, Qd, Qi, Qg, Qc, Qb, Bool.not_true, Bool.not_false] at h2
   have hr := XT (a := ty.length) h0
   have ht := ZoV nl2 ks hk (WS ty.length left) h2 (by omega) (fun k hk' m hm hm2 => ih k (by
    obtain ⟨i, hi, rfl⟩ := List.getElem_of_mem hk'
    have := WP hi; omega) (Zi4.1 hks k hk') m hm hm2)
   simp (disch := omega)
   repeat' (first
  | with_reducible refine Qa (ht) (by simp) ?_
  | (with_reducible (first | refine Ql (fun hb_ => ?_) (fun hb_ => ?_) | refine Qk (fun hb_ => ?_) (fun hb_ => ?_)) <;> simp (disch := omega) [hb_])
  | simp (disch := omega))
   all_goals simp only [Qf, Qd, Qi, Qg, Qc, Qb, Bool.not_true, Bool.not_false] at hb_
   all_goals have := XT (a := ks.length + tws ks) h2
   all_goals omega
end Go.Proofs.YtclfngbealdbgaaGreat
namespace Go.Proofs.YtclfngbealdbgaaGreat
open Go Go.TL
set_option linter.unusedSimpArgs false
set_option linter.unusedVariables false
set_option maxRecDepth 20000
set_option maxHeartbeats 4000000
theorem Zo5 (nl : Bool) (ks : List GTerm) (hl : ks.length ≤ 1099511627776) (hk : ∀ k ∈ ks, Qe Tryz.prog XQ [k.lv] (· = .agg k.own)) :
  Qe Tryz.prog VF [.sl false nl 4 (QV ks)] (· = .sl true false 4 (ZaQ ks)) := by
 refine Qe.of_codeOf Ziu Qy (by simp) ⟨_, rfl, by simp⟩ ?_
 have hm : (ks.length : Int) ≤ (WQ : Nat) := by unfold WQ; omega
 have he : ∀ x : GTerm, x.own.length = 4 := by simp
 simp (disch := omega) [ZbS, hm]
 refine Q9 ks.length 0 (fun i t h => t 4 = N i ∧ h = [some (fill GTerm.own [N 0, N 0, .sl true true 1 [], .sl true true 1 []] ks i)]) (by simp [Vf]) (by omega) ?_
 rintro i t1 hh hf hi ⟨e4, rfl⟩
 (have e0 := hf 0 (by kernel_rfl); have e3 := hf 3 (by kernel_rfl); clear hf; simp [] at e0 e3)
 simp (disch := omega) [e0, e3, e4]
 (with_reducible first | refine Ql (fun h6 => ?_) (fun h6 => ?_) | refine Qk (fun h6 => ?_) (fun h6 => ?_))
 ·simp only [Qf, Qd, Qi, Qg, Qc, Qb, Bool.not_true, Bool.not_false] at h6
  have hlen := Zac (z := [N 0, N 0, .sl true true 1 [], .sl true true 1 []]) (l := ks) he rfl hi
  have hst := Vg (z := [N 0, N 0, .sl true true 1 [], .sl true true 1 []]) (l := ks) he rfl (i := i) (by omega)
  have hto := hk (ks[i]'(by omega)) (List.getElem_mem _)
  simp (disch := omega) [e0, e3, e4, ZG, Y6, Qh, hlen, hst]
  repeat' (first
  | with_reducible refine Qa (hto) (by simp) ?_
  | (with_reducible (first | refine Ql (fun hb_ => ?_) (fun hb_ => ?_) | refine Qk (fun hb_ => ?_) (fun hb_ => ?_)) <;> simp (disch := omega) [hb_, e0, e3, e4, ZG, Y6, Qh, hlen, hst])
  | simp (disch := omega) [e0, e3, e4, ZG, Y6, Qh, hlen, hst])
  exact ⟨by omega, by omega, by simpa [splice] using hst⟩
 ·simp only [Qf, Qd, Qi, Qg, Qc, Qb, Bool.not_true, Bool.not_false] at h6
  rw [show i = ks.length by omega, Zcy]
  simp (disch := omega) [e0, e3, e4]
  rw [ZeE he]
  simp [Zl5]
theorem Zqn : ∀ (d : Nat) (t : GTerm), t.size ≤ d → t.wf → Qe Tryz.prog XQ [t.lv] (· = .agg t.own) := by
 intro d
 induction d with
 | zero => intro t h; have := t.size_pos; omega
 | succ d ih =>
  rintro ⟨op, n, nl1, ty, nl2, ks⟩ hd hw
  simp only [GTerm.wf] at hw
  obtain ⟨hop, hn, hty, hk, hks⟩ := hw
  simp only [GTerm.size, GTerm.lv, GTerm.cells, GTerm.own] at hd ⊢
  have h1 := ZcN nl1 ty hty.1
  have h2 := Zo5 nl2 ks hk (fun k hk' => ih k (by
    obtain ⟨i, hi, rfl⟩ := List.getElem_of_mem hk'
    have := WP hi; omega) (Z5.1 hks k hk'))
  refine Qe.of_codeOf Zkc Qy (by simp) ⟨_, rfl, by simp⟩ ?_
  simp (disch := omega) [Zdh, Qw, Qu]
  repeat' (first
  | with_reducible refine Qa (h1) (by simp) ?_
  | with_reducible refine Qa (h2) (by simp) ?_
  | (with_reducible (first | refine Ql (fun hb_ => ?_) (fun hb_ => ?_) | refine Qk (fun hb_ => ?_) (fun hb_ => ?_)) <;> simp (disch := omega) [hb_])
  | simp (disch := omega))
theorem ZoB (n1 n2 : Bool) (a b : List GTerm) (ha : a.length ≤ 1099511627776) (hk : ∀ x ∈ a, ∀ y : GTerm, Qe Tryz.prog XS [x.lv, y.lv] (· = B (x.same y))) :
  Qe Tryz.prog VA [.sl false n1 4 (QV a), .sl false n2 4 (QV b)] (· = B (JB a b)) := by
 refine Qe.of_codeOf ZiI Qy (by simp) ⟨_, rfl, by simp⟩ ?_
 simp (disch := omega) [Zcw]
 (with_reducible first | refine Ql (fun h1 => ?_) (fun h1 => ?_) | refine Qk (fun h1 => ?_) (fun h1 => ?_))
 ·simp (disch := omega) [h1]
  simp only [Qf, Qd, Qi, Qg, Qc, Qb, Bool.not_true, Bool.not_false] at h1
  refine Q9 a.length 0 (fun i t _ => t 5 = N i ∧ JB a b = JB (a.drop i) (b.drop i)) (by simp) (by omega) ?_
  rintro i t1 hh hf hi ⟨e5, hj⟩
  (have e0 := hf 0 (by kernel_rfl); have e1 := hf 1 (by kernel_rfl); clear hf; simp [] at e0 e1)
  simp (disch := omega) [e0, e1, e5]
  (with_reducible first | refine Ql (fun h6 => ?_) (fun h6 => ?_) | refine Qk (fun h6 => ?_) (fun h6 => ?_))
  ·simp only [Qf, Qd, Qi, Qg, Qc, Qb, Bool.not_true, Bool.not_false] at h6
   have hd1 := List.drop_eq_getElem_cons (l := a) (i := i) (by omega)
   have hd2 := List.drop_eq_getElem_cons (l := b) (i := i) (by omega)
   have hq2 : JB a b = ((a[i]'(by omega)).same (b[i]'(by omega)) && JB (a.drop (i + 1)) (b.drop (i + 1))) := by rw [hj, hd1, hd2, JB]
   clear hd1 hd2 hj
   have hc := hk (a[i]'(by omega)) (List.getElem_mem _) (b[i]'(by omega))
   simp (disch := omega) [e0, e1, e5, ZG]
   repeat' (first
  | with_reducible refine Qa (hc) (by simp) ?_
  | (with_reducible (first | refine Ql (fun hb_ => ?_) (fun hb_ => ?_) | refine Qk (fun hb_ => ?_) (fun hb_ => ?_)) <;> simp (disch := omega) [hb_, e0, e1, e5, ZG, Qh])
  | simp (disch := omega) [e0, e1, e5, ZG, Qh])
   ·exact ⟨by omega, by rw [hq2, hb_, Bool.true_and]⟩
   ·rw [hq2, hb_, Bool.false_and]
  ·simp only [Qf, Qd, Qi, Qg, Qc, Qb, Bool.not_true, Bool.not_false] at h6
   simp (disch := omega)
   rw [hj, List.drop_of_length_le (by omega), List.drop_of_length_le (by omega), JB]
 ·simp (disch := omega) [h1]
  simp only [Qf, Qd, Qi, Qg, Qc, Qb, Bool.not_true, Bool.not_false] at h1
  exact ZkB (by omega)
theorem Zk3 : ∀ (d : Nat) (a : GTerm), a.size ≤ d → a.wf → ∀ b : GTerm, Qe Tryz.prog XS [a.lv, b.lv] (· = B (a.same b)) := by
 intro d
 induction d with
 | zero => intro t h; have := t.size_pos; omega
 | succ d ih =>
  rintro ⟨op, n, nl1, ty, nl2, ks⟩ hd hw ⟨op', n', nl1', ty', nl2', ks'⟩
  simp only [GTerm.wf] at hw
  obtain ⟨hop, hn, hty, hk, hks⟩ := hw
  simp only [GTerm.size, GTerm.lv, GTerm.cells] at hd ⊢
  have h1 := ZcQ nl1 nl1' ty ty' hty.1
  have h2 := ZoB nl2 nl2' ks ks' hk (fun k hk' => ih k (by
    obtain ⟨i, hi, rfl⟩ := List.getElem_of_mem hk'
    have := WP hi; omega) (Z5.1 hks k hk'))
  refine Qe.of_codeOf Zju Qy (by simp) ⟨_, rfl, by simp⟩ ?_
  rw [GTerm.same]
  generalize (ty == ty') = q1 at *
  simp (disch := omega) [Zdz, Qw, Qu]
  repeat' (first
  | with_reducible refine Qa (h1) (by simp) ?_
  | with_reducible refine Qa (h2) (by simp) ?_
  | (with_reducible (first | refine Ql (fun hb_ => ?_) (fun hb_ => ?_) | refine Qk (fun hb_ => ?_) (fun hb_ => ?_)) <;> simp (disch := omega) [hb_])
  | simp (disch := omega))
  all_goals simp_all
end Go.Proofs.YtclfngbealdbgaaGreat
namespace Go.Proofs.YtclfngbealdbgaaGreat
open Go Go.TL
set_option linter.unusedSimpArgs false
set_option linter.unusedVariables false
set_option maxRecDepth 20000
set_option maxHeartbeats 4000000
theorem GSys.isJoin_n {s : GSys} {n : Nat} (hn : s.size = n) (a b g : Int) : s.isJoin a b g = (s.le a g && s.le b g && YE (fun h => s.jn a b g h) n) := by
 simp [GSys.isJoin, hn]
section
variable {s : GSys} (t : s.Tab) {a b : Int} (ha : s.G a) (hb : s.G b)
include t ha hb
theorem ZkR : Qe Tryz.prog Kp [s.lv, N a, N b] (· = N (s.join a b)) := by
 refine Qe.of_codeOf Zky Qy (by simp) ⟨_, rfl, by simp⟩ ?_
 have h2 := t.lo; have h16 := t.hi
 obtain ⟨n, hn⟩ : ∃ n : Nat, s.size = n := ⟨s.size.toNat, by omega⟩
 simp (disch := omega) [Zc4, Qw, Qu]
 refine Q9 n 0 (fun g t _ => t 7 = N g ∧ s.join a b = YI (s.isJoin a b) g (n - g)) (by simp [GSys.join, hn]) (by omega) ?_
 rintro g t1 hh hf hg ⟨e7, hj⟩
 (have e1 := hf 1 (by kernel_rfl); have e2 := hf 2 (by kernel_rfl); have e3 := hf 3 (by kernel_rfl); clear hf; simp [] at e1 e2 e3)
 simp (disch := omega) [e1, e2, e3, e7]
 (with_reducible first | refine Ql (fun h1 => ?_) (fun h1 => ?_) | refine Qk (fun h1 => ?_) (fun h1 => ?_))
 ·have hGg := GSys.Glt h1
  simp (disch := omega) [e1, e2, e3, e7]
  refine Qa (YK t ha hGg) (by simp) ?_
  refine ZeW (fun t h => t 8 = B (s.le a g && s.le b g)) ?_ ?_
  ·repeat' (first
  | with_reducible refine Qa (YK t (by first | assumption | exact GSys.Gpl t _ _ | exact GSys.Gtm t _ _ | exact GSys.Glt (by assumption) | exact GSys.G0 t | exact GSys.G1 t) (by first | assumption | exact GSys.Gpl t _ _ | exact GSys.Gtm t _ _ | exact GSys.Glt (by assumption) | exact GSys.G0 t | exact GSys.G1 t)) (by simp) ?_
  | (with_reducible (first | refine Ql (fun hb_ => ?_) (fun hb_ => ?_) | refine Qk (fun hb_ => ?_) (fun hb_ => ?_)) <;> simp (disch := omega) [hb_, e1, e2, e3, e7])
  | simp (disch := omega) [e1, e2, e3, e7])
  ·rintro t2 hh hf2 e8
   (have f1 := hf2 1 (by kernel_rfl); have f2 := hf2 2 (by kernel_rfl); have f3 := hf2 3 (by kernel_rfl); have f7 := hf2 7 (by kernel_rfl); clear hf2; simp [e1, e2, e3, e7] at f1 f2 f3 f7)
   simp (disch := omega)
   refine Xn n 0 (fun i t _ => t 9 = N i ∧ t 8 = B (s.le a g && s.le b g && YE (fun h => s.jn a b g h) i)) (fun t h => t 8 = B (s.isJoin a b g)) (by simp [e8]) (by omega) ?_ ?_
   ·rintro i t3 hh hf3 hi ⟨g9, g8⟩
    (have q1 := hf3 1 (by kernel_rfl); have q2 := hf3 2 (by kernel_rfl); have q3 := hf3 3 (by kernel_rfl); have q7 := hf3 7 (by kernel_rfl); clear hf3; simp [f1, f2, f3, f7] at q1 q2 q3 q7)
    simp (disch := omega) [q1, q2, q3, q7, g8, g9]
    repeat' (first
  | with_reducible refine Qa (YK t (by first | assumption | exact GSys.Gpl t _ _ | exact GSys.Gtm t _ _ | exact GSys.Glt (by assumption) | exact GSys.G0 t | exact GSys.G1 t) (by first | assumption | exact GSys.Gpl t _ _ | exact GSys.Gtm t _ _ | exact GSys.Glt (by assumption) | exact GSys.G0 t | exact GSys.G1 t)) (by simp) ?_
  | (with_reducible (first | refine Ql (fun hb_ => ?_) (fun hb_ => ?_) | refine Qk (fun hb_ => ?_) (fun hb_ => ?_)) <;> simp (disch := omega) [hb_, q1, q2, q3, q7, g8, g9])
  | simp (disch := omega) [q1, q2, q3, q7, g8, g9])
    all_goals (try simp only [Qf, Qd, Qi, Qg, Qc, Qb, Bool.not_true, Bool.not_false] at *)
    ·refine ⟨by omega, Qh (by omega), ?_⟩
     simp_all [Wy, GSys.jn]
    ·refine ⟨by omega, Qh (by omega), ?_⟩
     simp_all [Wy, GSys.jn]
    ·refine ⟨by omega, Qh (by omega), ?_⟩
     simp_all [Wy, GSys.jn]
    ·rw [GSys.isJoin_n hn]
     cases h : YE (fun h => s.jn a b g h) i with
     | false => simp [ZhW hi h]
     | true => simp_all
    ·rw [GSys.isJoin_n hn, show i = n by omega]
   ·rintro t4 hh hf4 g8
    (have q1 := hf4 1 (by kernel_rfl); have q2 := hf4 2 (by kernel_rfl); have q3 := hf4 3 (by kernel_rfl); have q7 := hf4 7 (by kernel_rfl); clear hf4; simp [f1, f2, f3, f7] at q1 q2 q3 q7)
    repeat' (first
  | (with_reducible (first | refine Ql (fun hb_ => ?_) (fun hb_ => ?_) | refine Qk (fun hb_ => ?_) (fun hb_ => ?_)) <;> simp (disch := omega) [hb_, q1, q2, q3, q7, g8])
  | simp (disch := omega) [q1, q2, q3, q7, g8])
    all_goals (try simp only [Qf, Qd, Qi, Qg, Qc, Qb, Bool.not_true, Bool.not_false] at *)
    ·rw [hj, show n - g = (n - (g + 1)) + 1 by omega, YI, if_pos hb_]
    ·rw [hj, show n - g = (n - (g + 1)) + 1 by omega, YI, if_neg (by simp [hb_])]
     exact ⟨by omega, Qh (by omega), by simp⟩
 ·all_goals (try simp only [Qf, Qd, Qi, Qg, Qc, Qb, Bool.not_true, Bool.not_false] at *)
  have : g = n := by omega
  simp_all [YI]
theorem ZpE : Qe Tryz.prog WR [s.lv, N a, N b] (· = N (s.join a b)) := by
  refine Qe.of_codeOf Zcx Qy (by simp) ⟨_, rfl, by simp⟩ ?_
  have h2 := t.lo; have h16 := t.hi
  obtain ⟨n, hn⟩ : ∃ n : Nat, s.size = n := ⟨s.size.toNat, by omega⟩
  simp (disch := omega) [Kx, Qw, Qu]
  refine Q9 n 0 (fun g t _ => t 7 = N g ∧ s.join a b = YI (s.isJoin a b) g (n - g)) (by simp [GSys.join, hn]) (by omega) ?_
  rintro g t1 hh hf hg ⟨e7, hj⟩
  (have e1 := hf 1 (by kernel_rfl); have e2 := hf 2 (by kernel_rfl); have e3 := hf 3 (by kernel_rfl); clear hf; simp [] at e1 e2 e3)
  simp (disch := omega) [e1, e2, e3, e7]
  (with_reducible first | refine Ql (fun h1 => ?_) (fun h1 => ?_) | refine Qk (fun h1 => ?_) (fun h1 => ?_))
  · have hGg := GSys.Glt h1
    simp (disch := omega) [e1, e2, e3, e7]
    refine Qa (KG t ha hGg) (by simp) ?_
    refine ZeW (fun t h => t 27 = B (!s.le a g || !s.le b g)) ?_ ?_
    · repeat' (first
    | with_reducible refine Qa (KG t (by first | assumption | exact GSys.Gpl t _ _ | exact GSys.Gtm t _ _ | exact GSys.Glt (by assumption) | exact GSys.G0 t | exact GSys.G1 t) (by first | assumption | exact GSys.Gpl t _ _ | exact GSys.Gtm t _ _ | exact GSys.Glt (by assumption) | exact GSys.G0 t | exact GSys.G1 t)) (by simp) ?_
    | (with_reducible (first | refine Ql (fun hb_ => ?_) (fun hb_ => ?_) | refine Qk (fun hb_ => ?_) (fun hb_ => ?_)) <;> simp (disch := omega) [hb_, e1, e2, e3, e7])
    | simp (disch := omega) [e1, e2, e3, e7])
    · rintro t2 hh hf2 e8
      (have f1 := hf2 1 (by kernel_rfl); have f2 := hf2 2 (by kernel_rfl); have f3 := hf2 3 (by kernel_rfl); have f7 := hf2 7 (by kernel_rfl); clear hf2; simp [e1, e2, e3, e7] at f1 f2 f3 f7)
      simp (disch := omega) [e8]
      (with_reducible first | refine Ql (fun h3 => ?_) (fun h3 => ?_) | refine Qk (fun h3 => ?_) (fun h3 => ?_))
      · simp (disch := omega) [f7]
        all_goals (try simp only [Qf, Qd, Qi, Qg, Qc, Qb, Bool.not_true, Bool.not_false] at *)
        rw [hj, show n - g = (n - (g + 1)) + 1 by omega, YI, if_neg (by rw [GSys.isJoin_n hn]; simp at h3; rcases h3 with h3 | h3 <;> simp [h3])]
        exact ⟨by omega, Qh (by omega), by simp⟩
      · simp (disch := omega) [f1, f2, f3, f7]
        refine Xn n 0 (fun i t _ => t 9 = N i ∧ t 8 = B (YE (fun h => s.jn a b g h) i)) (fun t h => t 8 = B (s.isJoin a b g)) (by simp) (by omega) ?_ ?_
        · rintro i t3 hh hf3 hi ⟨g9, g8⟩
          (have q1 := hf3 1 (by kernel_rfl); have q2 := hf3 2 (by kernel_rfl); have q3 := hf3 3 (by kernel_rfl); have q7 := hf3 7 (by kernel_rfl); clear hf3; simp [f1, f2, f3, f7] at q1 q2 q3 q7)
          simp (disch := omega) [q1, q2, q3, q7, g8, g9]
          repeat' (first
    | with_reducible refine Qa (KG t (by first | assumption | exact GSys.Gpl t _ _ | exact GSys.Gtm t _ _ | exact GSys.Glt (by assumption) | exact GSys.G0 t | exact GSys.G1 t) (by first | assumption | exact GSys.Gpl t _ _ | exact GSys.Gtm t _ _ | exact GSys.Glt (by assumption) | exact GSys.G0 t | exact GSys.G1 t)) (by simp) ?_
    | (with_reducible (first | refine Ql (fun hb_ => ?_) (fun hb_ => ?_) | refine Qk (fun hb_ => ?_) (fun hb_ => ?_)) <;> simp (disch := omega) [hb_, q1, q2, q3, q7, g8, g9])
    | simp (disch := omega) [q1, q2, q3, q7, g8, g9])
          all_goals (try simp only [Qf, Qd, Qi, Qg, Qc, Qb, Bool.not_true, Bool.not_false] at *)
          · refine ⟨by omega, Qh (by omega), ?_⟩
            simp_all [Wy, GSys.jn]
          · refine ⟨by omega, Qh (by omega), ?_⟩
            simp_all [Wy, GSys.jn]
          · refine ⟨by omega, Qh (by omega), ?_⟩
            simp_all [Wy, GSys.jn]
          · refine ⟨by omega, Qh (by omega), ?_⟩
            simp_all [Wy]
          · rw [GSys.isJoin_n hn, show i = n by omega]
            simp_all
        · rintro t4 hh hf4 g8
          (have q1 := hf4 1 (by kernel_rfl); have q2 := hf4 2 (by kernel_rfl); have q3 := hf4 3 (by kernel_rfl); have q7 := hf4 7 (by kernel_rfl); clear hf4; simp [f1, f2, f3, f7] at q1 q2 q3 q7)
          repeat' (first
    | (with_reducible (first | refine Ql (fun hb_ => ?_) (fun hb_ => ?_) | refine Qk (fun hb_ => ?_) (fun hb_ => ?_)) <;> simp (disch := omega) [hb_, q1, q2, q3, q7, g8])
    | simp (disch := omega) [q1, q2, q3, q7, g8])
          all_goals (try simp only [Qf, Qd, Qi, Qg, Qc, Qb, Bool.not_true, Bool.not_false] at *)
          · rw [hj, show n - g = (n - (g + 1)) + 1 by omega, YI, if_pos hb_]
          · rw [hj, show n - g = (n - (g + 1)) + 1 by omega, YI, if_neg (by simp [hb_])]
            exact ⟨by omega, Qh (by omega), by simp⟩
  · all_goals (try simp only [Qf, Qd, Qi, Qg, Qc, Qb, Bool.not_true, Bool.not_false] at *)
    have : g = n := by omega
    simp_all [YI]
end
def GSys.one (s : GSys) (a : Int) : Bool := eqB (s.pl 0 a) a && eqB (s.tm 1 a) a && eqB (s.tm a 1) a && eqB (s.tm 0 a) 0 && eqB (s.tm a 0) 0 && s.le a a
def GSys.two (s : GSys) (a b : Int) : Bool := eqB (s.pl a b) (s.pl b a) && (eqB a b || !s.le a b || !s.le b a) && leB 0 (s.join a b)
section
variable {s : GSys} (t : s.Tab) {a b : Int} (ha : s.G a) (hb : s.G b)
include t ha
theorem l1One_ok : Qe Tryz.prog Za5 [s.lv, N a] (· = B (s.one a)) := by
 refine Qe.of_codeOf Zmf Qy (by simp) ⟨_, rfl, by simp⟩ ?_
 simp (disch := omega) [ZeH, Qw, Qu]
 repeat' (first
  | with_reducible refine Qa (Zeu t (by first | assumption | exact GSys.Gpl t _ _ | exact GSys.Gtm t _ _ | exact GSys.Glt (by assumption) | exact GSys.G0 t | exact GSys.G1 t) (by first | assumption | exact GSys.Gpl t _ _ | exact GSys.Gtm t _ _ | exact GSys.Glt (by assumption) | exact GSys.G0 t | exact GSys.G1 t)) (by simp) ?_
  | with_reducible refine Qa (Ze7 t (by first | assumption | exact GSys.Gpl t _ _ | exact GSys.Gtm t _ _ | exact GSys.Glt (by assumption) | exact GSys.G0 t | exact GSys.G1 t) (by first | assumption | exact GSys.Gpl t _ _ | exact GSys.Gtm t _ _ | exact GSys.Glt (by assumption) | exact GSys.G0 t | exact GSys.G1 t)) (by simp) ?_
  | with_reducible refine Qa (YK t (by first | assumption | exact GSys.Gpl t _ _ | exact GSys.Gtm t _ _ | exact GSys.Glt (by assumption) | exact GSys.G0 t | exact GSys.G1 t) (by first | assumption | exact GSys.Gpl t _ _ | exact GSys.Gtm t _ _ | exact GSys.Glt (by assumption) | exact GSys.G0 t | exact GSys.G1 t)) (by simp) ?_
  | (with_reducible (first | refine Ql (fun hb_ => ?_) (fun hb_ => ?_) | refine Qk (fun hb_ => ?_) (fun hb_ => ?_)) <;> simp (disch := omega) [hb_])
  | simp (disch := omega))
 all_goals simp_all [GSys.one]
include hb
theorem l1Two_ok : Qe Tryz.prog ZaM [s.lv, N a, N b] (· = B (s.two a b)) := by
 refine Qe.of_codeOf Zl6 Qy (by simp) ⟨_, rfl, by simp⟩ ?_
 simp (disch := omega) [ZeT, Qw, Qu]
 repeat' (first
  | with_reducible refine Qa (Zeu t (by first | assumption | exact GSys.Gpl t _ _ | exact GSys.Gtm t _ _ | exact GSys.Glt (by assumption) | exact GSys.G0 t | exact GSys.G1 t) (by first | assumption | exact GSys.Gpl t _ _ | exact GSys.Gtm t _ _ | exact GSys.Glt (by assumption) | exact GSys.G0 t | exact GSys.G1 t)) (by simp) ?_
  | with_reducible refine Qa (YK t (by first | assumption | exact GSys.Gpl t _ _ | exact GSys.Gtm t _ _ | exact GSys.Glt (by assumption) | exact GSys.G0 t | exact GSys.G1 t) (by first | assumption | exact GSys.Gpl t _ _ | exact GSys.Gtm t _ _ | exact GSys.Glt (by assumption) | exact GSys.G0 t | exact GSys.G1 t)) (by simp) ?_
  | with_reducible refine Qa (ZkR t (by first | assumption | exact GSys.Gpl t _ _ | exact GSys.Gtm t _ _ | exact GSys.Glt (by assumption) | exact GSys.G0 t | exact GSys.G1 t) (by first | assumption | exact GSys.Gpl t _ _ | exact GSys.Gtm t _ _ | exact GSys.Glt (by assumption) | exact GSys.G0 t | exact GSys.G1 t)) (by simp) ?_
  | (with_reducible (first | refine Ql (fun hb_ => ?_) (fun hb_ => ?_) | refine Qk (fun hb_ => ?_) (fun hb_ => ?_)) <;> simp (disch := omega) [hb_])
  | simp (disch := omega))
 all_goals simp_all [GSys.two]
end
def GSys.cell (s : GSys) (i : Nat) : Bool := Wb (s.plus.getD i 0) 0 (s.size - 1) && Wb (s.times.getD i 0) 0 (s.size - 1)
def GSys.tabB (s : GSys) : Bool := Wb s.size 2 16 && eqB s.plus.length (s.size * s.size) && eqB s.times.length (s.size * s.size) && eqB s.below.length (s.size * s.size) && YE s.cell s.plus.length
theorem GSys.tab_iff {s : GSys} : s.tabB = true ↔ s.Tab := by
 simp only [GSys.tabB, Bool.and_eq_true, Q7, Qc, Jt, GSys.cell]
 constructor
 ·rintro ⟨⟨⟨⟨h1, h2⟩, h3⟩, h4⟩, h5⟩
  refine ⟨h1.1, h1.2, h2, h3, h4, fun i => ?_, fun i => ?_⟩
  ·by_cases hi : i < s.plus.length
   ·have := (h5 i hi).1; omega
   ·rw [List.getD_eq_getElem?_getD, List.getElem?_eq_none (by omega)]; simp; omega
  ·by_cases hi : i < s.plus.length
   ·have := (h5 i hi).2; omega
   ·rw [List.getD_eq_getElem?_getD, List.getElem?_eq_none (by omega)]; simp; omega
 ·intro t
  refine ⟨⟨⟨⟨⟨t.lo, t.hi⟩, t.lp⟩, t.lt⟩, t.lb⟩, fun i _ => ?_⟩
  have := t.rp i; have := t.rt i
  omega
theorem GSys.sq {s : GSys} (h : Wb s.size 2 16 = true) : 0 ≤ s.size * s.size ∧ s.size * s.size ≤ 256 ∧ 2 ≤ s.size ∧ s.size ≤ 16 := by
 rw [Q7] at h
 have h4 : s.size * s.size ≤ 16 * 16 := Int.mul_le_mul h.2 h.2 (by omega) (by omega)
 exact ⟨Int.mul_nonneg (by omega) (by omega), by omega, h⟩
theorem ZmQ (s : GSys) (hw : s.wf) : Qe Tryz.prog KT [s.lv] (· = B s.tabB) := by
 refine Qe.of_codeOf ZgL Qy (by simp) ⟨_, rfl, by simp⟩ ?_
 simp (disch := omega) [Zbh, Qw, Qu]
 refine Qa (Zht _ _ _) (by simp) ?_
 simp (disch := omega)
 (with_reducible first | refine Ql (fun h1 => ?_) (fun h1 => ?_) | refine Qk (fun h1 => ?_) (fun h1 => ?_))
 ·obtain ⟨h2, h3, h4, h5⟩ := GSys.sq (s := s) h1
  simp (disch := omega) [h1, Qh]
  repeat' (first
  | (with_reducible (first | refine Ql (fun hb_ => ?_) (fun hb_ => ?_) | refine Qk (fun hb_ => ?_) (fun hb_ => ?_)) <;> simp (disch := omega) [hb_, h1, Qh])
  | simp (disch := omega) [h1, Qh])
  all_goals try (simp_all [GSys.tabB]; done)
  ·rename_i g1 g2
   have e0 : s.tabB = YE s.cell s.plus.length := by simp [GSys.tabB, h1, g1, g2, hb_]
   rw [e0]
   all_goals (try simp only [Qf, Qd, Qi, Qg, Qc, Qb, Bool.not_true, Bool.not_false] at *)
   refine Q9 s.plus.length 0 (fun i t _ => t 3 = N i ∧ YE s.cell i = true) (by simp) (by omega) ?_
   rintro i t1 hh hf hi ⟨e3, hj⟩
   (have e1 := hf 1 (by kernel_rfl); clear hf; simp [] at e1)
   simp (disch := omega) [e1, e3]
   (with_reducible first | refine Ql (fun h6 => ?_) (fun h6 => ?_) | refine Qk (fun h6 => ?_) (fun h6 => ?_))
   ·simp only [Qf, Qd, Qi, Qg, Qc, Qb, Bool.not_true, Bool.not_false] at h6
    simp (disch := omega) [e1, e3, Qh, Xj]
    have ec : s.cell i = (Wb (s.plus[i]'(by omega)) 0 (s.size - 1) && Wb (s.times[i]'(by omega)) 0 (s.size - 1)) := by
     simp [GSys.cell, show i < s.plus.length by omega, show i < s.times.length by omega]
    repeat' (first
  | with_reducible refine Qa (Zht _ _ _) (by simp) ?_
  | (with_reducible (first | refine Ql (fun hb_ => ?_) (fun hb_ => ?_) | refine Qk (fun hb_ => ?_) (fun hb_ => ?_)) <;> simp (disch := omega) [hb_, e1, e3, Qh, Xj])
  | simp (disch := omega) [e1, e3, Qh, Xj])
    ·refine ⟨by omega, by simp_all [Wy]⟩
    ·exact Xu (p := s.cell) (i := i) (by omega) (by simp_all)
    ·exact Xu (p := s.cell) (i := i) (by omega) (by simp_all)
   ·simp only [Qf, Qd, Qi, Qg, Qc, Qb, Bool.not_true, Bool.not_false] at h6
    simp (disch := omega) [e1, e3]
    rw [← hj, show i = s.plus.length by omega]
 ·simp_all [GSys.tabB]
def GSys.sysC (s : GSys) (n : Nat) (a b : Int) : Bool := s.two a b && YE (fun c => s.three a b c) n
def GSys.sysB (s : GSys) (n : Nat) (a : Int) : Bool := s.one a && YE (fun b => s.sysC n a b) n
def GSys.sys (s : GSys) : Bool := s.tabB && YE (fun a => s.sysB s.size.toNat a) s.size.toNat
theorem GSys.sys_n {s : GSys} {n : Nat} (hn : s.size = n) : s.sys = (s.tabB && YE (fun a => s.sysB n a) n) := by simp [GSys.sys, hn]
theorem GSys.sys_of {s : GSys} (h : s.sys = true) : s.Tab := GSys.tab_iff.1 (by simp [GSys.sys] at h; exact h.1)
theorem Zbp (s : GSys) (hw : s.wf) : Qe Tryz.prog Z1 [s.lv] (· = B s.sys) := by
  refine Qe.of_codeOf Zgw Qy (by simp) ⟨_, rfl, by simp⟩ ?_
  simp (disch := omega) [Zbm, Qw, Qu]
  refine Qa (ZmQ s hw) (by simp) ?_
  simp (disch := omega)
  (with_reducible first | refine Ql (fun h1 => ?_) (fun h1 => ?_) | refine Qk (fun h1 => ?_) (fun h1 => ?_))
  · have t := GSys.tab_iff.1 h1
    have h2 := t.lo; have h16 := t.hi
    obtain ⟨n, hn⟩ : ∃ n : Nat, s.size = n := ⟨s.size.toNat, by omega⟩
    rw [GSys.sys_n hn, h1, Bool.true_and]
    simp (disch := omega) [h1]
    refine Q9 n 0 (fun a t _ => t 3 = N a ∧ YE (fun a => s.sysB n a) a = true) (by simp) (by omega) ?_
    rintro a t1 hh hf ha ⟨e3, hj⟩
    (have e1 := hf 1 (by kernel_rfl); clear hf; simp [] at e1)
    simp (disch := omega) [e1, e3]
    (with_reducible first | refine Ql (fun h3 => ?_) (fun h3 => ?_) | refine Qk (fun h3 => ?_) (fun h3 => ?_))
    · have hGa := GSys.Glt h3
      simp only [Qf, Qd, Qi, Qg, Qc, Qb, Bool.not_true, Bool.not_false] at h3
      simp (disch := omega) [e1, e3]
      refine Qa (l1One_ok t hGa) (by simp) ?_
      simp (disch := omega) [e1, e3]
      (with_reducible first | refine Ql (fun h4 => ?_) (fun h4 => ?_) | refine Qk (fun h4 => ?_) (fun h4 => ?_))
      · simp (disch := omega) [e1, e3]
        refine Xn n 0 (fun b t _ => t 4 = N b ∧ YE (fun b => s.sysC n a b) b = true) (fun t h => YE (fun b => s.sysC n a b) n = true) (by simp) (by omega) ?_ ?_
        · rintro b t2 hh hf2 hb ⟨e4, hj2⟩
          (have f1 := hf2 1 (by kernel_rfl); have f3 := hf2 3 (by kernel_rfl); clear hf2; simp [e1, e3] at f1 f3)
          simp (disch := omega) [f1, f3, e4]
          (with_reducible first | refine Ql (fun h5 => ?_) (fun h5 => ?_) | refine Qk (fun h5 => ?_) (fun h5 => ?_))
          · have hGb := GSys.Glt h5
            simp only [Qf, Qd, Qi, Qg, Qc, Qb, Bool.not_true, Bool.not_false] at h5
            simp (disch := omega) [f1, f3, e4]
            refine Qa (l1Two_ok t hGa hGb) (by simp) ?_
            simp (disch := omega) [f1, f3, e4]
            (with_reducible first | refine Ql (fun h6 => ?_) (fun h6 => ?_) | refine Qk (fun h6 => ?_) (fun h6 => ?_))
            · simp (disch := omega) [f1, f3, e4]
              refine Xn n 0 (fun c t _ => t 5 = N c ∧ YE (fun c => s.three a b c) c = true) (fun t h => YE (fun c => s.three a b c) n = true) (by simp) (by omega) ?_ ?_
              · rintro c t3 hh hf3 hc ⟨e5, hj3⟩
                (have g1 := hf3 1 (by kernel_rfl); have g3 := hf3 3 (by kernel_rfl); have g4 := hf3 4 (by kernel_rfl); clear hf3; simp [f1, f3, e4] at g1 g3 g4)
                simp (disch := omega) [g1, g3, g4, e5]
                (with_reducible first | refine Ql (fun h7 => ?_) (fun h7 => ?_) | refine Qk (fun h7 => ?_) (fun h7 => ?_))
                · have hGc := GSys.Glt h7
                  simp only [Qf, Qd, Qi, Qg, Qc, Qb, Bool.not_true, Bool.not_false] at h7
                  simp (disch := omega) [g1, g3, g4, e5]
                  repeat' (first
    | with_reducible refine Qa (Zo1 t hGa hGb hGc) (by simp) ?_
    | (with_reducible (first | refine Ql (fun hb_ => ?_) (fun hb_ => ?_) | refine Qk (fun hb_ => ?_) (fun hb_ => ?_)) <;> simp (disch := omega) [hb_, g1, g3, g4, e5])
    | simp (disch := omega) [g1, g3, g4, e5])
                  · refine ⟨by omega, Qh (by omega), by simp [Wy, hj3, hb_]⟩
                  · exact Xu (i := a) (by omega) (by simp [GSys.sysB, h4, Xu (p := fun b => s.sysC n a b) (i := b) (n := n) (by omega) (by simp [GSys.sysC, h6, Xu (p := fun c => s.three a b c) (i := c) (n := n) (by omega) (by simpa using hb_)])])
                · simp only [Qf, Qd, Qi, Qg, Qc, Qb, Bool.not_true, Bool.not_false] at h7
                  simp (disch := omega) [g1, g3, g4, e5]
                  rw [← hj3, show c = n by omega]
              · rintro t4 hh hf4 hj3
                (have g1 := hf4 1 (by kernel_rfl); have g3 := hf4 3 (by kernel_rfl); have g4 := hf4 4 (by kernel_rfl); clear hf4; simp [f1, f3, e4] at g1 g3 g4)
                simp (disch := omega) [g1, g3, g4]
                exact ⟨by omega, Qh (by omega), by simp [Wy, hj2, show s.sysC n a b = true by simp [GSys.sysC, h6, hj3]]⟩
            · simp (disch := omega)
              exact Xu (i := a) (by omega) (by simp [GSys.sysB, h4, Xu (p := fun b => s.sysC n a b) (i := b) (n := n) (by omega) (by simp_all [GSys.sysC])])
          · simp only [Qf, Qd, Qi, Qg, Qc, Qb, Bool.not_true, Bool.not_false] at h5
            simp (disch := omega) [f1, f3, e4]
            rw [← hj2, show b = n by omega]
        · rintro t2 hh hf2 hj2
          (have f1 := hf2 1 (by kernel_rfl); have f3 := hf2 3 (by kernel_rfl); clear hf2; simp [e1, e3] at f1 f3)
          simp (disch := omega) [f1, f3]
          exact ⟨by omega, Qh (by omega), by simp [Wy, hj, show s.sysB n a = true by simp [GSys.sysB, h4, hj2]]⟩
      · simp (disch := omega)
        exact Xu (i := a) (by omega) (by simp_all [GSys.sysB])
    · simp only [Qf, Qd, Qi, Qg, Qc, Qb, Bool.not_true, Bool.not_false] at h3
      simp (disch := omega) [e1, e3]
      rw [← hj, show a = n by omega]
  · simp_all [GSys.sys]
end Go.Proofs.YtclfngbealdbgaaGreat
namespace Go.Proofs.YtclfngbealdbgaaGreat
open Go Go.TL
set_option linter.unusedSimpArgs false
set_option linter.unusedVariables false
set_option maxRecDepth 20000
set_option maxHeartbeats 4000000
theorem ZgE (s : GSys) (hw : s.wf) : Qe Tryz.prog KX [s.lv] (· = B s.sys) := by
  refine Qe.of_codeOf ZgD Qy (by simp) ⟨_, rfl, by simp⟩ ?_
  simp (disch := omega) [Zbs, Qw, Qu]
  refine Qa (Jm _ _ _) (by simp) ?_
  simp (disch := omega)
  (with_reducible first | refine Ql (fun h1 => ?_) (fun h1 => ?_) | refine Qk (fun h1 => ?_) (fun h1 => ?_))
  · obtain ⟨h2, h3, h4, h5⟩ := GSys.sq (s := s) h1
    simp (disch := omega) [h1, Qh]
    repeat' (first
    | (with_reducible (first | refine Ql (fun hb_ => ?_) (fun hb_ => ?_) | refine Qk (fun hb_ => ?_) (fun hb_ => ?_)) <;> simp (disch := omega) [hb_, h1, Qh])
    | simp (disch := omega) [h1, Qh])
    all_goals try (simp_all [GSys.tabB, GSys.sys]; done)
    · rename_i g1 g2
      have e0 : s.tabB = YE s.cell s.plus.length := by simp [GSys.tabB, h1, g1, g2, hb_]
      all_goals (try simp only [Qf, Qd, Qi, Qg, Qc, Qb, Bool.not_true, Bool.not_false] at *)
      refine Xn s.plus.length 0 (fun i t _ => t 43 = N i ∧ YE s.cell i = true) (fun _ _ => s.tabB = true) (by simp) (by omega) ?_ ?_
      · rintro i t1 hh hf hi ⟨e3, hj⟩
        (have e1 := hf 1 (by kernel_rfl); have e42 := hf 42 (by kernel_rfl); clear hf; simp [] at e1 e42)
        simp (disch := omega) [e1, e42, e3]
        (with_reducible first | refine Ql (fun h6 => ?_) (fun h6 => ?_) | refine Qk (fun h6 => ?_) (fun h6 => ?_))
        · simp only [Qf, Qd, Qi, Qg, Qc, Qb, Bool.not_true, Bool.not_false] at h6
          simp (disch := omega) [e1, e3, e42, Qh, Xj]
          have ec : s.cell i = (Wb (s.plus[i]'(by omega)) 0 (s.size - 1) && Wb (s.times[i]'(by omega)) 0 (s.size - 1)) := by
            simp [GSys.cell, show i < s.plus.length by omega, show i < s.times.length by omega]
          have hlo : -9223372036854775808 < s.size := by omega
          have hI : I64 s.size := hw.1
          repeat' (first
    | with_reducible refine Qa (Zpc s hI hlo _) (by simp) ?_
    | (with_reducible (first | refine Ql (fun hb_ => ?_) (fun hb_ => ?_) | refine Qk (fun hb_ => ?_) (fun hb_ => ?_)) <;> simp (disch := omega) [hb_, e1, e3, e42, Qh, Xj])
    | simp (disch := omega) [e1, e3, e42, Qh, Xj])
          · refine ⟨by omega, by simp_all [Wy]⟩
          · simp only [GSys.sys, e0, Xu (p := s.cell) (i := i) (n := s.plus.length) (by omega) (by simp_all)]; simp
          · simp only [GSys.sys, e0, Xu (p := s.cell) (i := i) (n := s.plus.length) (by omega) (by simp_all)]; simp
        · simp only [Qf, Qd, Qi, Qg, Qc, Qb, Bool.not_true, Bool.not_false] at h6
          simp (disch := omega) [e1, e3, e42]
          rw [e0, ← hj, show i = s.plus.length by omega]
      · rintro t0 hh hf0 ht
        (have d1 := hf0 1 (by kernel_rfl); have d3 := hf0 3 (by kernel_rfl); clear hf0; simp [] at d1 d3)
        simp (disch := omega) [d1, d3]
        have t := GSys.tab_iff.1 ht
        obtain ⟨n, hn⟩ : ∃ n : Nat, s.size = n := ⟨s.size.toNat, by omega⟩
        rw [GSys.sys_n hn, ht, Bool.true_and]
        refine Q9 n 0 (fun a t _ => t 5 = N a ∧ YE (fun a => s.sysB n a) a = true) (by simp) (by omega) ?_
        rintro a t1 hh hf ha ⟨e5, hj⟩
        (have e1 := hf 1 (by kernel_rfl); have e3 := hf 3 (by kernel_rfl); clear hf; simp [d1, d3] at e1 e3)
        simp (disch := omega) [e1, e3, e5]
        (with_reducible first | refine Ql (fun h6 => ?_) (fun h6 => ?_) | refine Qk (fun h6 => ?_) (fun h6 => ?_))
        · have hGa := GSys.Glt h6
          simp only [Qf, Qd, Qi, Qg, Qc, Qb, Bool.not_true, Bool.not_false] at h6
          simp (disch := omega) [e1, e3, e5]
          refine Qa (Zfc t (GSys.G0 t) hGa) (by simp) ?_
          refine ZeW (fun t h => t 107 = B (!s.one a)) ?_ ?_
          · repeat' (first
    | with_reducible refine Qa (ZeZ t (by first | assumption | exact GSys.Gpl t _ _ | exact GSys.Gtm t _ _ | exact GSys.Glt (by assumption) | exact GSys.G0 t | exact GSys.G1 t) (by first | assumption | exact GSys.Gpl t _ _ | exact GSys.Gtm t _ _ | exact GSys.Glt (by assumption) | exact GSys.G0 t | exact GSys.G1 t)) (by simp) ?_
    | with_reducible refine Qa (KG t (by first | assumption | exact GSys.Gpl t _ _ | exact GSys.Gtm t _ _ | exact GSys.Glt (by assumption) | exact GSys.G0 t | exact GSys.G1 t) (by first | assumption | exact GSys.Gpl t _ _ | exact GSys.Gtm t _ _ | exact GSys.Glt (by assumption) | exact GSys.G0 t | exact GSys.G1 t)) (by simp) ?_
    | (with_reducible (first | refine Ql (fun hb_ => ?_) (fun hb_ => ?_) | refine Qk (fun hb_ => ?_) (fun hb_ => ?_)) <;> simp (disch := omega) [hb_, e1, e3, e5])
    | simp (disch := omega) [e1, e3, e5])
            all_goals simp_all [GSys.one]
          · rintro t2 hh hf e107
            (have f1 := hf 1 (by kernel_rfl); have f3 := hf 3 (by kernel_rfl); have f5 := hf 5 (by kernel_rfl); clear hf; simp [e1, e3, e5] at f1 f3 f5)
            simp (disch := omega) [e107]
            (with_reducible first | refine Ql (fun h7 => ?_) (fun h7 => ?_) | refine Qk (fun h7 => ?_) (fun h7 => ?_))
            · simp (disch := omega)
              refine Xn n 0 (fun b t _ => t 6 = N b ∧ YE (fun b => s.sysC n a b) b = true) (fun t h => YE (fun b => s.sysC n a b) n = true) (by simp) (by omega) ?_ ?_
              · rintro b t3 hh hf hb ⟨g6, hj2⟩
                (have g1 := hf 1 (by kernel_rfl); have g3 := hf 3 (by kernel_rfl); have g5 := hf 5 (by kernel_rfl); clear hf; simp [f1, f3, f5] at g1 g3 g5)
                simp (disch := omega) [g1, g3, g5, g6]
                (with_reducible first | refine Ql (fun h8 => ?_) (fun h8 => ?_) | refine Qk (fun h8 => ?_) (fun h8 => ?_))
                · have hGb := GSys.Glt h8
                  simp only [Qf, Qd, Qi, Qg, Qc, Qb, Bool.not_true, Bool.not_false] at h8
                  simp (disch := omega) [g1, g3, g5, g6]
                  refine Qa (Zfc t hGa hGb) (by simp) ?_
                  refine ZeW (fun t h => t 145 = B (!s.two a b)) ?_ ?_
                  · repeat' (first
    | with_reducible refine Qa (Zfc t (by first | assumption | exact GSys.Gpl t _ _ | exact GSys.Gtm t _ _ | exact GSys.Glt (by assumption) | exact GSys.G0 t | exact GSys.G1 t) (by first | assumption | exact GSys.Gpl t _ _ | exact GSys.Gtm t _ _ | exact GSys.Glt (by assumption) | exact GSys.G0 t | exact GSys.G1 t)) (by simp) ?_
    | with_reducible refine Qa (KG t (by first | assumption | exact GSys.Gpl t _ _ | exact GSys.Gtm t _ _ | exact GSys.Glt (by assumption) | exact GSys.G0 t | exact GSys.G1 t) (by first | assumption | exact GSys.Gpl t _ _ | exact GSys.Gtm t _ _ | exact GSys.Glt (by assumption) | exact GSys.G0 t | exact GSys.G1 t)) (by simp) ?_
    | with_reducible refine Qa (ZpE t (by first | assumption | exact GSys.Gpl t _ _ | exact GSys.Gtm t _ _ | exact GSys.Glt (by assumption) | exact GSys.G0 t | exact GSys.G1 t) (by first | assumption | exact GSys.Gpl t _ _ | exact GSys.Gtm t _ _ | exact GSys.Glt (by assumption) | exact GSys.G0 t | exact GSys.G1 t)) (by simp) ?_
    | (with_reducible (first | refine Ql (fun hb_ => ?_) (fun hb_ => ?_) | refine Qk (fun hb_ => ?_) (fun hb_ => ?_)) <;> simp (disch := omega) [hb_, g1, g3, g5, g6])
    | simp (disch := omega) [g1, g3, g5, g6])
                    all_goals simp_all [GSys.two, ZaR]
                  · rintro t4 hh hf e145
                    (have q1 := hf 1 (by kernel_rfl); have q3 := hf 3 (by kernel_rfl); have q5 := hf 5 (by kernel_rfl); have q6 := hf 6 (by kernel_rfl); clear hf; simp [g1, g3, g5, g6] at q1 q3 q5 q6)
                    simp (disch := omega) [e145]
                    (with_reducible first | refine Ql (fun h9 => ?_) (fun h9 => ?_) | refine Qk (fun h9 => ?_) (fun h9 => ?_))
                    · simp (disch := omega)
                      refine Xn n 0 (fun c t _ => t 7 = N c ∧ YE (fun c => s.three a b c) c = true) (fun t h => YE (fun c => s.three a b c) n = true) (by simp) (by omega) ?_ ?_
                      · rintro c t3 hh hf hc ⟨r7, hj3⟩
                        (have r1 := hf 1 (by kernel_rfl); have r3 := hf 3 (by kernel_rfl); have r5 := hf 5 (by kernel_rfl); have r6 := hf 6 (by kernel_rfl); clear hf; simp [q1, q3, q5, q6] at r1 r3 r5 r6)
                        simp (disch := omega) [r1, r3, r5, r6, r7]
                        (with_reducible first | refine Ql (fun h10 => ?_) (fun h10 => ?_) | refine Qk (fun h10 => ?_) (fun h10 => ?_))
                        · have hGc := GSys.Glt h10
                          simp only [Qf, Qd, Qi, Qg, Qc, Qb, Bool.not_true, Bool.not_false] at h10
                          simp (disch := omega) [r1, r3, r5, r6, r7]
                          repeat' (first
    | with_reducible refine Qa (Zqg t hGa hGb hGc) (by simp) ?_
    | (with_reducible (first | refine Ql (fun hb_ => ?_) (fun hb_ => ?_) | refine Qk (fun hb_ => ?_) (fun hb_ => ?_)) <;> simp (disch := omega) [hb_, r1, r3, r5, r6, r7])
    | simp (disch := omega) [r1, r3, r5, r6, r7])
                          · refine ⟨by omega, Qh (by omega), by simp [Wy, hj3, hb_]⟩
                          · exact Xu (i := a) (by omega) (by simp [GSys.sysB, h7, Xu (p := fun b => s.sysC n a b) (i := b) (n := n) (by omega) (by simp [GSys.sysC, h9, Xu (p := fun c => s.three a b c) (i := c) (n := n) (by omega) (by simpa using hb_)])])
                        · simp only [Qf, Qd, Qi, Qg, Qc, Qb, Bool.not_true, Bool.not_false] at h10
                          simp (disch := omega)
                          rw [← hj3, show c = n by omega]
                      · rintro t4 hh hf hj3
                        (have r1 := hf 1 (by kernel_rfl); have r3 := hf 3 (by kernel_rfl); have r5 := hf 5 (by kernel_rfl); have r6 := hf 6 (by kernel_rfl); clear hf; simp [q1, q3, q5, q6] at r1 r3 r5 r6)
                        simp (disch := omega) [r1, r3, r5, r6]
                        exact ⟨by omega, Qh (by omega), by simp [Wy, hj2, show s.sysC n a b = true by simp [GSys.sysC, h9, hj3]]⟩
                    · simp (disch := omega)
                      exact Xu (i := a) (by omega) (by simp [GSys.sysB, h7, Xu (p := fun b => s.sysC n a b) (i := b) (n := n) (by omega) (by simp_all [GSys.sysC])])
                · simp only [Qf, Qd, Qi, Qg, Qc, Qb, Bool.not_true, Bool.not_false] at h8
                  simp (disch := omega)
                  rw [← hj2, show b = n by omega]
              · rintro t4 hh hf hj2
                (have r1 := hf 1 (by kernel_rfl); have r3 := hf 3 (by kernel_rfl); have r5 := hf 5 (by kernel_rfl); clear hf; simp [f1, f3, f5] at r1 r3 r5)
                simp (disch := omega) [r1, r3, r5]
                exact ⟨by omega, Qh (by omega), by simp [Wy, hj, show s.sysB n a = true by simp [GSys.sysB, h7, hj2]]⟩
            · simp (disch := omega)
              exact Xu (i := a) (by omega) (by simp_all [GSys.sysB])
        · simp only [Qf, Qd, Qi, Qg, Qc, Qb, Bool.not_true, Bool.not_false] at h6
          simp (disch := omega)
          rw [← hj, show a = n by omega]
  · simp_all [GSys.tabB, GSys.sys]
end Go.Proofs.YtclfngbealdbgaaGreat
namespace Go.Proofs.YtclfngbealdbgaaGreat
open Go Go.TL
open Go.Proofs.YtclfngbealdbgaaGreat.Ty
set_option linter.unusedSimpArgs false
set_option linter.unusedVariables false
set_option maxRecDepth 20000
set_option maxHeartbeats 4000000
def Zfb (nv size : Int) (closed : Bool) (op n : Int) : Bool :=
 if eqB op 0 = true then Wb n 0 (nv - 1) else if eqB op 1 = true then Wb n 0 2 else if Jo op = true then ltB n size && (leB (-1) n && (!closed || leB 0 n)) else eqB n 0
def tyB (size : Int) (closed : Bool) (op : Int) (ty : List Int) : Bool := if WD op = true then wty ty && Z4 size closed ty else eqB ty.length 0
def VO (nv size : Int) (closed : Bool) (op n : Int) (ty : List Int) (len : Nat) : Bool := eqB len (Yh op) && (Zfb nv size closed op n && tyB size closed op ty)
mutual
def W1 (nv size : Int) (closed : Bool) : GTerm → Bool
 | .mk op n _ ty _ ks => VO nv size closed op n ty ks.length && Xq nv size closed op 0 ks
def Xq (nv size : Int) (closed : Bool) (op : Int) (k : Nat) : List GTerm → Bool
 | [] => true
 | t :: ts => W1 (nv + Qq op k) size closed t && Xq nv size closed op (k + 1) ts
end
theorem Zqc (nv size : Int) (closed : Bool) (t : GTerm) (hw : t.wf) (hs : I64 size) (hv : 0 ≤ nv ∧ nv ≤ 1000000) :
  Qe Tryz.prog V2 [t.lv, N nv, N size, B closed] (· = B (match t with | .mk op n _ ty _ ks => VO nv size closed op n ty ks.length)) := by
 obtain ⟨op, n, nl1, ty, nl2, ks⟩ := t
 simp only [GTerm.wf] at hw
 obtain ⟨hop, hn, hty, hk, hks⟩ := hw
 refine Qe.of_codeOf ZjS Qy (by simp) ⟨_, rfl, by simp⟩ ?_
 simp (disch := omega) [Zdm, Qw, Qu, GTerm.cells]
 repeat' (first
  | with_reducible refine Qa (Zp0 op) (by simp) ?_
  | with_reducible refine Qa (Zht _ _ _) (by simp) ?_
  | with_reducible refine Qa (l2Has_ok op) (by simp) ?_
  | with_reducible refine Qa (ZhO op) (by simp) ?_
  | with_reducible refine Qa (Zfm nl1 ty hty) (by simp) ?_
  | with_reducible refine Qa (Zf0 nl1 ty hty size hs _) (by simp) ?_
  | (with_reducible (first | refine Ql (fun hb_ => ?_) (fun hb_ => ?_) | refine Qk (fun hb_ => ?_) (fun hb_ => ?_)) <;> simp (disch := omega) [hb_, Qh])
  | simp (disch := omega) [Qh])
 all_goals simp_all [VO, Zfb, tyB, ZaR]
theorem Zk2 : ∀ (d : Nat) (t : GTerm), t.size ≤ d → t.wf → ∀ left : Int, 0 ≤ left → left ≤ 1000000 → Qe Tryz.prog ZU [t.lv, N left] (· = N (WS t.size left)) := by
 intro d
 induction d with
 | zero => intro t h; have := t.size_pos; omega
 | succ d ih =>
  rintro ⟨op, n, nl1, ty, nl2, ks⟩ hd hw left h0 h1
  simp only [GTerm.wf] at hw
  obtain ⟨hop, hn, hty, hk, hks⟩ := hw
  simp only [GTerm.size, GTerm.lv, GTerm.cells] at hd ⊢
  refine Qe.of_codeOf Zj6 Qy (by simp) ⟨_, rfl, by simp⟩ ?_
  simp (disch := omega) [Zdg, Qw, Qu, GTerm.cells, Qh]
  refine Q9 ks.length 0 (fun i t _ => ∃ m : Int, t 5 = N i ∧ t 1 = N m ∧ -1 ≤ m ∧ m ≤ left ∧ WS (Wl ks + 1) left = WS (Wl (ks.drop i)) m) ⟨left - 1, by simp, by simp, by omega, by omega, by unfold WS; simp; split <;> split <;> omega⟩ (by omega) ?_
  rintro i t1 hh hf hi ⟨m, e5, e1, hm, hml, he⟩
  (have e2 := hf 2 (by kernel_rfl); clear hf; simp [] at e2)
  simp (disch := omega) [e1, e2, e5]
  (with_reducible first | refine Ql (fun h6 => ?_) (fun h6 => ?_) | refine Qk (fun h6 => ?_) (fun h6 => ?_))
  ·simp (disch := omega) [e1, e2, e5, h6]
   simp only [Qf, Qd, Qi, Qg, Qc, Qb, Bool.not_true, Bool.not_false] at h6
   have hsd := ZdT (ks := ks) (i := i) (by omega)
   have hsk := WP (ks := ks) (i := i) (by omega)
   have hwk : (ks[i]'(by omega)).wf := Z5.1 hks _ (List.getElem_mem _)
   (with_reducible first | refine Ql (fun h7 => ?_) (fun h7 => ?_) | refine Qk (fun h7 => ?_) (fun h7 => ?_))
   ·simp only [Qf, Qd, Qi, Qg, Qc, Qb, Bool.not_true, Bool.not_false] at h7
    have hc := ih (ks[i]'(by omega)) (by omega) hwk m h7 (by omega)
    simp (disch := omega) [e1, e2, e5, ZG]
    repeat' (first
  | with_reducible refine Qa (hc) (by simp) ?_
  | (with_reducible (first | refine Ql (fun hb_ => ?_) (fun hb_ => ?_) | refine Qk (fun hb_ => ?_) (fun hb_ => ?_)) <;> simp (disch := omega) [hb_, e1, e2, e5])
  | simp (disch := omega) [e1, e2, e5])
    rw [he, hsd]
    refine ⟨by omega, Qh (by omega), ?_⟩
    unfold WS; repeat' split
    all_goals omega
   ·simp only [Qf, Qd, Qi, Qg, Qc, Qb, Bool.not_true, Bool.not_false] at h7
    simp (disch := omega) [e1, e2, e5]
    rw [he, show m = -1 by omega]; unfold WS; split <;> omega
  ·simp (disch := omega) [e1, e2, e5, h6]
   simp only [Qf, Qd, Qi, Qg, Qc, Qb, Bool.not_true, Bool.not_false] at h6
   rw [he, show i = ks.length by omega, List.drop_length]; simp [Wl, WS]; try omega
theorem Zqy (size : Int) (closed : Bool) (hs : I64 size) : ∀ (d : Nat) (t : GTerm), t.size ≤ d → t.wf → ∀ nv : Int, 0 ≤ nv → nv + 2 * t.size ≤ 1000000 → Qe Tryz.prog Ko [t.lv, N nv, N size, B closed] (· = B (W1 nv size closed t)) := by
 intro d
 induction d with
 | zero => intro t h; have := t.size_pos; omega
 | succ d ih =>
  rintro ⟨op, n, nl1, ty, nl2, ks⟩ hd hw nv h0 h1
  have hN := Zqc nv size closed (.mk op n nl1 ty nl2 ks) hw hs ⟨h0, by omega⟩
  simp only [GTerm.wf] at hw
  obtain ⟨hop, hn, hty, hk, hks⟩ := hw
  simp only [GTerm.size, GTerm.lv, GTerm.cells] at hd h1 hN ⊢
  refine Qe.of_codeOf Zkq Qy (by simp) ⟨_, rfl, by simp⟩ ?_
  simp (disch := omega) [Zdb, Qw, Qu, GTerm.cells]
  refine Qa hN (by simp) ?_
  simp (disch := omega)
  (with_reducible first | refine Ql (fun h3 => ?_) (fun h3 => ?_) | refine Qk (fun h3 => ?_) (fun h3 => ?_))
  ·simp (disch := omega)
   refine Q9 ks.length 0 (fun i t _ => t 9 = N i ∧ W1 nv size closed (.mk op n nl1 ty nl2 ks) = Xq nv size closed op i (ks.drop i)) (by simp [W1, h3]) (by omega) ?_
   rintro i t1 hh hf hi ⟨e9, he⟩
   (have e1 := hf 1 (by kernel_rfl); have e2 := hf 2 (by kernel_rfl); have e3 := hf 3 (by kernel_rfl); have e4 := hf 4 (by kernel_rfl); clear hf; simp [] at e1 e2 e3 e4)
   simp (disch := omega) [e1, e2, e3, e4, e9]
   (with_reducible first | refine Ql (fun h6 => ?_) (fun h6 => ?_) | refine Qk (fun h6 => ?_) (fun h6 => ?_))
   ·simp only [Qf, Qd, Qi, Qg, Qc, Qb, Bool.not_true, Bool.not_false] at h6
    have hsk := WP (ks := ks) (i := i) (by omega)
    have hwk : (ks[i]'(by omega)).wf := Z5.1 hks _ (List.getElem_mem _)
    have hA : 0 ≤ Qq op i ∧ Qq op i ≤ 2 := by (unfold Qq; repeat' split) <;> omega
    have hc := ih (ks[i]'(by omega)) (by omega) hwk (nv + Qq op i) (by omega) (by omega)
    have hfd : Xq nv size closed op i (ks.drop i) = (W1 (nv + Qq op i) size closed (ks[i]'(by omega)) && Xq nv size closed op (i + 1) (ks.drop (i + 1))) := by
     rw [List.drop_eq_getElem_cons (by omega), Xq]
    simp (disch := omega) [e1, e2, e3, e4, e9, ZG]
    repeat' (first
  | with_reducible refine Qa (ZfM op i) (by simp) ?_
  | with_reducible refine Qa (hc) (by simp) ?_
  | (with_reducible (first | refine Ql (fun hb_ => ?_) (fun hb_ => ?_) | refine Qk (fun hb_ => ?_) (fun hb_ => ?_)) <;> simp (disch := omega) [hb_, e1, e2, e3, e4, e9, Qh])
  | simp (disch := omega) [e1, e2, e3, e4, e9, Qh])
    ·exact ⟨by omega, by rw [he, hfd, hb_, Bool.true_and]⟩
    ·rw [he, hfd, hb_, Bool.false_and]
   ·simp only [Qf, Qd, Qi, Qg, Qc, Qb, Bool.not_true, Bool.not_false] at h6
    simp (disch := omega) [e1, e2]
    rw [he, show i = ks.length by omega, List.drop_length]; simp [Xq]
  ·simp (disch := omega)
   simp [W1, h3]
end Go.Proofs.YtclfngbealdbgaaGreat
namespace Go.Proofs.YtclfngbealdbgaaGreat
open Go Go.TL
open Go.Proofs.YtclfngbealdbgaaGreat.Ty
set_option linter.unusedSimpArgs false
set_option linter.unusedVariables false
set_option linter.unusedSectionVars false
set_option maxRecDepth 20000
set_option maxHeartbeats 4000000
def FnB (P : Program) (f v : LV) (b : Bool) : Prop := ∃ fid vals, Zo f [v] = some (fid, vals) ∧ QD 0 vals ∧ Qe P fid vals (· = B b)
theorem Zmc {P : Program} {f v : LV} {b : Bool} {d : Nat} {K : St → Prop} {s : St} (h : FnB P f v b) (hk : K { t := upd s.t d (B b), h := s.h }) : onFn P .no f [v] (some d) K s := by
 obtain ⟨fid, vals, h1, h2, h3⟩ := h
 exact ⟨fid, vals, h1, Qa (rw := .no) h3 h2 hk⟩
def numG (pg : Int → Bool) (nv : Int) (op n : Int) : Bool :=
 if eqB op 0 = true then Wb n 0 (nv - 1) else if eqB op 1 = true then Wb n 0 2 else if Jo op = true then pg n else eqB n 0
def tyG (pt : List Int → Bool) (op : Int) (ty : List Int) : Bool := if WD op = true then pt ty else eqB ty.length 0
def ZiR (pg : Int → Bool) (pt : List Int → Bool) (nv : Int) (op n : Int) (ty : List Int) (len : Nat) : Bool := eqB len (Yh op) && (numG pg nv op n && tyG pt op ty)
mutual
def Zdx (pg : Int → Bool) (pt : List Int → Bool) (nv : Int) : GTerm → Bool
 | .mk op n _ ty _ ks => ZiR pg pt nv op n ty ks.length && VZ pg pt nv op 0 ks
def VZ (pg : Int → Bool) (pt : List Int → Bool) (nv : Int) (op : Int) (k : Nat) : List GTerm → Bool
 | [] => true
 | t :: ts => Zdx pg pt (nv + Qq op k) t && VZ pg pt nv op (k + 1) ts
end
section
variable {pg : Int → Bool} {pt : List Int → Bool} {size : Int} {closed : Bool} (hg : ∀ n, pg n = (ltB n size && (leB (-1) n && (!closed || leB 0 n)))) (ht : ∀ ty, pt ty = (wty ty && Z4 size closed ty))
include hg ht
mutual
theorem Znm : ∀ (t : GTerm) (nv : Int), Zdx pg pt nv t = W1 nv size closed t
 | .mk op n nl1 ty nl2 ks, nv => by
  simp only [Zdx, W1, ZkG ks, ZiR, VO, numG, Zfb, tyG, tyB, hg, ht]
theorem ZkG : ∀ (ks : List GTerm) (nv op : Int) (k : Nat), VZ pg pt nv op k ks = Xq nv size closed op k ks
 | [], _, _, _ => by simp [VZ, Xq]
 | t :: ts, nv, op, k => by simp only [VZ, Xq, Znm t, ZkG ts]
end
end
def ZfU (f : Bool) (nodes : Int) (sz : Nat) : Int := if f = true ∧ nodes + sz ≤ 400 then nodes + sz else 401
theorem ZkV {op : Int} (h : Wb op 0 12 = false) : Yh op = -1 := by
 rw [Zey] at h
 unfold Yh; repeat' split
 all_goals omega
theorem Zoc {op : Int} {n : Nat} (h : eqB n (Yh op) = true) : Wb op 0 12 = true := by
 cases hc : Wb op 0 12 with
 | true => rfl
 | false => rw [ZkV hc, Qc] at h; omega
theorem check_ok (fg ft : LV) (pg : Int → Bool) (pt : List Int → Bool) (sg : share fg = fg) (st : share ft = ft) (lg : Low 0 fg) (lt : Low 0 ft)
    (hg : ∀ n, I64 n → FnB Tryz.prog fg (N n) (pg n)) (ht : ∀ nl ty, Lok ty → FnB Tryz.prog ft (L nl ty) (pt ty)) : ∀ (d : Nat) (t : GTerm), t.size ≤ d → t.wf → ∀ nv nodes : Int, 0 ≤ nodes → nodes ≤ 400 → 0 ≤ nv → nv ≤ 8 + 2 * nodes →
    Qe Tryz.prog K3 [t.lv, N nv, fg, ft, N nodes] (· = N (ZfU (Zdx pg pt nv t) nodes t.size)) := by
  intro d
  induction d with
  | zero => intro t h; have := t.size_pos; omega
  | succ d ih =>
    rintro ⟨op, n, nl1, ty, nl2, ks⟩ hd hw nv nodes h0 h1 h2 h3
    simp only [GTerm.wf] at hw
    obtain ⟨hop, hn, hty, hk, hks⟩ := hw
    simp only [GTerm.size, GTerm.lv, GTerm.cells] at hd ⊢
    refine Qe.of_codeOf Zlk Qy (by simp) ⟨_, rfl, by simp⟩ ?_
    simp (disch := omega) [Ze6, Qw, Qu, GTerm.cells, Qh, sg, st]
    refine Qa (Zqd op) (by simp) ?_
    by_cases hf : Wb op 0 12 = true
    · rw [Zio, if_pos hf]
      simp (disch := omega) [sg, st]
      (with_reducible first | refine Ql (fun h4 => ?_) (fun h4 => ?_) | refine Qk (fun h4 => ?_) (fun h4 => ?_))
      · simp (disch := omega) [h4]
        simp only [Qf, Qd, Qi, Qg, Qc, Qb, Bool.not_true, Bool.not_false] at h4
        unfold ZfU; rw [if_neg (by omega)]
      · simp (disch := omega) [h4]
        simp only [Qf, Qd, Qi, Qg, Qc, Qb, Bool.not_true, Bool.not_false] at h4
        (with_reducible first | refine Ql (fun h5 => ?_) (fun h5 => ?_) | refine Qk (fun h5 => ?_) (fun h5 => ?_))
        · simp only [wpC_skip, Zlt]
          refine Zg9 (fun t h => t 12 = B (numG pg nv op n) ∧ h[1]? = some (some [wordV op, N (Yh op), B (Jo op), B (WD op)])) ?_ ?_
          · repeat' (first
    | with_reducible refine Qa (Jm _ _ _) (by simp) ?_
    | with_reducible refine Zmc (hg n hn) ?_
    | (with_reducible (first | refine Ql (fun hb_ => ?_) (fun hb_ => ?_) | refine Qk (fun hb_ => ?_) (fun hb_ => ?_)) <;> simp (disch := omega) [hb_, sg, st, Qh])
    | simp (disch := omega) [sg, st, Qh])
            all_goals simp_all [numG]
          · rintro t1 hh hf1 ⟨e12, eh⟩
            (have e1 := hf1 1 (by kernel_rfl); have e2 := hf1 2 (by kernel_rfl); have e3 := hf1 3 (by kernel_rfl); have e4 := hf1 4 (by kernel_rfl); have e5 := hf1 5 (by kernel_rfl); have e11 := hf1 11 (by kernel_rfl); clear hf1; simp [sg, st] at e1 e2 e3 e4 e5 e11)
            obtain ⟨q, hq⟩ : ∃ q, (numG pg nv op n && tyG pt op ty) = q := ⟨_, rfl⟩
            refine Zg9 (fun t h => t 12 = B q) ?_ ?_
            · repeat' (first
    | with_reducible refine Zmc (ht nl1 ty hty) ?_
    | (with_reducible (first | refine Ql (fun hb_ => ?_) (fun hb_ => ?_) | refine Qk (fun hb_ => ?_) (fun hb_ => ?_)) <;> simp (disch := omega) [hb_, sg, st, e1, e2, e3, e4, e5, e11, e12, eh])
    | simp (disch := omega) [sg, st, e1, e2, e3, e4, e5, e11, e12, eh])
              all_goals rw [← hq]
              all_goals simp_all [tyG]
            · rintro t2 hh hf1 f12
              (have f1 := hf1 1 (by kernel_rfl); have f2 := hf1 2 (by kernel_rfl); have f3 := hf1 3 (by kernel_rfl); have f4 := hf1 4 (by kernel_rfl); have f5 := hf1 5 (by kernel_rfl); clear hf1; simp [e1, e2, e3, e4, e5] at f1 f2 f3 f4 f5)
              simp (disch := omega) [f12]
              (with_reducible first | refine Ql (fun h6 => ?_) (fun h6 => ?_) | refine Qk (fun h6 => ?_) (fun h6 => ?_))
              · have hN : ZiR pg pt nv op n ty ks.length = true := by simp only [ZiR, h5, hq, h6, Bool.true_and]
                simp (disch := omega) [f1, f2, f3, f4, f5]
                refine Q9 ks.length 0 (fun i t _ => ∃ nd : Int, t 84 = N i ∧ t 4 = N nd ∧ nodes + 1 ≤ nd ∧ nd ≤ 400 ∧ ZfU (Zdx pg pt nv (.mk op n nl1 ty nl2 ks)) nodes (Wl ks + 1) = ZfU (VZ pg pt nv op i (ks.drop i)) nd (Wl (ks.drop i)))
                  ⟨nodes + 1, by simp, by simp [f4], by omega, by omega, ?_⟩ (by omega) ?_
                · simp only [Zdx, hN, Bool.true_and, List.drop_zero, ZfU]
                  congr 1 <;> grind
                rintro i t3 hh hf1 hi ⟨nd, g84, g4, hnd, hnd2, he⟩
                (have g1 := hf1 1 (by kernel_rfl); have g2 := hf1 2 (by kernel_rfl); have g3 := hf1 3 (by kernel_rfl); have g5 := hf1 5 (by kernel_rfl); have g82 := hf1 82 (by kernel_rfl); have g83 := hf1 83 (by kernel_rfl); clear hf1; simp [f1, f2, f3, f5] at g1 g2 g3 g5 g82 g83)
                simp (disch := omega) [g1, g2, g3, g4, g5, g82, g83, g84]
                (with_reducible first | refine Ql (fun h7 => ?_) (fun h7 => ?_) | refine Qk (fun h7 => ?_) (fun h7 => ?_))
                · simp only [Qf, Qd, Qi, Qg, Qc, Qb, Bool.not_true, Bool.not_false] at h7
                  have hsd := ZdT (ks := ks) (i := i) (by omega)
                  have hsk := WP (ks := ks) (i := i) (by omega)
                  have hwk : (ks[i]'(by omega)).wf := Z5.1 hks _ (List.getElem_mem _)
                  have hA : 0 ≤ Qq op i ∧ Qq op i ≤ 2 := by (unfold Qq; repeat' split) <;> omega
                  have hc := ih (ks[i]'(by omega)) (by omega) hwk (nv + Qq op i) nd (by omega) (by omega) (by omega) (by omega)
                  have hfd : VZ pg pt nv op i (ks.drop i) = (Zdx pg pt (nv + Qq op i) (ks[i]'(by omega)) && VZ pg pt nv op (i + 1) (ks.drop (i + 1))) := by
                    rw [List.drop_eq_getElem_cons (by omega), VZ]
                  simp (disch := omega) [g1, g2, g3, g4, g5, g82, g83, g84, ZG, sg, st]
                  repeat' (first
    | with_reducible refine Qa (Zhb op i) (by simp) ?_
    | with_reducible refine Qa hc (by simp [lg, lt]) ?_
    | (with_reducible (first | refine Ql (fun hb_ => ?_) (fun hb_ => ?_) | refine Qk (fun hb_ => ?_) (fun hb_ => ?_)) <;> simp (disch := omega) [hb_, g1, g2, g3, g4, g5, g82, g83, g84, Qh, sg, st])
    | simp (disch := omega) [g1, g2, g3, g4, g5, g82, g83, g84, Qh, sg, st])
                  all_goals simp only [Qf, Qd, Qi, Qg, Qc, Qb, Bool.not_true, Bool.not_false] at hb_
                  all_goals rw [he, hfd, hsd]
                  · unfold ZfU at hb_ ⊢
                    grind
                  · refine ⟨by omega, ?_⟩
                    unfold ZfU at hb_ ⊢
                    grind
                · simp only [Qf, Qd, Qi, Qg, Qc, Qb, Bool.not_true, Bool.not_false] at h7
                  simp (disch := omega) [g4]
                  rw [he, show i = ks.length by omega, List.drop_length]; simp [VZ, ZfU, Wl]; omega
              · simp (disch := omega)
                unfold ZfU Zdx ZiR; rw [hq]; simp [h5, h6]
        · simp (disch := omega)
          unfold ZfU Zdx ZiR; simp [h5]
    · simp only [Bool.not_eq_true] at hf
      rw [Zio, if_neg (by simp [hf])]
      simp (disch := omega) [sg, st]
      unfold ZfU Zdx ZiR
      rw [ZkV hf, show eqB (ks.length : Int) (-1) = false by rw [Qb]; omega]
      simp
def GTerm.writ (t : GTerm) : Bool := decide (t.size ≤ 400) && W1 8 16 false t
end Go.Proofs.YtclfngbealdbgaaGreat
namespace Go.Proofs.YtclfngbealdbgaaGreat
open Go Go.TL
open Go.Proofs.YtclfngbealdbgaaGreat.Ty
set_option linter.unusedSimpArgs false
set_option linter.unusedVariables false
set_option maxRecDepth 20000
set_option maxHeartbeats 4000000
def okT (size : Int) (c : Bool × List Int) : Bool := wty c.2 && Z4 size true c.2
def okAt (size : Int) (ctx : Wf) (i : Nat) : Bool := okT size (ctx.getD i (true, []))
theorem ZlR {size : Int} {ctx : Wf} {i : Nat} (h : i < ctx.length) : okAt size ctx i = okT size ctx[i] := by simp [okAt, h]
def Zfy (size : Int) (ctx : Wf) : Bool := leB ctx.length 8 && YE (okAt size ctx) ctx.length
theorem Zms (s : GSys) (t : s.Tab) (nl : Bool) (ctx : Wf) (hw : ctx.wf) : Qe Tryz.prog Kh [s.lv, LC nl ctx] (· = B (Zfy s.size ctx)) := by
 refine Qe.of_codeOf ZfO Qy (by simp) ⟨_, rfl, by simp⟩ ?_
 have h2 := t.lo; have h16 := t.hi
 have hlen := hw.1
 have hI : I64 s.size := ⟨by omega, by omega⟩
 simp (disch := omega) [Zag, Qw, Qu]
 (with_reducible first | refine Ql (fun h1 => ?_) (fun h1 => ?_) | refine Qk (fun h1 => ?_) (fun h1 => ?_))
 ·simp (disch := omega)
  rw [ZaR] at h1; simp at h1; simp [Zfy, h1]
 ·simp (disch := omega)
  have e8 : Zfy s.size ctx = YE (okAt s.size ctx) ctx.length := by rw [ZaR] at h1; simp at h1; simp [Zfy, h1]
  rw [e8]
  refine Q9 ctx.length 0 (fun i t _ => t 5 = N i ∧ YE (okAt s.size ctx) i = true) (by simp) (by omega) ?_
  rintro i t1 hh hf hi ⟨e5, hj⟩
  (have e1 := hf 1 (by kernel_rfl); have e2 := hf 2 (by kernel_rfl); clear hf; simp [] at e1 e2)
  simp (disch := omega) [e1, e2, e5]
  (with_reducible first | refine Ql (fun h6 => ?_) (fun h6 => ?_) | refine Qk (fun h6 => ?_) (fun h6 => ?_))
  ·simp only [Qf, Qd, Qi, Qg, Qc, Qb, Bool.not_true, Bool.not_false] at h6
   have hL : Lok (ctx[i]'(by omega)).2 := hw.2 _ (List.getElem_mem _)
   have ha := ZlR (size := s.size) (ctx := ctx) (i := i) (by omega)
   simp (disch := omega) [e1, e2, e5, JW]
   rcases h : ctx[i]'(by omega) with ⟨nl1, ty⟩
   rw [h] at hL ha
   simp only at hL
   repeat' (first
  | with_reducible refine Qa (Zfm nl1 ty hL) (by simp) ?_
  | with_reducible refine Qa (Zf0 nl1 ty hL s.size hI true) (by simp) ?_
  | (with_reducible (first | refine Ql (fun hb_ => ?_) (fun hb_ => ?_) | refine Qk (fun hb_ => ?_) (fun hb_ => ?_)) <;> simp (disch := omega) [hb_, e1, e2, e5, JW, h])
  | simp (disch := omega) [e1, e2, e5, JW, h])
   all_goals first
    | exact ⟨by omega, Qh (by omega), by simp_all [Wy, okT]⟩
    | exact (Xu (p := okAt s.size ctx) (i := i) (by omega) (by simp_all [okT]))
  ·simp only [Qf, Qd, Qi, Qg, Qc, Qb, Bool.not_true, Bool.not_false] at h6
   simp (disch := omega)
   rw [show i = ctx.length by omega] at hj
   rw [hj]
theorem Zh1 (s : GSys) (t : s.Tab) (c : Bool × List Int) (hL : Lok c.2) : FnB Tryz.prog (.fn XZ [.rp s.cells]) (eC c) (!okT s.size c) := by
 refine ⟨XZ, [eC c, .rp s.cells], by simp [Zo], by simp, ?_⟩
 refine Qe.of_codeOf ZdQ Qy (by simp) ⟨_, rfl, by simp⟩ ?_
 obtain ⟨nl1, ty⟩ := c
 simp (disch := omega) [VH]
 repeat' (first
  | with_reducible refine Qa (Zf5 t nl1 ty hL) (by simp) ?_
  | (with_reducible (first | refine Ql (fun hb_ => ?_) (fun hb_ => ?_) | refine Qk (fun hb_ => ?_) (fun hb_ => ?_)) <;> simp (disch := omega) [hb_])
  | simp (disch := omega))
 all_goals simp [okT]
theorem ZlJ (f : LV) (p : Bool × List Int → Bool) (sf : share f = f) (lf : Low 0 f) (nl : Bool) (ctx : Wf) (hw : ctx.wf) (hp : ∀ c ∈ ctx, FnB Tryz.prog f (eC c) (p c)) :
  Qe Tryz.prog Xb [LC nl ctx, f] (fun r => ∃ n : Int, r = N n ∧ leB 0 n = ctx.any p) := by
 have hlen := hw.1
 refine Qe.of_codeOf Jp Qy (by simp) ⟨N (if ctx.any p = true then 0 else -1), ⟨_, rfl, by split <;> simp_all [leB]⟩, by simp⟩ ?_
 simp (disch := omega) [X4]
 refine Q9 ctx.length 0 (fun i t _ => t 8 = N i ∧ ctx.any p = (ctx.drop i).any p) (by simp) (by omega) ?_
 rintro i t1 hh hf hi ⟨e8, hj⟩
 (have e0 := hf 0 (by kernel_rfl); have e1 := hf 1 (by kernel_rfl); have e6 := hf 6 (by kernel_rfl); have e7 := hf 7 (by kernel_rfl); clear hf; simp [sf] at e0 e1 e6 e7)
 simp (disch := omega) [e0, e1, e6, e7, e8]
 (with_reducible first | refine Ql (fun h6 => ?_) (fun h6 => ?_) | refine Qk (fun h6 => ?_) (fun h6 => ?_))
 ·simp only [Qf, Qd, Qi, Qg, Qc, Qb, Bool.not_true, Bool.not_false] at h6
  have hd := List.drop_eq_getElem_cons (l := ctx) (i := i) (by omega)
  have hpc := hp (ctx[i]'(by omega)) (List.getElem_mem _)
  simp (disch := omega) [e0, e1, e6, e7, e8, JW, sf]
  repeat' (first
  | with_reducible refine Zmc hpc ?_
  | (with_reducible (first | refine Ql (fun hb_ => ?_) (fun hb_ => ?_) | refine Qk (fun hb_ => ?_) (fun hb_ => ?_)) <;> simp (disch := omega) [hb_, e0, e1, e6, e7, e8, JW, sf])
  | simp (disch := omega) [e0, e1, e6, e7, e8, JW, sf])
  ·rw [hj, hd, List.any_cons, hb_, Bool.true_or, Qi]; omega
  ·exact ⟨by omega, Qh (by omega), by rw [hj, hd, List.any_cons, hb_, Bool.false_or]⟩
 ·simp only [Qf, Qd, Qi, Qg, Qc, Qb, Bool.not_true, Bool.not_false] at h6
  simp (disch := omega)
  rw [hj, show i = ctx.length by omega, List.drop_length]; simp [leB]
theorem Znd {P : Program} {K : St → Prop} {s : St} {rw : Rw} {d : Nat} {f : FuncId} {vals : List LV} {R : LV → Prop} (c : Qe P f vals R) (hl : QD 0 vals) (hk : ∀ r, R r → K { t := upd s.t d r, h := s.h }) (hrw : rw ≠ .fr := by simp) : Z9 P rw f vals (some d) K s := Qm c hl hk hrw
theorem ZgS (f : LV) (p : Bool × List Int → Bool) (sf : share f = f) (lf : Low 0 f) (nl : Bool) (ctx : Wf) (hw : ctx.wf) (hp : ∀ c ∈ ctx, FnB Tryz.prog f (eC c) (p c)) :
  Qe Tryz.prog WX [LC nl ctx, f] (· = B (ctx.any p)) := by
 refine Qe.of_codeOf ZK Qy (by simp) ⟨_, rfl, by simp⟩ ?_
 simp (disch := omega) [XJ, sf]
 refine Znd (ZlJ f p sf lf nl ctx hw hp) (by simp [lf]) ?_
 rintro r ⟨n, rfl, hn⟩
 simp (disch := omega) [sf, hn]
theorem Znv {ctx : Wf} {size : Int} : ∀ n, n ≤ ctx.length → YE (okAt size ctx) n = !((ctx.take n).any fun c => !okT size c)
 | 0, _ => by simp
 | n + 1, h => by
  rw [Wy, Znv n (by omega), ZlR (by omega), List.take_succ_eq_append_getElem (by omega), List.any_append]
  simp [Bool.not_or]
theorem Zmw (s : GSys) (t : s.Tab) (nl : Bool) (ctx : Wf) (hw : ctx.wf) : Qe Tryz.prog J8 [s.lv, LC nl ctx] (· = B (Zfy s.size ctx)) := by
 refine Qe.of_codeOf ZfK Qy (by simp) ⟨_, rfl, by simp⟩ ?_
 have hlen := hw.1
 have hc := ZgS (.fn XZ [.rp s.cells]) (fun c => !okT s.size c) (by simp) (by simp) nl ctx hw (fun c hc => Zh1 s t c (hw.2 c hc))
 have ha := Znv (ctx := ctx) (size := s.size) ctx.length (by omega)
 rw [List.take_length] at ha
 simp (disch := omega) [Zay, Qw, Qu]
 repeat' (first
  | with_reducible refine Qa (hc) (by simp) ?_
  | (with_reducible (first | refine Ql (fun hb_ => ?_) (fun hb_ => ?_) | refine Qk (fun hb_ => ?_) (fun hb_ => ?_)) <;> simp (disch := omega) [hb_])
  | simp (disch := omega))
 all_goals simp_all [Zfy]
structure GSes where
 sys : GSys
 nl : Bool
 ctx : Wf
 term : GTerm
def GSes.cells (x : GSes) : List LV := x.sys.cells ++ (LC x.nl x.ctx :: x.term.cells)
abbrev GSes.lv (x : GSes) : LV := .agg x.cells
def GSes.wf (x : GSes) : Prop := x.sys.wf ∧ x.ctx.wf ∧ x.term.wf
def GSes.ok (x : GSes) : Bool := x.sys.sys && (Zfy x.sys.size x.ctx && x.term.writ)
end Go.Proofs.YtclfngbealdbgaaGreat
namespace Go.Proofs.YtclfngbealdbgaaGreat
open Go Go.TL
set_option linter.unusedSimpArgs false
set_option linter.unusedVariables false
set_option maxRecDepth 20000
set_option maxHeartbeats 4000000
def Rok (l : List Int) : Prop := l.length ≤ 9223372036854775807 ∧ ∀ n ∈ l, I64 n
def GSys.raw (s : GSys) : Prop := I64 s.size ∧ Rok s.plus ∧ Rok s.times ∧ s.below.length ≤ 9223372036854775807
def GSys.w (s : GSys) : Nat := s.plus.length + (s.times.length + s.below.length)
theorem GSys.wf_of {s : GSys} (h : s.raw) (hw : s.w ≤ 1099511627776) : s.wf := by
 obtain ⟨h1, ⟨h2, h3⟩, ⟨h4, h5⟩, h6⟩ := h
 unfold GSys.w at hw
 exact ⟨h1, by omega, by omega, by omega, h3, h5⟩
def GSys.norm (s : GSys) : GSys := { s with n1 := false, n2 := false, n3 := false }
def GSys.own (s : GSys) : List LV := [N s.size, OU true false s.plus, OU true false s.times, OB true false s.below]
@[simp] theorem GSys.share_own (s : GSys) : shareAll s.own = s.norm.cells := by simp [GSys.own, GSys.norm]
@[simp] theorem GSys.low_own (s : GSys) (k : Nat) : QD k s.own := by simp [GSys.own]
@[simp] theorem GSys.own_length (s : GSys) : s.own.length = 4 := rfl
def GSys.same (a b : GSys) : Bool := eqB a.size b.size && ((a.plus == b.plus) && ((a.times == b.times) && (a.below == b.below)))
theorem GSys.same_refl (a : GSys) : a.same a = true := by simp [GSys.same]
theorem ZnS (s : GSys) (hr : s.raw) (left : Int) (h0 : 0 ≤ left) (h1 : left ≤ 1099511627776) : Qe Tryz.prog KO [s.lv, N left] (· = N (WS s.w left)) := by
 refine Qe.of_codeOf Zgx Qy (by simp) ⟨_, rfl, by simp⟩ ?_
 obtain ⟨_, ⟨hp, _⟩, ⟨ht, _⟩, hb⟩ := hr
 have r1 := XT (a := s.plus.length) h0
 simp (disch := omega) [Zbr, Qw, Qu]
 refine Qa (ZcP _ _ hp left h0 h1) (by simp) ?_
 simp (disch := omega)
 rw [GSys.w, Zu h0]
 (with_reducible first | refine Ql (fun h2 => ?_) (fun h2 => ?_) | refine Qk (fun h2 => ?_) (fun h2 => ?_))
 ·simp only [Qf, Qd, Qi, Qg, Qc, Qb, Bool.not_true, Bool.not_false] at h2
  simp (disch := omega)
  rw [Zaz h2]
 simp only [Qf, Qd, Qi, Qg, Qc, Qb, Bool.not_true, Bool.not_false] at h2
 have r2 := XT (a := s.times.length) h2
 simp (disch := omega)
 refine Qa (ZcP _ _ ht _ h2 (by omega)) (by simp) ?_
 simp (disch := omega)
 rw [Zu h2]
 (with_reducible first | refine Ql (fun h3 => ?_) (fun h3 => ?_) | refine Qk (fun h3 => ?_) (fun h3 => ?_))
 ·simp only [Qf, Qd, Qi, Qg, Qc, Qb, Bool.not_true, Bool.not_false] at h3
  simp (disch := omega)
  rw [Zaz h3]
 simp only [Qf, Qd, Qi, Qg, Qc, Qb, Bool.not_true, Bool.not_false] at h3
 have r3 := XT (a := s.below.length) h3
 simp (disch := omega)
 refine Qa (Zow _ _ hb _ h3 (by omega)) (by simp) ?_
 repeat' (first
  | (with_reducible (first | refine Ql (fun hb_ => ?_) (fun hb_ => ?_) | refine Qk (fun hb_ => ?_) (fun hb_ => ?_)) <;> simp (disch := omega) [hb_])
  | simp (disch := omega))
 all_goals simp only [Qf, Qd, Qi, Qg, Qc, Qb, Bool.not_true, Bool.not_false] at hb_
 all_goals omega
theorem ZmM (s : GSys) (hw : s.wf) : Qe Tryz.prog X7 [s.lv] (· = .agg s.own) := by
 refine Qe.of_codeOf ZgA Qy (by simp) ⟨_, rfl, by simp⟩ ?_
 obtain ⟨hs, h1, h2, h3, h4, h5⟩ := hw
 have t1 := ZcN s.n1 s.plus h1
 have t2 := ZcN s.n2 s.times h2
 have t3 := Zob s.n3 s.below h3
 simp (disch := omega) [Zbg, Qw, Qu]
 repeat' (first
  | with_reducible refine Qa (t1) (by simp) ?_
  | with_reducible refine Qa (t2) (by simp) ?_
  | with_reducible refine Qa (t3) (by simp) ?_
  | (with_reducible (first | refine Ql (fun hb_ => ?_) (fun hb_ => ?_) | refine Qk (fun hb_ => ?_) (fun hb_ => ?_)) <;> simp (disch := omega) [hb_])
  | simp (disch := omega))
 all_goals simp [GSys.own]
theorem Znl (a b : GSys) (hw : a.wf) : Qe Tryz.prog KW [a.lv, b.lv] (· = B (a.same b)) := by
 refine Qe.of_codeOf ZgC Qy (by simp) ⟨_, rfl, by simp⟩ ?_
 obtain ⟨hs, h1, h2, h3, h4, h5⟩ := hw
 have t1 := ZcQ a.n1 b.n1 a.plus b.plus h1
 have t2 := ZcQ a.n2 b.n2 a.times b.times h2
 have t3 := Zok a.n3 b.n3 a.below b.below h3
 rw [GSys.same]
 generalize (a.plus == b.plus) = q1 at *
 generalize (a.times == b.times) = q2 at *
 generalize (a.below == b.below) = q3 at *
 simp (disch := omega) [Zbk, Qw, Qu]
 repeat' (first
  | with_reducible refine Qa (t1) (by simp) ?_
  | with_reducible refine Qa (t2) (by simp) ?_
  | with_reducible refine Qa (t3) (by simp) ?_
  | (with_reducible (first | refine Ql (fun hb_ => ?_) (fun hb_ => ?_) | refine Qk (fun hb_ => ?_) (fun hb_ => ?_)) <;> simp (disch := omega) [hb_])
  | simp (disch := omega))
 all_goals simp_all
def GSes.raw (x : GSes) : Prop := x.sys.raw ∧ x.ctx.raw ∧ x.term.raw
def GSes.w (x : GSes) : Nat := x.sys.w + ((x.ctx.length + cws x.ctx) + x.term.w)
theorem GSes.wf_of {x : GSes} (h : x.raw) (hw : x.w ≤ 1099511627776) : x.wf := by
 obtain ⟨h1, h2, h3⟩ := h
 unfold GSes.w at hw
 exact ⟨GSys.wf_of h1 (by omega), ⟨by omega, fun c hc => ⟨by have := Zha hc; omega, (h2.2 c hc).2⟩⟩, Go.Proofs.YtclfngbealdbgaaGreat.wf_of x.term h3 (by omega)⟩
def GSes.norm (x : GSes) : GSes := ⟨x.sys.norm, false, x.ctx.norm, x.term.norm⟩
def GSes.own (x : GSes) : List LV := x.sys.own ++ (x.ctx.own :: x.term.own)
@[simp] theorem ZeI : ∀ a b : List LV, shareAll (a ++ b) = shareAll a ++ shareAll b
 | [], b => by simp [shareAll]
 | x :: a, b => by simp [shareAll, ZeI a b]
@[simp] theorem ZhS (k : Nat) : ∀ a b : List LV, QD k (a ++ b) ↔ QD k a ∧ QD k b
 | [], b => by simp
 | x :: a, b => by simp [ZhS k a b, and_assoc]
@[simp] theorem GSes.share_own (x : GSes) : shareAll x.own = x.norm.cells := by
 simp [GSes.own, GSes.norm, GSes.cells, Wf.norm]
@[simp] theorem GSes.low_own (x : GSes) (k : Nat) : QD k x.own := by simp [GSes.own]
@[simp] theorem GSes.low_cells (x : GSes) (k : Nat) : QD k x.cells := by simp [GSes.cells]
@[simp] theorem GSes.share_cells (x : GSes) : shareAll x.cells = x.cells := by simp [GSes.cells]
@[simp] theorem GSes.cells_length (x : GSes) : x.cells.length = 9 := by simp [GSes.cells]
@[simp] theorem GSes.own_length (x : GSes) : x.own.length = 9 := by simp [GSes.own]
@[simp] theorem GSes.take_cells (x : GSes) : x.cells.take 9 = x.cells := List.take_of_length_le (by simp)
@[simp] theorem GSes.take_own (x : GSes) : x.own.take 9 = x.own := List.take_of_length_le (by simp)
@[simp] theorem GSes.alive_own (x : GSes) : WI x.own = true := by simp [GSes.own, GSys.own]
@[simp] theorem GSes.alive_cells (x : GSes) : WI x.cells = true := by simp [GSes.cells]
theorem Wf.norm_wf {c : Wf} (h : c.wf) : c.norm.wf := by
 refine ⟨by simpa [Wf.norm] using h.1, fun d hd => ?_⟩
 simp only [Wf.norm, List.mem_map] at hd
 obtain ⟨e, he, rfl⟩ := hd
 exact h.2 e he
theorem GSes.norm_wf {x : GSes} (h : x.wf) : x.norm.wf := ⟨h.1, Wf.norm_wf h.2.1, Go.Proofs.YtclfngbealdbgaaGreat.norm_wf _ h.2.2⟩
def GSes.same (a b : GSes) : Bool := a.sys.same b.sys && (ZbU a.ctx b.ctx && a.term.same b.term)
theorem GSes.same_refl (a : GSes) : a.same a = true := by simp [GSes.same, GSys.same_refl, ZdW, Go.Proofs.YtclfngbealdbgaaGreat.same_refl]
end Go.Proofs.YtclfngbealdbgaaGreat
namespace Go.Proofs.YtclfngbealdbgaaGreat
open Go
open Go.TL (GM.all Rep RepVals Qs Qv LV)
open Go.TL (N B)
set_option linter.unusedVariables false
set_option maxRecDepth 20000
variable {H : Type} {enc : TypeId × Value → H} {P : Program} {w : World} {base : Nat} {spare : Nat → Bool} {held : Bool}
def YF (w : World) (xs : List LV) (cs : List Value) : Prop := RepVals (GM.all w) [] xs cs [] ∧ ∀ c ∈ cs, c.oneCell' = true
theorem YF.nil : YF w [] [] := ⟨by simp [RepVals], by simp⟩
theorem YF.cons {x : LV} {v : Value} {xs : List LV} {cs : List Value} (h : Rep (GM.all w) [] x v []) (h1 : v.oneCell' = true) (ht : YF w xs cs) : YF w (x :: xs) (v :: cs) := by
  refine ⟨?_, by intro c hc; simp only [List.mem_cons] at hc; rcases hc with rfl | hc; · exact h1
                 · exact ht.2 c hc⟩
  simp only [RepVals]
  exact ⟨v, cs, [], [], rfl, rfl, h, ht.1⟩
theorem YF.app {xs ys : List LV} {cs ds : List Value} (h1 : YF w xs cs) (h2 : YF w ys ds) : YF w (xs ++ ys) (cs ++ ds) := by
 induction xs generalizing cs with
 | nil =>
  obtain ⟨h, _⟩ := h1
  simp only [RepVals] at h
  rw [h.1]; simpa using h2
 | cons x xs ih =>
  obtain ⟨h, hc⟩ := h1
  simp only [RepVals] at h
  obtain ⟨v, ws, O1, O2, rfl, hO, g1, g2⟩ := h
  obtain ⟨rfl, rfl⟩ := List.append_eq_nil_iff.1 hO.symm
  exact YF.cons g1 (hc v (by simp)) (ih ⟨g2, fun c hc' => hc c (by simp [hc'])⟩)
theorem YF.length {xs : List LV} {cs : List Value} (h : YF w xs cs) : cs.length = xs.length := by
 induction xs generalizing cs with
 | nil => have := h.1; simp only [RepVals] at this; rw [this.1]; rfl
 | cons x xs ih =>
  obtain ⟨h, hc⟩ := h
  simp only [RepVals] at h
  obtain ⟨v, ws, O1, O2, rfl, hO, g1, g2⟩ := h
  obtain ⟨rfl, rfl⟩ := List.append_eq_nil_iff.1 hO.symm
  simp [ih ⟨g2, fun c hc' => hc c (by simp [hc'])⟩]
theorem YF.cells {xs : List LV} {cs : List Value} (h : YF w xs cs) (b off : Nat) (hc : ∀ i, i < cs.length → w.cell? ⟨b, off + i, none⟩ = cs[i]?) : Qs (GM.all w) [] xs b off [] := by
 induction xs generalizing cs off with
 | nil => simp [Qs]
 | cons x xs ih =>
  obtain ⟨h, h1⟩ := h
  simp only [RepVals] at h
  obtain ⟨v, ws, O1, O2, rfl, hO, g1, g2⟩ := h
  obtain ⟨rfl, rfl⟩ := List.append_eq_nil_iff.1 hO.symm
  simp only [Qs]
  refine ⟨v, [], [], rfl, by simpa [GM.all] using hc 0 (by simp), h1 v (by simp), g1, ih ⟨g2, fun c hc' => h1 c (by simp [hc'])⟩ (off + 1) fun i hi => ?_⟩
  have := hc (i + 1) (by simpa using hi)
  rw [show off + 1 + i = off + (i + 1) by omega]
  simpa using this
theorem Zic {a : Addr} {n : Nat} {cs : List Value} (h : w.cells? base a n = some cs) : cs.length = n ∧ ∀ i, i < n → w.cell? (a.add i) = cs[i]? := by
 unfold World.cells? at h
 split at h
 ·refine ⟨by simpa using mapM_some_length h, fun i hi => by simpa [hi] using mapM_some_get h i i (by simp [hi])⟩
 ·simp at h
theorem Zla {a : Addr} {v : Value} (h : w.cell? a = some v) : a.spot = none := by
 unfold World.cell? at h
 split at h
 ·split at h
  ·simp at h
  ·rename_i hs; simpa using hs
 ·simp at h
theorem add_at {b off i : Nat} : (⟨b, off, none⟩ : Addr).add i = ⟨b, off + i, none⟩ := by
 unfold Addr.add; split <;> simp_all
theorem Zlv {t : TypeId} (ht : P.underlying t = some (.int .i64)) {fuel : Nat} {cs : List Value} {x : DataW H × List MemPlace} (h : DataW.trod enc P w base spare held fuel t cs = some x) :
  ∃ n : Int, I64 n ∧ YF w [N n] cs := by
 obtain ⟨n, rfl, _, hw⟩ := DataW.trod_int ht h
 refine ⟨n, ?_, YF.cons (by simp [Rep]) rfl YF.nil⟩
 simp [Lit.wf, IntKind.min, IntKind.max, IntKind.signed, IntKind.bits] at hw
 unfold I64; omega
theorem rd_bool {t : TypeId} (ht : P.underlying t = some .bool) {fuel : Nat} {cs : List Value} {x : DataW H × List MemPlace} (h : DataW.trod enc P w base spare held fuel t cs = some x) :
  ∃ b : Bool, YF w [B b] cs := by
 obtain ⟨b, rfl, _⟩ := DataW.trod_bool ht h
 exact ⟨b, YF.cons (by simp [Rep]) rfl YF.nil⟩
theorem Zev {α : Type} (e : α → List LV) (Q : α → Prop) {t et : TypeId} {sz : Nat} (hsz : P.cellsOf et = sz) (hpos : 0 < sz) (ht : P.underlying t = some (.slice et)) {fuel : Nat}
  (each : ∀ n cs y, n < fuel → DataW.trod enc P w base spare held n et cs = some y → ∃ r, Q r ∧ YF w (e r) cs ∧ (e r).length = sz)
  {cs : List Value} {x : DataW H × List MemPlace} (h : DataW.trod enc P w base spare held fuel t cs = some x) :
  ∃ (nl : Bool) (l : List α), (∀ r ∈ l, Q r) ∧ l.length ≤ 9223372036854775807 ∧ YF w [.sl false nl sz (l.map e)] cs := by
 rcases DataW.trod_slice ht h with ⟨rfl, _⟩ | ⟨a, len, cap, elems, rest, n, rfl, rfl, _, _, hlc, hcm, hlen, hel, _, _⟩
 ·exact ⟨true, [], by simp, by simp, YF.cons (by simp [Rep]) rfl YF.nil⟩
 ·rw [hsz] at hel
  have get : ∀ i, i < len → ∃ r, Q r ∧ (e r).length = sz ∧ a.spot = none ∧ Qs (GM.all w) [] (e r) a.block (a.off + i * sz) [] := by
   intro i hi
   have h1 := hel i hi
   have h2 : elems[i]? = some (elems[i]'(by omega)) := List.getElem?_eq_getElem _
   rw [h2, Option.bind_eq_some_iff] at h1
   obtain ⟨cs', hc, htr⟩ := h1
   obtain ⟨r, hq, hv, hl⟩ := each n cs' _ (by omega) htr
   obtain ⟨hcl, hcg⟩ := Zic hc
   have hs : a.spot = none := by
    by_cases hi0 : i = 0
    ·have := hcg 0 hpos
     rw [List.getElem?_eq_getElem (by omega)] at this
     have hs := Zla this
     simpa [hi0, Addr.add] using hs
    ·have h0 := hel 0 (by omega)
     have h2 : elems[0]? = some (elems[0]'(by omega)) := List.getElem?_eq_getElem _
     rw [h2, Option.bind_eq_some_iff] at h0
     obtain ⟨cs0, hc0, _⟩ := h0
     obtain ⟨hcl0, hcg0⟩ := Zic hc0
     have := hcg0 0 hpos
     rw [List.getElem?_eq_getElem (by omega)] at this
     have hs := Zla this
     simpa [Addr.add] using hs
   refine ⟨r, hq, hl, hs, hv.cells _ _ fun j hj => ?_⟩
   have := hcg j (by omega)
   rw [← this]
   obtain ⟨b, off, sp⟩ := a
   simp only at hs
   subst hs
   rw [add_at, add_at]
  have Qj : ∀ k i, i + k = len → ∃ l : List α, l.length = k ∧ (∀ r ∈ l, Q r) ∧ Qv (GM.all w) [] (l.map e) sz a.block (a.off + i * sz) [] := by
   intro k
   induction k with
   | zero => intro i hi; exact ⟨[], rfl, by simp, by simp [Qv]⟩
   | succ k ih =>
    intro i hi
    obtain ⟨r, hq, hl, _, hc⟩ := get i (by omega)
    obtain ⟨l, h1, h2, h3⟩ := ih (i + 1) (by omega)
    refine ⟨r :: l, by simp [h1], by simpa using ⟨hq, h2⟩, ?_⟩
    simp only [List.map_cons, Qv]
    refine ⟨[], [], rfl, hl, hc, ?_⟩
    rw [show a.off + i * sz + sz = a.off + (i + 1) * sz by rw [Nat.add_mul]; omega]
    exact h3
  obtain ⟨l, h1, h2, h3⟩ := Qj len 0 (by omega)
  have hmx : maxLen = 9223372036854775807 := by decide
  refine ⟨false, l, h2, by omega, YF.cons ?_ rfl YF.nil⟩
  obtain ⟨b, off, sp⟩ := a
  simp only [Rep]
  refine .inr ⟨trivial, b, off, sp, cap, [], by simp [h1], ?_, by simp [h1, hlc], by simpa using h3, .inr ⟨.inl trivial, rfl⟩⟩
  by_cases h0 : len = 0
  ·right
   refine ⟨?_, .inl trivial⟩
   simp; exact List.eq_nil_of_length_eq_zero (by omega)
  ·left
   obtain ⟨_, _, _, hs, _⟩ := get 0 (by omega)
   exact hs
theorem Zg6 {t et : TypeId} (he : P.underlying et = some (.int .i64)) (hsz : P.cellsOf et = 1) (ht : P.underlying t = some (.slice et)) {fuel : Nat} {cs : List Value} {x : DataW H × List MemPlace}
  (h : DataW.trod enc P w base spare held fuel t cs = some x) : ∃ nl l, Rok l ∧ YF w [L nl l] cs := by
 obtain ⟨nl, l, hq, hl, hv⟩ := Zev (fun n => [N n]) I64 hsz (by omega) ht (fun n cs y _ hy => by
  obtain ⟨m, h1, h2⟩ := Zlv he hy
  exact ⟨m, h1, h2, rfl⟩) h
 exact ⟨nl, l, ⟨hl, hq⟩, hv⟩
theorem rd_bools {t et : TypeId} (he : P.underlying et = some .bool) (hsz : P.cellsOf et = 1) (ht : P.underlying t = some (.slice et)) {fuel : Nat} {cs : List Value} {x : DataW H × List MemPlace}
  (h : DataW.trod enc P w base spare held fuel t cs = some x) : ∃ nl l, l.length ≤ 9223372036854775807 ∧ YF w [LB nl l] cs := by
 obtain ⟨nl, l, hq, hl, hv⟩ := Zev (fun b => [B b]) (fun _ => True) hsz (by omega) ht (fun n cs y _ hy => by
  obtain ⟨m, h2⟩ := rd_bool he hy
  exact ⟨m, trivial, h2, rfl⟩) h
 exact ⟨nl, l, hl, hv⟩
theorem rd_ctx {t rt et : TypeId} (he : P.underlying et = some (.int .i64)) (hsz : P.cellsOf et = 1) (hr : P.underlying rt = some (.slice et)) (hrz : P.cellsOf rt = 1) (ht : P.underlying t = some (.slice rt)) {fuel : Nat} {cs : List Value} {x : DataW H × List MemPlace}
  (h : DataW.trod enc P w base spare held fuel t cs = some x) : ∃ (nl : Bool) (c : Wf), c.raw ∧ YF w [LC nl c] cs := by
 obtain ⟨nl, l, hq, hl, hv⟩ := Zev (fun c : Bool × List Int => [eC c]) (fun c => Rok c.2) hrz (by omega) ht (fun n cs y _ hy => by
  obtain ⟨nl, m, h1, h2⟩ := Zg6 he hsz hr hy
  exact ⟨(nl, m), h1, h2, rfl⟩) h
 exact ⟨nl, l, ⟨hl, hq⟩, hv⟩
theorem four {cs : List Value} {w0 w1 w2 w3 : List LV} (hl : cs.length = 4) (h0 : YF w w0 (cs.take 1)) (h1 : YF w w1 ((cs.drop 1).take 1)) (h2 : YF w w2 ((cs.drop 2).take 1)) (h3 : YF w w3 ((cs.drop 3).take 1)) : YF w (w0 ++ (w1 ++ (w2 ++ w3))) cs := by
 match cs, hl with
 | [a, b, c, d], _ => exact h0.app (h1.app (h2.app h3))
structure Tys (P : Program) where
 tI : TypeId
 tB : TypeId
 tL : TypeId
 tLB : TypeId
 tC : TypeId
 tT : TypeId
 tK : TypeId
 tS : TypeId
 fT : Array Field
 fS : Array Field
 hI : P.underlying tI = some (.int .i64)
 hB : P.underlying tB = some .bool
 hL : P.underlying tL = some (.slice tI)
 hLB : P.underlying tLB = some (.slice tB)
 hC : P.underlying tC = some (.slice tL)
 hT : P.underlying tT = some (.struct fT)
 hK : P.underlying tK = some (.slice tT)
 hS : P.underlying tS = some (.struct fS)
 cI : P.cellsOf tI = 1
 cB : P.cellsOf tB = 1
 cL : P.cellsOf tL = 1
 cLB : P.cellsOf tLB = 1
 cT : P.cellsOf tT = 4
 cK : P.cellsOf tK = 1
 cS : P.cellsOf tS = 4
 T0 : (fT[0]?).map (fun f => (f.type, f.offset)) = some (tI, 0)
 T1 : (fT[1]?).map (fun f => (f.type, f.offset)) = some (tI, 1)
 T2 : (fT[2]?).map (fun f => (f.type, f.offset)) = some (tL, 2)
 T3 : (fT[3]?).map (fun f => (f.type, f.offset)) = some (tK, 3)
 S0 : (fS[0]?).map (fun f => (f.type, f.offset)) = some (tI, 0)
 S1 : (fS[1]?).map (fun f => (f.type, f.offset)) = some (tL, 1)
 S2 : (fS[2]?).map (fun f => (f.type, f.offset)) = some (tL, 2)
 S3 : (fS[3]?).map (fun f => (f.type, f.offset)) = some (tLB, 3)
theorem Kt {fs : Array Field} {i : Nat} {t : TypeId} {o : Nat} (h : (fs[i]?).map (fun f => (f.type, f.offset)) = some (t, o)) {n : Nat} {cs : List Value} {xs : List (DataW H × List MemPlace)} (hl : xs.length = fs.size)
  (hf : ∀ (i : Nat) (f : Field), fs[i]? = some f → DataW.trod enc P w base spare held n f.type ((cs.drop f.offset).take (P.cellsOf f.type)) = xs[i]?) :
  ∃ y, DataW.trod enc P w base spare held n t ((cs.drop o).take (P.cellsOf t)) = some y := by
 rw [Option.map_eq_some_iff] at h
 obtain ⟨f, hf1, h2⟩ := h
 simp only [Prod.mk.injEq] at h2
 obtain ⟨rfl, rfl⟩ := h2
 have hi : i < xs.length := by
  rw [hl]
  exact (Array.getElem?_eq_some_iff.1 hf1).1
 exact ⟨xs[i], by rw [hf i f hf1]; exact List.getElem?_eq_getElem hi⟩
theorem rd_sys (T : Tys P) {fuel : Nat} {cs : List Value} {x : DataW H × List MemPlace} (h : DataW.trod enc P w base spare held fuel T.tS cs = some x) :
  ∃ s : GSys, s.raw ∧ YF w s.cells cs := by
 obtain ⟨xs, n, rfl, _, hl, hlen, hf⟩ := DataW.trod_struct T.hS h
 rw [T.cS] at hl
 obtain ⟨y0, h0⟩ := Kt T.S0 hlen hf
 obtain ⟨y1, h1⟩ := Kt T.S1 hlen hf
 obtain ⟨y2, h2⟩ := Kt T.S2 hlen hf
 obtain ⟨y3, h3⟩ := Kt T.S3 hlen hf
 rw [T.cI] at h0; rw [T.cL] at h1 h2; rw [T.cLB] at h3
 obtain ⟨size, r0, v0⟩ := Zlv T.hI h0
 obtain ⟨n1, plus, r1, v1⟩ := Zg6 T.hI T.cI T.hL h1
 obtain ⟨n2, times, r2, v2⟩ := Zg6 T.hI T.cI T.hL h2
 obtain ⟨n3, below, r3, v3⟩ := rd_bools T.hB T.cB T.hLB h3
 exact ⟨⟨size, n1, plus, n2, times, n3, below⟩, ⟨r0, r1, r2, r3⟩, four hl v0 v1 v2 v3⟩
theorem rd_term (T : Tys P) : ∀ (fuel : Nat) {cs : List Value} {x : DataW H × List MemPlace}, DataW.trod enc P w base spare held fuel T.tT cs = some x → ∃ t : GTerm, t.raw ∧ YF w t.cells cs := by
 intro fuel
 induction fuel using Nat.strongRecOn with
 | _ fuel ih =>
  intro cs x h
  obtain ⟨xs, n, rfl, _, hl, hlen, hf⟩ := DataW.trod_struct T.hT h
  rw [T.cT] at hl
  obtain ⟨y0, h0⟩ := Kt T.T0 hlen hf
  obtain ⟨y1, h1⟩ := Kt T.T1 hlen hf
  obtain ⟨y2, h2⟩ := Kt T.T2 hlen hf
  obtain ⟨y3, h3⟩ := Kt T.T3 hlen hf
  rw [T.cI] at h0 h1; rw [T.cL] at h2; rw [T.cK] at h3
  obtain ⟨op, r0, v0⟩ := Zlv T.hI h0
  obtain ⟨m, r1, v1⟩ := Zlv T.hI h1
  obtain ⟨n1, ty, r2, v2⟩ := Zg6 T.hI T.cI T.hL h2
  obtain ⟨n2, ks, r3, hlk, v3⟩ := Zev GTerm.cells GTerm.raw T.cT (by omega) T.hK (fun k cs' y hk hy => by
   obtain ⟨t, g1, g2⟩ := ih k (by omega) hy
   exact ⟨t, g1, g2, by simp⟩) h3
  refine ⟨.mk op m n1 ty n2 ks, ?_, ?_⟩
  ·simp only [GTerm.raw]
   exact ⟨r0, r1, r2, hlk, Zi4.2 r3⟩
  ·simp only [GTerm.cells, Vc]
   exact four hl v0 v1 v2 v3
theorem ZpU {xs : List LV} {cs : Array Value} (h : YF w xs cs.toList) : Rep (GM.all w) [] (.agg xs) (.agg cs) [] := by
 simp only [Rep]
 exact ⟨cs.toList, by simp, h.2, h.1⟩
end Go.Proofs.YtclfngbealdbgaaGreat
namespace Go.Proofs.YtclfngbealdbgaaGreat.Ty
inductive RT where
 | nd (c : Int) (ks : List RT)
mutual
def RT.flat : RT → List Int
 | .nd c ks => c :: QS ks
def QS : List RT → List Int
 | [] => []
 | t :: ts => t.flat ++ QS ts
end
mutual
def RT.ok : RT → Prop
 | .nd c ks => WC c = some ks.length ∧ oks ks
def oks : List RT → Prop
 | [] => True
 | t :: ts => t.ok ∧ oks ts
end
theorem ZaZ : ∀ {ts : List RT}, oks ts ↔ ∀ t ∈ ts, t.ok
 | [] => by simp [oks]
 | t :: ts => by simp [oks, ZaZ (ts := ts)]
theorem Yx : ∀ (ts us : List RT), QS (ts ++ us) = QS ts ++ QS us
 | [], us => by simp [QS]
 | t :: ts, us => by simp [QS, Yx ts us]
theorem ZdA : ∀ (ts : List RT), QS ts = ts.flatMap RT.flat
 | [] => by simp [QS]
 | t :: ts => by simp [QS, ZdA ts]
theorem parse : ∀ (l : List Int) (n : Nat) (r : List Int), Ty.skip n l = some r → ∃ ts : List RT, ts.length = n ∧ oks ts ∧ l = QS ts ++ r
 | l, 0, r, h => by simp [Ty.skip] at h; exact ⟨[], rfl, by simp [oks], by simp [QS, h]⟩
 | [], n + 1, r, h => by simp [Ty.skip] at h
 | c :: l, n + 1, r, h => by
  simp only [Ty.skip] at h
  cases hk : WC c with
  | none => simp [hk] at h
  | some k =>
   simp only [hk] at h
   obtain ⟨ts, h1, h2, h3⟩ := parse l (n + k) r h
   refine ⟨.nd c (ts.take k) :: ts.drop k, by simp; omega, ?_, ?_⟩
   ·rw [ZaZ] at h2
    simp only [oks, RT.ok, ZaZ, hk]
    refine ⟨⟨by simp; omega, fun t ht => h2 t (List.mem_of_mem_take ht)⟩, fun t ht => h2 t (List.mem_of_mem_drop ht)⟩
   ·rw [h3]
    simp only [QS, RT.flat, List.cons_append]
    rw [← Yx, List.take_append_drop]
mutual
theorem RT.skip_flat : ∀ (t : RT) (r : List Int), t.ok → Ty.skip 1 (t.flat ++ r) = some r
 | .nd c ks, r, h => by
  simp only [RT.ok] at h
  simp only [RT.flat, List.cons_append, Ty.skip, h.1]
  rw [Nat.zero_add]
  exact Zh9 ks r h.2
theorem Zh9 : ∀ (ts : List RT) (r : List Int), oks ts → Ty.skip ts.length (QS ts ++ r) = some r
 | [], r, _ => by simp [QS, Ty.skip]
 | t :: ts, r, h => by
  simp only [oks] at h
  simp only [QS, List.append_assoc, List.length_cons]
  rw [Nat.add_comm, ZhM, RT.skip_flat t _ h.1]
  exact Zh9 ts r h.2
end
theorem RT.flat_pos (t : RT) : 0 < t.flat.length := by cases t; simp [RT.flat]
theorem Zm7 {l : List Int} (h : wty l = true) : ∃ t : RT, t.ok ∧ l = t.flat ∧ l.length ≤ 40 := by
 simp [wty] at h
 obtain ⟨⟨h1, h2⟩, h3⟩ := h
 obtain ⟨ts, g1, g2, g3⟩ := parse l 1 [] h3
 match ts, g1 with
 | [t], _ =>
  simp only [oks] at g2
  exact ⟨t, g2.1, by simpa [QS] using g3, h2⟩
theorem Zm4 {t : RT} (h : t.ok) (hl : t.flat.length ≤ 40) : wty t.flat = true := by
 have := RT.skip_flat t [] h
 rw [List.append_nil] at this
 have := t.flat_pos
 simp [wty, *]; omega
theorem Zd7 {t : RT} (h : t.ok) (r : List Int) (len : Nat) : Ku 1 (t.flat ++ r) len = (len : Int) - r.length := by
 unfold Ku
 rw [RT.skip_flat t r h]
mutual
def RT.boxed : RT → List Int
 | .nd c ks => (if QJ c = true then [4, if c = 35 then 36 else c + 16] else [c]) ++ Wa ks
def Wa : List RT → List Int
 | [] => []
 | t :: ts => t.boxed ++ Wa ts
end
theorem YJ : ∀ (ts us : List RT), Wa (ts ++ us) = Wa ts ++ Wa us
 | [], us => by simp [Wa]
 | t :: ts, us => by simp [Wa, YJ ts us]
mutual
theorem RT.boxed_length : ∀ (t : RT), t.boxed.length ≤ 2 * t.flat.length
 | .nd c ks => by
  have := Zbe ks
  simp only [RT.boxed, RT.flat, List.length_append, List.length_cons]
  have : (if QJ c = true then [4, if c = 35 then 36 else c + 16] else [c]).length ≤ 2 := by split <;> simp
  omega
theorem Zbe : ∀ (ts : List RT), (Wa ts).length ≤ 2 * (QS ts).length
 | [] => by simp [Wa]
 | t :: ts => by
  have h1 := t.boxed_length
  have h2 := Zbe ts
  simp only [Wa, QS, List.length_append]; omega
end
end Go.Proofs.YtclfngbealdbgaaGreat.Ty
namespace Go.Proofs.YtclfngbealdbgaaGreat
open Go Go.TL
open Go.Proofs.YtclfngbealdbgaaGreat.Ty
set_option linter.unusedSimpArgs false
set_option linter.unusedVariables false
set_option maxRecDepth 20000
set_option maxHeartbeats 4000000
def okL (size : Int) (l : List Int) : Bool := wty l && Z4 size true l
def WG (l : List Int) : List Int := (Ty.skip 1 l.tail).getD []
def QQ (l : List Int) : List Int := l.tail.take (l.tail.length - (WG l).length)
def hd (l : List Int) : Int := l.headD 0
@[simp] theorem Zlg (c : Int) (l : List Int) : hd (c :: l) = c := rfl
theorem ZnZ {size : Int} {closed : Bool} {l : List Int} : Z4 size closed l = true ↔ ∀ c ∈ l, okC size closed c = true := by
 unfold Z4
 rw [Jt]
 constructor
 ·intro h c hc
  obtain ⟨i, hi, rfl⟩ := List.getElem_of_mem hc
  have := h i hi
  simpa [YA, hi] using this
 ·intro h i hi
  have := h l[i] (List.getElem_mem _)
  simpa [YA, hi] using this
theorem Xl {size : Int} {l : List Int} : okL size l = true ↔ ∃ t : RT, t.ok ∧ l = t.flat ∧ l.length ≤ 40 ∧ ∀ c ∈ l, okC size true c = true := by
 unfold okL
 rw [Bool.and_eq_true, ZnZ]
 constructor
 ·rintro ⟨h1, h2⟩
  obtain ⟨t, h3, h4, h5⟩ := Zm7 h1
  exact ⟨t, h3, h4, h5, h2⟩
 ·rintro ⟨t, h3, rfl, h5, h2⟩
  exact ⟨Zm4 h3 h5, h2⟩
theorem Zg2 {l : List Int} (h : wty l = true) : 1 ≤ l.length ∧ l.length ≤ 40 := by
 simp [wty] at h; omega
theorem K6 {size : Int} {l : List Int} (h : okL size l = true) : wty l = true := by
 unfold okL at h; rw [Bool.and_eq_true] at h; exact h.1
theorem QM {size : Int} {l : List Int} (h : okL size l = true) : 1 ≤ l.length ∧ l.length ≤ 40 := Zg2 (K6 h)
theorem ZaS {l : List Int} (h : wty l = true) : ∀ n ∈ l, 0 ≤ n ∧ n ≤ 36 := by
 intro n hn
 obtain ⟨i, hi, rfl⟩ := List.getElem_of_mem hn
 have := ZkO h i hi
 simpa [List.getD_eq_getElem?_getD, hi] using this
theorem ZpO {l : List Int} (h : wty l = true) : Lok l := ⟨by have := Zg2 h; omega, fun n hn => by have := ZaS h n hn; unfold I64; omega⟩
theorem Za4 {c : Int} {t : RT} {r : List Int} (h : t.ok) : WG (c :: (t.flat ++ r)) = r := by
 unfold WG
 rw [List.tail_cons, RT.skip_flat t r h]; rfl
theorem Za6 {c : Int} {t : RT} {r : List Int} (h : t.ok) : QQ (c :: (t.flat ++ r)) = t.flat := by
 unfold QQ
 rw [Za4 h, List.tail_cons]
 simp
theorem VR {size : Int} {l : List Int} (h : okL size l = true) (h2 : WC (hd l) = some 2) : l = hd l :: (QQ l ++ WG l) ∧ okL size (QQ l) = true ∧ okL size (WG l) = true := by
 obtain ⟨⟨c, ks⟩, h3, rfl, h5, h6⟩ := Xl.1 h
 simp only [RT.ok] at h3
 simp only [RT.flat] at h2 h5 h6 ⊢
 simp only [Zlg] at h2
 rw [h2] at h3
 obtain ⟨a, b, rfl⟩ : ∃ a b, ks = [a, b] := by
  match ks, h3.1 with
  | [a, b], _ => exact ⟨a, b, rfl⟩
  | [], h => simp at h
  | [_], h => simp at h
  | _ :: _ :: _ :: _, h => simp at h
 simp only [oks] at h3
 simp only [QS, List.append_nil] at h5 h6 ⊢
 rw [Za6 h3.2.1, Za4 h3.2.1]
 simp only [List.length_cons, List.length_append] at h5
 refine ⟨rfl, Xl.2 ⟨a, h3.2.1, rfl, by omega, fun c hc => h6 c (by simp [hc])⟩, Xl.2 ⟨b, h3.2.2.1, rfl, by omega, fun c hc => h6 c (by simp [hc])⟩⟩
theorem ZlM {size : Int} {l : List Int} (h : okL size l = true) (h2 : WC (hd l) = some 1) : l = hd l :: QQ l ∧ WG l = [] ∧ okL size (QQ l) = true := by
 obtain ⟨⟨c, ks⟩, h3, rfl, h5, h6⟩ := Xl.1 h
 simp only [RT.ok] at h3
 simp only [RT.flat] at h2 h5 h6 ⊢
 simp only [Zlg] at h2
 rw [h2] at h3
 obtain ⟨a, rfl⟩ : ∃ a, ks = [a] := by
  match ks, h3.1 with
  | [a], _ => exact ⟨a, rfl⟩
  | [], h => simp at h
  | _ :: _ :: _, h => simp at h
 simp only [oks] at h3
 simp only [QS] at h5 h6 ⊢
 rw [Za6 h3.2.1, Za4 h3.2.1]
 simp only [List.length_cons, List.length_append] at h5
 refine ⟨by simp, rfl, Xl.2 ⟨a, h3.2.1, rfl, by omega, fun c hc => h6 c (by simp [hc])⟩⟩
theorem okL_none {size : Int} {l : List Int} (h : okL size l = true) (h2 : WC (hd l) = some 0) : l = [hd l] := by
 obtain ⟨⟨c, ks⟩, h3, rfl, h5, h6⟩ := Xl.1 h
 simp only [RT.ok] at h3
 simp only [RT.flat] at h2 h5 h6 ⊢
 simp only [Zlg] at h2
 rw [h2] at h3
 obtain rfl : ks = [] := by
  match ks, h3.1 with
  | [], _ => rfl
  | _ :: _, h => simp at h
 simp [QS]
theorem Zg3 {size c : Int} {a b : List Int} (ha : okL size a = true) (hb : okL size b = true) (hc : WC c = some 2) (h2 : okC size true c = true) (hl : (c :: (a ++ b)).length ≤ 40) : okL size (c :: (a ++ b)) = true := by
 obtain ⟨t, h3, rfl, _, h4⟩ := Xl.1 ha
 obtain ⟨u, h5, rfl, _, h6⟩ := Xl.1 hb
 refine Xl.2 ⟨.nd c [t, u], ?_, by simp [RT.flat, QS], hl, fun x hx => ?_⟩
 ·simp only [RT.ok, oks]
  exact ⟨hc, h3, h5, trivial⟩
 ·rcases List.mem_cons.1 hx with rfl | hx
  ·exact h2
  ·rcases List.mem_append.1 hx with hx | hx
   ·exact h4 x hx
   ·exact h6 x hx
theorem okL_mk1 {size c : Int} {a : List Int} (ha : okL size a = true) (hc : WC c = some 1) (h2 : okC size true c = true) (hl : (c :: a).length ≤ 40) : okL size (c :: a) = true := by
 obtain ⟨t, h3, rfl, _, h4⟩ := Xl.1 ha
 refine Xl.2 ⟨.nd c [t], ?_, by simp [RT.flat, QS], hl, fun x hx => ?_⟩
 ·simp only [RT.ok, oks]
  exact ⟨hc, h3, trivial⟩
 ·rcases List.mem_cons.1 hx with rfl | hx
  ·exact h2
  ·exact h4 x hx
theorem ZpG (size : Int) : okL size [0] = true :=
 Xl.2 ⟨.nd 0 [], by simp [RT.ok, oks, WC], by simp [RT.flat, QS], by simp, fun c hc => by simp at hc; subst hc; simp [okC, QJ, W6]⟩
theorem X6 {size : Int} {l : List Int} (h : okL size l = true) : okC size true (hd l) = true ∧ 0 ≤ hd l ∧ hd l ≤ 36 ∧ l ≠ [] ∧ hd l ∈ l := by
 obtain ⟨⟨c, ks⟩, h3, rfl, h5, h6⟩ := Xl.1 h
 simp only [RT.ok] at h3
 have := Zf7 h3.1
 simp only [RT.flat] at h6 ⊢
 refine ⟨h6 c (by simp), by simpa using this.1, by simpa using this.2, by simp, by simp⟩
theorem J1 {size c : Int} (h : okC size true c = true) (h2 : QJ c = true ∨ W6 c = true) : 0 ≤ Wp c ∧ Wp c < size := by
 unfold okC at h
 have : (QJ c || W6 c) = true := by rcases h2 with h | h <;> simp [h]
 rw [this] at h
 simp [Qi, Qf] at h
 omega
inductive TT where
 | mk (ty needs : List Int) (kids : List TT)
def TT.ty : TT → List Int | .mk t _ _ => t
def TT.needs : TT → List Int | .mk _ n _ => n
def TT.kids : TT → List TT | .mk _ _ k => k
@[simp] theorem TT.ty_mk {a b : List Int} {c : List TT} : (TT.mk a b c).ty = a := rfl
@[simp] theorem TT.needs_mk {a b : List Int} {c : List TT} : (TT.mk a b c).needs = b := rfl
@[simp] theorem TT.kids_mk {a b : List Int} {c : List TT} : (TT.mk a b c).kids = c := rfl
inductive Res where
 | ok (x : TT)
 | bad (f : Int) (p : List Int)
def Qt (op : Int) (ty : List Int) (i : Nat) (first : List Int) : List (List Int) :=
 if op = 9 then [ty] else if Qq op i = 0 then [] else if op = 5 then [WG first, QQ first] else if op = 8 then [if i = 1 then QQ first else WG first] else [QQ first]
def Je (op : Int) (i : Nat) : Int × Int :=
 if op = 2 ∨ (op = 3 ∧ i = 0) then (0, 2) else if op = 5 ∧ i = 0 then (1, 4) else if op = 8 ∧ i = 0 then (2, 5) else if op = 10 ∧ i = 0 then (3, 6) else if op = 12 ∧ i = 0 then (4, 7) else (-1, 0)
def QP (s : GSys) (op n : Int) (i : Nat) (c : Int) : Int :=
 if 0 ≤ (Je op i).1 ∧ (Qz c).1 ≠ (Je op i).1 then (Je op i).2 else if i = 0 ∧ (op = 5 ∨ op = 8 ∨ op = 12) ∧ s.le 1 n = false then 8 else 0
def Jr (s : GSys) (a b : List Int) : List Int := List.zipWith s.pl a b
def Jc (s : GSys) (a b : List Int) : List Int := List.zipWith s.join a b
def WO (s : GSys) (g : Int) (a : List Int) : List Int := a.map (s.tm g)
def WY (s : GSys) (l : List Int) (g : Int) : Bool := l.all fun u => s.le u g
def WB (n : Nat) : List Int := List.replicate n 0
def Yg (ty nd : List Int) : Int × List Int × List Int := if ty.length ≤ 40 then (0, ty, nd) else (3, [], [])
def ndP (op : Int) (ds : List TT) (i : Nat) : List Int := (ds.getD i (.mk [] [] [])).needs.drop (Qq op i).toNat
def usP (op : Int) (ds : List TT) (i : Nat) : List Int := (ds.getD i (.mk [] [] [])).needs.take (Qq op i).toNat
def tyP (ds : List TT) (i : Nat) : List Int := (ds.getD i (.mk [] [] [])).ty
def Wv (s : GSys) (ctx : List (List Int)) (op n : Int) (ty : List Int) (ds : List TT) : Int × List Int × List Int :=
 if op = 0 then (0, ctx.getD n.toNat [], (WB ctx.length).set n.toNat 1)
 else if op = 1 then (0, [0], WB ctx.length)
 else if op = 2 then (0, [0], Jr s (ndP op ds 0) (ndP op ds 1))
 else if op = 3 then (if tyP ds 1 = tyP ds 2 then (0, tyP ds 1, Jr s (ndP op ds 0) (Jc s (ndP op ds 1) (ndP op ds 2))) else (3, [], []))
 else if op = 4 then Yg (1 :: (tyP ds 0 ++ tyP ds 1)) (Jr s (ndP op ds 0) (ndP op ds 1))
 else if op = 5 then (if WY s (usP op ds 1) n = true then (0, tyP ds 1, Jr s (WO s n (ndP op ds 0)) (ndP op ds 1)) else (9, [], []))
 else if op = 6 then Yg (2 :: (tyP ds 0 ++ ty)) (ndP op ds 0)
 else if op = 7 then Yg (2 :: (ty ++ tyP ds 0)) (ndP op ds 0)
 else if op = 8 then (if tyP ds 1 = tyP ds 2 then (if WY s (usP op ds 1) n = true ∧ WY s (usP op ds 2) n = true then (0, tyP ds 1, Jr s (WO s n (ndP op ds 0)) (Jc s (ndP op ds 1) (ndP op ds 2))) else (9, [], [])) else (3, [], []))
 else if op = 9 then (if WY s (usP op ds 0) n = true then Yg ((3 + n) :: (ty ++ tyP ds 0)) (ndP op ds 0) else (9, [], []))
 else if op = 10 then (0, WG (tyP ds 0), Jr s (ndP op ds 0) (WO s (Qz (hd (tyP ds 0))).2 (ndP op ds 1)))
 else if op = 11 then Yg ((19 + n) :: tyP ds 0) (WO s n (ndP op ds 0))
 else (if WY s (usP op ds 1) (s.tm n (Qz (hd (tyP ds 0))).2) = true then (0, tyP ds 1, Jr s (WO s n (ndP op ds 0)) (ndP op ds 1)) else (9, [], []))
inductive KRes where
 | ok (ds : List TT)
 | bad (f : Int) (p : List Int)
def first (ds : List TT) : List Int := tyP ds 0
mutual
def Qo (s : GSys) (ctx : List (List Int)) : GTerm → Res
 | .mk op n _ ty _ ks => match Wd s ctx op n ty [] ks with
  | .bad f p => .bad f p
  | .ok ds => if (Wv s ctx op n ty ds).1 = 0 then .ok (.mk (Wv s ctx op n ty ds).2.1 (Wv s ctx op n ty ds).2.2 ds) else .bad (Wv s ctx op n ty ds).1 []
def Wd (s : GSys) (ctx : List (List Int)) (op n : Int) (ty : List Int) (ds : List TT) : List GTerm → KRes
 | [] => .ok ds
 | k :: ks => match Qo s (Qt op ty ds.length (first ds) ++ ctx) k with
  | .bad f p => .bad f ((ds.length : Int) :: p)
  | .ok x => if QP s op n ds.length (hd x.ty) ≠ 0 then .bad (QP s op n ds.length (hd x.ty)) []
   else if op = 10 ∧ ds.length = 1 ∧ x.ty ≠ QQ (first ds) then .bad 3 [] else Wd s ctx op n ty (ds ++ [x]) ks
end
def TT.good (s : GSys) (n : Nat) (x : TT) : Prop := okL s.size x.ty = true ∧ x.needs.length = n ∧ ∀ u ∈ x.needs, s.G u
end Go.Proofs.YtclfngbealdbgaaGreat
namespace Go.Proofs.YtclfngbealdbgaaGreat
open Go Go.TL
open Go.Proofs.YtclfngbealdbgaaGreat.Ty
set_option linter.unusedSimpArgs false
set_option linter.unusedVariables false
set_option maxRecDepth 20000
set_option maxHeartbeats 4000000
theorem Znp : ∀ n : Fin 37, ((Qz ((n.val : Nat) : Int)).1 = 0 ↔ n.val = 0) ∧ ((Qz ((n.val : Nat) : Int)).1 = 1 ↔ n.val = 1) ∧ ((Qz ((n.val : Nat) : Int)).1 = 2 ↔ n.val = 2) ∧
  ((Qz ((n.val : Nat) : Int)).1 = 3 ↔ QJ ((n.val : Nat) : Int) = true) ∧ ((Qz ((n.val : Nat) : Int)).1 = 4 ↔ W6 ((n.val : Nat) : Int) = true) ∧
  ((QJ ((n.val : Nat) : Int) = true ∨ W6 ((n.val : Nat) : Int) = true) → (Qz ((n.val : Nat) : Int)).2 = Wp ((n.val : Nat) : Int)) := by decide
theorem ZB {c : Int} (h0 : 0 ≤ c) (h1 : c ≤ 36) : ((Qz c).1 = 0 ↔ c = 0) ∧ ((Qz c).1 = 1 ↔ c = 1) ∧ ((Qz c).1 = 2 ↔ c = 2) ∧ ((Qz c).1 = 3 ↔ QJ c = true) ∧ ((Qz c).1 = 4 ↔ W6 c = true) ∧ ((QJ c = true ∨ W6 c = true) → (Qz c).2 = Wp c) := by
 have := Znp ⟨c.toNat, by omega⟩
 simp only [show ((c.toNat : Nat) : Int) = c by omega] at this
 obtain ⟨a, b, c', d, e, f⟩ := this
 exact ⟨a.trans (by omega), b.trans (by omega), c'.trans (by omega), d, e, f⟩
theorem XB : WC 1 = some 2 ∧ WC 2 = some 2 := by decide
theorem Zau {c : Int} (h : QJ c = true) : WC c = some 2 := by
 unfold WC
 rw [XL] at h
 rw [if_neg (by omega), if_pos]
 right; right; rw [XL]; exact h
theorem ZcK {c : Int} (h : W6 c = true) : WC c = some 1 := by
 have h' := h
 rw [Zb3] at h
 unfold WC
 rw [if_neg (by omega), if_neg (by rw [XL]; omega), if_pos h']
def ZdM (op : Int) (c : Int) : Prop := (op = 2 ∨ op = 3 → c = 0) ∧ (op = 5 → c = 1) ∧ (op = 8 → c = 2) ∧ (op = 10 → QJ c = true) ∧ (op = 12 → W6 c = true)
theorem ZlO {s : GSys} {op n c : Int} (h0 : 0 ≤ c) (h1 : c ≤ 36) (h : QP s op n 0 c = 0) : ZdM op c ∧ (op = 5 ∨ op = 8 ∨ op = 12 → s.le 1 n = true) := by
 obtain ⟨a, b, c', d, e, _⟩ := ZB h0 h1
 unfold QP at h
 have hw : ¬ (0 ≤ (Je op 0).1 ∧ (Qz c).1 ≠ (Je op 0).1) := by
  intro hh
  rw [if_pos hh] at h
  unfold Je at hh h
  repeat' split at h
  all_goals simp_all
 rw [if_neg hw] at h
 have hl : ¬ (op = 5 ∨ op = 8 ∨ op = 12) ∨ s.le 1 n = true := by
  by_cases g : s.le 1 n = true
  ·exact .inr g
  ·left
   intro g2
   rw [if_pos ⟨rfl, g2, by simpa using g⟩] at h
   omega
 refine ⟨?_, fun g => hl.resolve_left (fun k => k g)⟩
 unfold Je at hw
 refine ⟨fun g => ?_, fun g => ?_, fun g => ?_, fun g => ?_, fun g => ?_⟩
 ·have : (Qz c).1 = 0 := by rcases g with rfl | rfl <;> simpa using hw
  exact a.1 this
 ·subst g; simp at hw; exact b.1 hw
 ·subst g; simp at hw; exact c'.1 hw
 ·subst g; simp at hw; exact d.1 hw
 ·subst g; simp at hw; exact e.1 hw
theorem Xy (op k : Int) : 0 ≤ Qq op k ∧ Qq op k ≤ 2 := by
 unfold Qq; split
 ·omega
 ·split <;> omega
theorem Ka (op : Int) (ty : List Int) (i : Nat) (f : List Int) : (Qt op ty i f).length = (Qq op i).toNat := by
 unfold Qt Qq
 by_cases h9 : op = 9
 ·subst h9; simp
 ·rw [if_neg h9]
  by_cases h5 : op = 5 ∧ (i : Int) = 1
  ·rw [if_pos h5, if_pos h5.1]; simp
  ·rw [if_neg h5]
   by_cases h8 : (op = 8 ∧ 0 < (i : Int)) ∨ op = 9 ∨ (op = 12 ∧ (i : Int) = 1)
   ·rw [if_pos h8]
    have : op ≠ 5 := by omega
    rw [if_neg (by omega), if_neg this]
    split <;> simp
   ·rw [if_neg h8]; simp
theorem Zhz {size : Int} {op : Int} {ty : List Int} {i : Nat} {f : List Int} (hty : op = 9 → okL size ty = true) (hf : i ≠ 0 → okL size f = true ∧ ZdM op (hd f)) : ∀ l ∈ Qt op ty i f, okL size l = true := by
 unfold Qt
 by_cases h9 : op = 9
 ·rw [if_pos h9]; intro l hl; simp at hl; subst hl; exact hty h9
 ·rw [if_neg h9]
  split
  ·simp
  ·rename_i ha
   have hi : i ≠ 0 := by rintro rfl; apply ha; unfold Qq; rw [if_neg (by omega), if_neg (by omega)]
   obtain ⟨hf1, hf2⟩ := hf hi
   obtain ⟨q2, q5, q8, q10, q12⟩ := hf2
   split
   ·rename_i h5
    have := VR hf1 (by rw [q5 h5]; exact XB.1)
    intro l hl; simp at hl
    rcases hl with rfl | rfl
    ·exact this.2.2
    ·exact this.2.1
   ·split
    ·rename_i h8
     have := VR hf1 (by rw [q8 h8]; exact XB.2)
     intro l hl; simp at hl; subst hl
     split
     ·exact this.2.1
     ·exact this.2.2
    ·have h12 : op = 12 := by
      unfold Qq at ha
      rename_i h5 h8
      rw [if_neg (by omega)] at ha
      by_cases g : (op = 8 ∧ 0 < (i : Int)) ∨ op = 9 ∨ (op = 12 ∧ (i : Int) = 1)
      ·omega
      ·rw [if_neg g] at ha; simp at ha
     have := ZlM hf1 (ZcK (q12 h12))
     intro l hl; simp at hl; subst hl; exact this.2.2
structure KidsOk (s : GSys) (c : Nat) (op n : Int) (ds : List TT) : Prop where
 each : ∀ (i : Nat) (x : TT), ds[i]? = some x → x.good s (c + (Qq op i).toNat) ∧ QP s op n i (hd x.ty) = 0
 app : op = 10 → ∀ x, ds[1]? = some x → x.ty = QQ (first ds)
theorem KidsOk.first {s : GSys} {c : Nat} {op n : Int} {ds : List TT} (k : KidsOk s c op n ds) (h : ds ≠ []) : okL s.size (first ds) = true ∧ ZdM op (hd (first ds)) ∧ (op = 5 ∨ op = 8 ∨ op = 12 → s.le 1 n = true) := by
 obtain ⟨x, ds, rfl⟩ : ∃ x l, ds = x :: l := by
  cases ds with
  | nil => exact absurd rfl h
  | cons x l => exact ⟨x, l, rfl⟩
 obtain ⟨⟨h1, _, _⟩, h2⟩ := k.each 0 x rfl
 have := X6 h1
 simp only [Go.Proofs.YtclfngbealdbgaaGreat.first, List.getD_eq_getElem?_getD, List.getElem?_cons_zero, Option.getD_some]
 exact ⟨h1, ZlO this.2.1 this.2.2.1 h2⟩
theorem KidsOk.snoc {s : GSys} {c : Nat} {op n : Int} {ds : List TT} {x : TT} (k : KidsOk s c op n ds) (h1 : x.good s (c + (Qq op ds.length).toNat)) (h2 : QP s op n ds.length (hd x.ty) = 0) (h3 : ¬ (op = 10 ∧ ds.length = 1 ∧ x.ty ≠ QQ (Go.Proofs.YtclfngbealdbgaaGreat.first ds))) : KidsOk s c op n (ds ++ [x]) := by
 refine ⟨fun i y hy => ?_, fun h10 y hy => ?_⟩
 ·rcases Nat.lt_trichotomy i ds.length with g | g | g
  ·rw [List.getElem?_append_left g] at hy; exact k.each i y hy
  ·subst g
   rw [List.getElem?_append_right (Nat.le_refl _)] at hy
   simp at hy; subst hy; exact ⟨h1, h2⟩
  ·rw [List.getElem?_append_right (by omega), List.getElem?_eq_none (by simp; omega)] at hy; simp at hy
 ·have hf : ds ≠ [] → Go.Proofs.YtclfngbealdbgaaGreat.first (ds ++ [x]) = Go.Proofs.YtclfngbealdbgaaGreat.first ds := by
   intro g
   cases ds with
   | nil => exact absurd rfl g
   | cons a l => simp [Go.Proofs.YtclfngbealdbgaaGreat.first, tyP]
  rcases Nat.lt_trichotomy 1 ds.length with g | g | g
  ·rw [List.getElem?_append_left g] at hy
   rw [hf (by rintro rfl; simp at g)]
   exact k.app h10 y hy
  ·rw [List.getElem?_append_right (by omega), ← g] at hy
   simp at hy; subst hy
   rw [hf (by rintro rfl; simp at g)]
   by_cases e : x.ty = QQ (Go.Proofs.YtclfngbealdbgaaGreat.first ds)
   ·exact e
   ·exact absurd ⟨h10, g.symm, e⟩ h3
  ·rw [List.getElem?_append_right (by omega), List.getElem?_eq_none (by simp; omega)] at hy; simp at hy
theorem ZdV {s : GSys} (t : s.Tab) {a b : List Int} {n : Nat} (ha : a.length = n) (hb : b.length = n) : (Jr s a b).length = n ∧ ∀ u ∈ Jr s a b, s.G u := by
 refine ⟨by simp [Jr, ha, hb], fun u hu => ?_⟩
 unfold Jr at hu
 rw [List.zipWith_eq_zipWith_take_min] at hu
 simp only [List.mem_iff_getElem, List.getElem_zipWith] at hu
 obtain ⟨i, hi, rfl⟩ := hu
 exact GSys.Gpl t _ _
theorem X8 {s : GSys} (t : s.Tab) {g : Int} {a : List Int} {n : Nat} (ha : a.length = n) : (WO s g a).length = n ∧ ∀ u ∈ WO s g a, s.G u := by
 refine ⟨by simp [WO, ha], fun u hu => ?_⟩
 simp only [WO, List.mem_map] at hu
 obtain ⟨x, _, rfl⟩ := hu
 exact GSys.Gtm t _ _
theorem Zaj {s : GSys} (t : s.Tab) (n : Nat) : (WB n).length = n ∧ ∀ u ∈ WB n, s.G u := by
 refine ⟨by simp [WB], fun u hu => ?_⟩
 simp [WB] at hu
 rw [hu.2]; exact GSys.G0 t
theorem one_ok {s : GSys} (t : s.Tab) (n i : Nat) : ((WB n).set i 1).length = n ∧ ∀ u ∈ (WB n).set i 1, s.G u := by
 refine ⟨by simp [WB], fun u hu => ?_⟩
 rcases List.mem_or_eq_of_mem_set hu with hu | rfl
 ·exact (Zaj t n).2 u hu
 ·exact GSys.G1 t
theorem ZcU {s : GSys} {c : Nat} {op : Int} {i : Nat} {x : TT} (h : x.good s (c + (Qq op i).toNat)) : (x.needs.drop (Qq op i).toNat).length = c ∧ ∀ u ∈ x.needs.drop (Qq op i).toNat, s.G u :=
 ⟨by rw [List.length_drop, h.2.1]; omega, fun u hu => h.2.2 u (List.mem_of_mem_drop hu)⟩
theorem Zmd {size : Int} : okC size true 1 = true ∧ okC size true 2 = true := by
 unfold okC
 exact ⟨by simp [QJ, W6], by simp [QJ, W6]⟩
theorem Zoi {size n : Int} (h0 : 0 ≤ n) (h1 : n < size) (h2 : size ≤ 16) : QJ (3 + n) = true ∧ Wp (3 + n) = n ∧ okC size true (3 + n) = true ∧ WC (3 + n) = some 2 := by
 have ha : QJ (3 + n) = true := by rw [XL]; omega
 have hg : Wp (3 + n) = n := by unfold Wp; rw [if_neg (by omega), if_neg (by omega)]; omega
 refine ⟨ha, hg, ?_, Zau ha⟩
 unfold okC
 rw [hg]; simp [Qi, Qf, h0, h1]
theorem ZnQ {size n : Int} (h0 : 0 ≤ n) (h1 : n < size) (h2 : size ≤ 16) : W6 (19 + n) = true ∧ Wp (19 + n) = n ∧ okC size true (19 + n) = true ∧ WC (19 + n) = some 1 := by
 have ha : W6 (19 + n) = true := by rw [Zb3]; omega
 have hg : Wp (19 + n) = n := by unfold Wp; rw [if_neg (by omega), if_pos (by omega)]; omega
 refine ⟨ha, hg, ?_, ZcK ha⟩
 unfold okC
 rw [hg]; simp [Qi, Qf, h0, h1]
structure NodeOk (s : GSys) (c : Nat) (op n : Int) (ty : List Int) (len : Nat) : Prop where
 many : (len : Int) = Yh op
 var : op = 0 → 0 ≤ n ∧ n < c
 grade : Jo op = true → s.G n
 typed : WD op = true → okL s.size ty = true
 op13 : 0 ≤ op ∧ op ≤ 12
theorem ZcV {s : GSys} {c : Nat} {op n : Int} {ty : List Int} {len : Nat} (h : VO c s.size true op n ty len = true) : NodeOk s c op n ty len := by
 unfold VO at h
 simp only [Bool.and_eq_true] at h
 obtain ⟨h1, h2, h3⟩ := h
 have hop : op = 0 ∨ op = 1 ∨ op = 2 ∨ op = 3 ∨ op = 4 ∨ op = 5 ∨ op = 6 ∨ op = 7 ∨ op = 8 ∨ op = 9 ∨ op = 10 ∨ op = 11 ∨ op = 12 := ops13 (Zoc h1)
 rw [Qc] at h1
 refine ⟨h1, fun h0 => ?_, fun hh => ?_, fun ht => ?_, by omega⟩
 ·subst h0
  simp [Zfb, Q7] at h2
  omega
 ·have h01 : op ≠ 0 ∧ op ≠ 1 := by
   constructor <;> (rintro rfl; simp [Jo, Qc] at hh)
  unfold Zfb at h2
  rw [if_neg (by simp [Qb, h01.1]), if_neg (by simp [Qb, h01.2]), if_pos hh] at h2
  simp [Qi, Qf] at h2
  exact ⟨by omega, by omega⟩
 ·unfold tyB at h3
  rw [if_pos ht] at h3
  exact h3
theorem ZcO {s : GSys} {a b : List Int} {n : Nat} (ha : a.length = n) (hb : b.length = n) : (Jc s a b).length = n := by simp [Jc, ha, hb]
theorem Zez {ty nd : List Int} (h : (Yg ty nd).1 = 0) : ty.length ≤ 40 ∧ (Yg ty nd).2.1 = ty ∧ (Yg ty nd).2.2 = nd := by
 unfold Yg at h ⊢
 split at h
 ·rename_i g; rw [if_pos g]; exact ⟨g, rfl, rfl⟩
 ·simp at h
theorem Zqq {s : GSys} (t : s.Tab) {ctx : List (List Int)} (hc : ∀ l ∈ ctx, okL s.size l = true) {op n : Int} {ty : List Int} {ds : List TT} (nd : NodeOk s ctx.length op n ty ds.length) (k : KidsOk s ctx.length op n ds)
  (h : (Wv s ctx op n ty ds).1 = 0) : TT.good s ctx.length (.mk (Wv s ctx op n ty ds).2.1 (Wv s ctx op n ty ds).2.2 ds) := by
 have h16 := t.hi
 obtain ⟨many, hvar, hgr, hty, o1, o2⟩ := nd
 have get : ∀ i, i < ds.length → ∃ x, ds[i]? = some x ∧ x.good s (ctx.length + (Qq op i).toNat) := fun i hi =>
  ⟨_, List.getElem?_eq_getElem hi, (k.each i _ (List.getElem?_eq_getElem hi)).1⟩
 have tyG : ∀ i, i < ds.length → okL s.size (tyP ds i) = true := fun i hi => by
  obtain ⟨x, h1, h2⟩ := get i hi
  unfold tyP; rw [List.getD_eq_getElem?_getD, h1]; exact h2.1
 have ndL : ∀ i, i < ds.length → (ndP op ds i).length = ctx.length := fun i hi => by
  obtain ⟨x, h1, h2⟩ := get i hi
  unfold ndP; rw [List.getD_eq_getElem?_getD, h1]; exact (ZcU h2).1
 have ndG : ∀ i, i < ds.length → ∀ u ∈ ndP op ds i, s.G u := fun i hi => by
  obtain ⟨x, h1, h2⟩ := get i hi
  unfold ndP; rw [List.getD_eq_getElem?_getD, h1]; exact (ZcU h2).2
 have fst : 0 < ds.length → ZdM op (hd (tyP ds 0)) := fun hi => (k.first (by rintro rfl; simp at hi)).2.1
 have hops : op = 0 ∨ op = 1 ∨ op = 2 ∨ op = 3 ∨ op = 4 ∨ op = 5 ∨ op = 6 ∨ op = 7 ∨ op = 8 ∨ op = 9 ∨ op = 10 ∨ op = 11 ∨ op = 12 := by omega
 rcases hops with e | e | e | e | e | e | e | e | e | e | e | e | e
 all_goals subst e
 all_goals simp [Yh] at many
 all_goals simp [Wv] at h ⊢
 ·obtain ⟨v0, v1⟩ := hvar rfl
  refine ⟨?_, one_ok t _ _⟩
  simp only [TT.ty_mk]
  rw [List.getElem?_eq_getElem (by omega)]
  exact hc _ (List.getElem_mem _)
 ·exact ⟨ZpG _, Zaj t _⟩
 ·exact ⟨ZpG _, ZdV t (ndL 0 (by omega)) (ndL 1 (by omega))⟩
 ·split at h
  ·rename_i e
   rw [if_pos e]
   exact ⟨tyG 1 (by omega), ZdV t (ndL 0 (by omega)) (ZcO (ndL 1 (by omega)) (ndL 2 (by omega)))⟩
  ·simp at h
 ·obtain ⟨g1, g2, g3⟩ := Zez h
  rw [g2, g3]
  exact ⟨Zg3 (tyG 0 (by omega)) (tyG 1 (by omega)) XB.1 Zmd.1 g1, ZdV t (ndL 0 (by omega)) (ndL 1 (by omega))⟩
 ·split at h
  ·rename_i e
   rw [if_pos e]
   exact ⟨tyG 1 (by omega), ZdV t (X8 t (ndL 0 (by omega))).1 (ndL 1 (by omega))⟩
  ·simp at h
 ·obtain ⟨g1, g2, g3⟩ := Zez h
  rw [g2, g3]
  exact ⟨Zg3 (tyG 0 (by omega)) (hty (by simp [WD, Qc])) XB.2 Zmd.2 g1, ndL 0 (by omega), ndG 0 (by omega)⟩
 ·obtain ⟨g1, g2, g3⟩ := Zez h
  rw [g2, g3]
  exact ⟨Zg3 (hty (by simp [WD, Qc])) (tyG 0 (by omega)) XB.2 Zmd.2 g1, ndL 0 (by omega), ndG 0 (by omega)⟩
 ·split at h
  ·rename_i e
   split at h
   ·rename_i e2
    rw [if_pos e, if_pos e2]
    exact ⟨tyG 1 (by omega), ZdV t (X8 t (ndL 0 (by omega))).1 (ZcO (ndL 1 (by omega)) (ndL 2 (by omega)))⟩
   ·simp at h
  ·simp at h
 ·have hg := hgr (by simp [Jo, Qc])
  obtain ⟨_, _, c1, c2⟩ := Zoi hg.1 hg.2 h16
  split at h
  ·rename_i e
   obtain ⟨g1, g2, g3⟩ := Zez h
   rw [if_pos e, g2, g3]
   exact ⟨Zg3 (hty (by simp [WD, Qc])) (tyG 0 (by omega)) c2 c1 g1, ndL 0 (by omega), ndG 0 (by omega)⟩
  ·simp at h
 ·exact ⟨(VR (tyG 0 (by omega)) (Zau ((fst (by omega)).2.2.2.1 rfl))).2.2, ZdV t (ndL 0 (by omega)) (X8 t (ndL 1 (by omega))).1⟩
 ·have hg := hgr (by simp [Jo, Qc])
  obtain ⟨_, _, c1, c2⟩ := ZnQ hg.1 hg.2 h16
  obtain ⟨g1, g2, g3⟩ := Zez h
  rw [g2, g3]
  exact ⟨okL_mk1 (tyG 0 (by omega)) c2 c1 g1, X8 t (ndL 0 (by omega))⟩
 ·split at h
  ·rename_i e
   rw [if_pos e]
   exact ⟨tyG 1 (by omega), ZdV t (X8 t (ndL 0 (by omega))).1 (ndL 1 (by omega))⟩
  ·simp at h
theorem ext_ok {s : GSys} {ctx : List (List Int)} (hc : ∀ l ∈ ctx, okL s.size l = true) {op n : Int} {ty : List Int} {ds : List TT} (hty : op = 9 → okL s.size ty = true) (k : KidsOk s ctx.length op n ds) :
  ∀ l ∈ Qt op ty ds.length (first ds) ++ ctx, okL s.size l = true := by
 intro l hl
 rcases List.mem_append.1 hl with hl | hl
 ·exact Zhz hty (fun hi => by
   have := k.first (by rintro rfl; simp at hi)
   exact ⟨this.1, this.2.1⟩) l hl
 ·exact hc l hl
mutual
theorem ZaY {s : GSys} (t : s.Tab) : ∀ (g : GTerm) (ctx : List (List Int)) (x : TT), (∀ l ∈ ctx, okL s.size l = true) → W1 ctx.length s.size true g = true → Qo s ctx g = .ok x → x.good s ctx.length
 | .mk op n nl1 ty nl2 ks, ctx, x, hc, hf, he => by
  simp only [W1, Bool.and_eq_true] at hf
  have nd := ZcV hf.1
  rw [Qo] at he
  split at he
  ·simp at he
  ·rename_i ds hd
   split at he
   ·rename_i h0
    simp only [Res.ok.injEq] at he
    subst he
    obtain ⟨k, hl⟩ := Zd2 t ks ctx op n ty [] ds hc (fun h9 => nd.typed (by subst h9; simp [WD, Qc])) (by simpa using hf.2) ⟨fun i x h => by simp at h, fun _ x h => by simp at h⟩ hd
    exact Zqq t hc (by rw [show ds.length = ks.length by simpa using hl]; exact nd) k h0
   ·simp at he
theorem Zd2 {s : GSys} (t : s.Tab) : ∀ (ks : List GTerm) (ctx : List (List Int)) (op n : Int) (ty : List Int) (ds ds' : List TT), (∀ l ∈ ctx, okL s.size l = true) → (op = 9 → okL s.size ty = true) →
  Xq ctx.length s.size true op ds.length ks = true → KidsOk s ctx.length op n ds → Wd s ctx op n ty ds ks = .ok ds' → KidsOk s ctx.length op n ds' ∧ ds'.length = ds.length + ks.length
 | [], ctx, op, n, ty, ds, ds', hc, hty, hf, k, he => by
  simp only [Wd, KRes.ok.injEq] at he
  subst he; exact ⟨k, rfl⟩
 | g :: ks, ctx, op, n, ty, ds, ds', hc, hty, hf, k, he => by
  simp only [Xq, Bool.and_eq_true] at hf
  rw [Wd] at he
  split at he
  ·simp at he
  ·rename_i x hx
   split at he
   ·simp at he
   ·rename_i h1
    split at he
    ·simp at he
    ·rename_i h2
     have hlen : (Qt op ty ds.length (first ds) ++ ctx).length = ctx.length + (Qq op ds.length).toNat := by
      rw [List.length_append, Ka]; omega
     have := Xy op ds.length
     have hg := ZaY t g _ x (ext_ok hc hty k) (by rw [hlen, show ((ctx.length + (Qq op ds.length).toNat : Nat) : Int) = ctx.length + Qq op ds.length by omega]; exact hf.1) hx
     rw [hlen] at hg
     have k2 := k.snoc hg (by simpa using h1) h2
     have := Zd2 t ks ctx op n ty (ds ++ [x]) ds' hc hty (by rw [List.length_append]; exact hf.2) k2 he
     exact ⟨this.1, by rw [this.2]; simp; omega⟩
end
end Go.Proofs.YtclfngbealdbgaaGreat
namespace Go.Proofs.YtclfngbealdbgaaGreat
open Go Go.TL
open Go.Proofs.YtclfngbealdbgaaGreat.Ty
set_option linter.unusedSimpArgs false
set_option linter.unusedVariables false
set_option maxRecDepth 20000
set_option maxHeartbeats 4000000
def FnN (P : Program) (f : LV) (a b n : Int) : Prop := ∃ fid vals, Zo f [N a, N b] = some (fid, vals) ∧ QD 0 vals ∧ Qe P fid vals (· = N n)
theorem onFn_N {P : Program} {f : LV} {a b n : Int} {d : Nat} {K : St → Prop} {s : St} (h : FnN P f a b n) (hk : K { t := upd s.t d (N n), h := s.h }) : onFn P .no f [N a, N b] (some d) K s := by
 obtain ⟨fid, vals, h1, h2, h3⟩ := h
 exact ⟨fid, vals, h1, Qa (rw := .no) h3 h2 hk⟩
theorem ZpK {z : List LV} {h0 : List Box} {l : List Int} (e : z = l.map N) : Qu (h0 ++ [some z]) (.ha h0.length 1 0 l.length l.length) = some (OU true false l, h0 ++ [none]) := by
 subst e
 rw [frz_ha (xs := l.map N) (by simp) (by simp)]
 simp [ZiB]
theorem frz_1 (l : List Int) : Qu [none, some (l.map N)] (.ha 1 1 0 l.length l.length) = some (OU true false l, [none, none]) := ZpK (h0 := [none]) rfl
theorem fill_N {l : List Int} : fill (fun x => [N x]) [N 0] l l.length = l.map N := by
 rw [Zcy]; induction l with
 | nil => rfl
 | cons x l ih => simpa using ih
theorem Zpu (s : GSys) (f : LV) (g : Int → Int → Int) (sf : share f = f) (lf : Low 0 f) (n1 n2 : Bool) (a b : List Int) (hl : a.length ≤ 1099511627776) (hab : a.length = b.length)
  (hp : ∀ (i : Nat) (h : i < a.length), FnN Tryz.prog f a[i] (b[i]'(by omega)) (g a[i] (b[i]'(by omega)))) : Qe Tryz.prog Yt [s.lv, f, L n1 a, L n2 b] (· = OU true false (List.zipWith g a b)) := by
 obtain ⟨z, hze⟩ : ∃ z, z = List.zipWith g a b := ⟨_, rfl⟩
 have hz : z.length = a.length := by rw [hze]; simp [hab]
 have hget : ∀ (i : Nat) (h : i < a.length), z[i]'(by omega) = g a[i] (b[i]'(by omega)) := by intro i h; simp [hze]
 rw [← hze]
 clear hze
 refine Qe.of_codeOf ZcX Qy (by simp) ⟨_, rfl, by simp⟩ ?_
 have hm : (a.length : Int) ≤ (WQ : Nat) := by unfold WQ; omega
 have he : ∀ x : Int, ([N x] : List LV).length = 1 := by simp
 simp (disch := omega) [K0, hm, sf, Qw, Qu]
 refine Q9 a.length 0 (fun i t h => t 16 = N i ∧ h = [none, some (fill (fun x => [N x]) [N 0] z i)]) (by simp [Vf, hz]) (by omega) ?_
 rintro i t1 hh hf hi ⟨e16, rfl⟩
 (have e1 := hf 1 (by kernel_rfl); have e2 := hf 2 (by kernel_rfl); have e3 := hf 3 (by kernel_rfl); have e9 := hf 9 (by kernel_rfl); have e15 := hf 15 (by kernel_rfl); clear hf; simp [sf] at e1 e2 e3 e9 e15)
 simp (disch := omega) [e1, e2, e3, e9, e15, e16]
 (with_reducible first | refine Ql (fun h6 => ?_) (fun h6 => ?_) | refine Qk (fun h6 => ?_) (fun h6 => ?_))
 ·simp only [Qf, Qd, Qi, Qg, Qc, Qb, Bool.not_true, Bool.not_false] at h6
  have hlen := Zac (z := [N 0]) (l := z) he rfl (i := i) (by omega)
  have hst := Vg (z := [N 0]) (l := z) he rfl (i := i) (by omega)
  have hpi := hp i (by omega)
  rw [hget i (by omega)] at hst
  simp (disch := omega) [e1, e2, e3, e9, e15, e16, Xj, sf]
  refine onFn_N hpi ?_
  simp (disch := omega) [e1, e2, e3, e9, e15, e16, Y6, Qh, hlen]
  exact ⟨by omega, by omega, by simpa [splice] using hst⟩
 ·simp only [Qf, Qd, Qi, Qg, Qc, Qb, Bool.not_true, Bool.not_false] at h6
  rw [show i = z.length by omega, fill_N]
  simp (disch := omega) [e9]
  rw [show a.length = z.length by omega, frz_1]
  simp
theorem plus_fn {s : GSys} (t : s.Tab) {a b : Int} (ha : s.G a) (hb : s.G b) : FnN Tryz.prog (.fnm QC [s.lv]) a b (s.pl a b) :=
 ⟨QC, [s.lv, N a, N b], by simp [Zo], by simp, Zfc t ha hb⟩
theorem join_fn {s : GSys} (t : s.Tab) {a b : Int} (ha : s.G a) (hb : s.G b) : FnN Tryz.prog (.fnm WR [s.lv]) a b (s.join a b) :=
 ⟨WR, [s.lv, N a, N b], by simp [Zo], by simp, ZpE t ha hb⟩
theorem sumF_ok {s : GSys} (t : s.Tab) (n1 n2 : Bool) (a b : List Int) (hl : a.length ≤ 1099511627776) (hab : a.length = b.length) (ha : ∀ u ∈ a, s.G u) (hb : ∀ u ∈ b, s.G u) :
  Qe Tryz.prog WF [s.lv, L n1 a, L n2 b] (· = OU true false (Jr s a b)) := by
 refine Qe.of_codeOf Zd0 Qy (by simp) ⟨_, rfl, by simp⟩ ?_
 have h := Zpu s (.fnm QC [s.lv]) s.pl (by simp) (by simp) n1 n2 a b hl hab (fun i hi => plus_fn t (ha _ (List.getElem_mem _)) (hb _ (List.getElem_mem _)))
 simp (disch := omega) [VG, Qw, Qu]
 refine Qa (r := OU true false (Jr s a b)) h (by simp) ?_
 simp (disch := omega)
theorem Znj {s : GSys} (t : s.Tab) (n1 n2 : Bool) (a b : List Int) (hl : a.length ≤ 1099511627776) (hab : a.length = b.length) (ha : ∀ u ∈ a, s.G u) (hb : ∀ u ∈ b, s.G u) :
  Qe Tryz.prog Yu [s.lv, L n1 a, L n2 b] (· = OU true false (Jc s a b)) := by
 refine Qe.of_codeOf ZcY Qy (by simp) ⟨_, rfl, by simp⟩ ?_
 have h := Zpu s (.fnm WR [s.lv]) s.join (by simp) (by simp) n1 n2 a b hl hab (fun i hi => join_fn t (ha _ (List.getElem_mem _)) (hb _ (List.getElem_mem _)))
 simp (disch := omega) [K2, Qw, Qu]
 refine Qa (r := OU true false (Jc s a b)) h (by simp) ?_
 simp (disch := omega)
theorem Vp {s : GSys} (t : s.Tab) (g : Int) (hg : s.G g) (n1 : Bool) (a : List Int) (hl : a.length ≤ 1099511627776) (ha : ∀ u ∈ a, s.G u) :
  Qe Tryz.prog WL [s.lv, N g, L n1 a] (· = OU true false (WO s g a)) := by
 obtain ⟨z, hze⟩ : ∃ z, z = WO s g a := ⟨_, rfl⟩
 have hz : z.length = a.length := by rw [hze]; simp [WO]
 have hget : ∀ (i : Nat) (h : i < a.length), z[i]'(by omega) = s.tm g a[i] := by intro i h; simp [hze, WO]
 rw [← hze]
 clear hze
 refine Qe.of_codeOf ZbI Qy (by simp) ⟨_, rfl, by simp⟩ ?_
 have hm : (a.length : Int) ≤ (WQ : Nat) := by unfold WQ; omega
 have he : ∀ x : Int, ([N x] : List LV).length = 1 := by simp
 simp (disch := omega) [JQ, hm, Qw, Qu]
 refine Q9 a.length 0 (fun i t h => t 15 = N i ∧ h = [none, some (fill (fun x => [N x]) [N 0] z i)]) (by simp [Vf, hz]) (by omega) ?_
 rintro i t1 hh hf hi ⟨e15, rfl⟩
 (have e1 := hf 1 (by kernel_rfl); have e3 := hf 3 (by kernel_rfl); have e7 := hf 7 (by kernel_rfl); have e13 := hf 13 (by kernel_rfl); have e14 := hf 14 (by kernel_rfl); clear hf; simp [] at e1 e3 e7 e13 e14)
 simp (disch := omega) [e1, e3, e7, e13, e14, e15]
 (with_reducible first | refine Ql (fun h6 => ?_) (fun h6 => ?_) | refine Qk (fun h6 => ?_) (fun h6 => ?_))
 ·simp only [Qf, Qd, Qi, Qg, Qc, Qb, Bool.not_true, Bool.not_false] at h6
  have hlen := Zac (z := [N 0]) (l := z) he rfl (i := i) (by omega)
  have hst := Vg (z := [N 0]) (l := z) he rfl (i := i) (by omega)
  rw [hget i (by omega)] at hst
  simp (disch := omega) [e1, e3, e7, e13, e14, e15, Xj]
  refine Qa (ZeZ t hg (ha _ (List.getElem_mem (show i < a.length by omega)))) (by simp) ?_
  simp (disch := omega) [e1, e3, e7, e13, e14, e15, Y6, Qh, hlen]
  exact ⟨by omega, by omega, by simpa [splice] using hst⟩
 ·simp only [Qf, Qd, Qi, Qg, Qc, Qb, Bool.not_true, Bool.not_false] at h6
  rw [show i = z.length by omega, fill_N]
  simp (disch := omega) [e7]
  rw [show a.length = z.length by omega, frz_1]
  simp
theorem Zj9 (f : LV) (p : Int → Bool) (sf : share f = f) (lf : Low 0 f) (nl : Bool) (l : List Int) (hlen : l.length ≤ 1099511627776) (hp : ∀ c ∈ l, FnB Tryz.prog f (N c) (p c)) :
  Qe Tryz.prog XA [L nl l, f] (fun r => ∃ n : Int, r = N n ∧ leB 0 n = l.any p) := by
 refine Qe.of_codeOf KB Qy (by simp) ⟨N (if l.any p = true then 0 else -1), ⟨_, rfl, by split <;> simp_all [leB]⟩, by simp⟩ ?_
 simp (disch := omega) [YG, sf]
 refine Q9 l.length 0 (fun i t _ => t 8 = N i ∧ l.any p = (l.drop i).any p) (by simp) (by omega) ?_
 rintro i t1 hh hf hi ⟨e8, hj⟩
 (have e0 := hf 0 (by kernel_rfl); have e1 := hf 1 (by kernel_rfl); have e6 := hf 6 (by kernel_rfl); have e7 := hf 7 (by kernel_rfl); clear hf; simp [sf] at e0 e1 e6 e7)
 simp (disch := omega) [e0, e1, e6, e7, e8]
 (with_reducible first | refine Ql (fun h6 => ?_) (fun h6 => ?_) | refine Qk (fun h6 => ?_) (fun h6 => ?_))
 ·simp only [Qf, Qd, Qi, Qg, Qc, Qb, Bool.not_true, Bool.not_false] at h6
  have hd := List.drop_eq_getElem_cons (l := l) (i := i) (by omega)
  have hpc := hp (l[i]'(by omega)) (List.getElem_mem _)
  simp (disch := omega) [e0, e1, e6, e7, e8, Xj, sf]
  repeat' (first
  | with_reducible refine Zmc hpc ?_
  | (with_reducible (first | refine Ql (fun hb_ => ?_) (fun hb_ => ?_) | refine Qk (fun hb_ => ?_) (fun hb_ => ?_)) <;> simp (disch := omega) [hb_, e0, e1, e6, e7, e8, Xj, sf])
  | simp (disch := omega) [e0, e1, e6, e7, e8, Xj, sf])
  ·rw [hj, hd, List.any_cons, hb_, Bool.true_or, Qi]; omega
  ·exact ⟨by omega, Qh (by omega), by rw [hj, hd, List.any_cons, hb_, Bool.false_or]⟩
 ·simp only [Qf, Qd, Qi, Qg, Qc, Qb, Bool.not_true, Bool.not_false] at h6
  simp (disch := omega)
  rw [hj, show i = l.length by omega, List.drop_length]; simp [leB]
theorem ZfE (f : LV) (p : Int → Bool) (sf : share f = f) (lf : Low 0 f) (nl : Bool) (l : List Int) (hlen : l.length ≤ 1099511627776) (hp : ∀ c ∈ l, FnB Tryz.prog f (N c) (p c)) :
  Qe Tryz.prog Xd [L nl l, f] (· = B (l.any p)) := by
 refine Qe.of_codeOf JD Qy (by simp) ⟨_, rfl, by simp⟩ ?_
 simp (disch := omega) [Yf, sf]
 refine Znd (Zj9 f p sf lf nl l hlen hp) (by simp [lf]) ?_
 rintro r ⟨n, rfl, hn⟩
 simp (disch := omega) [sf, hn]
theorem ZnA {s : GSys} (t : s.Tab) {u g : Int} (hu : s.G u) (hg : s.G g) : FnB Tryz.prog (.fn W7 [.rp s.cells, .rp [N g]]) (N u) (!s.le u g) := by
 refine ⟨W7, [N u, .rp s.cells, .rp [N g]], by simp [Zo], by simp, ?_⟩
 refine Qe.of_codeOf Zai Qy (by simp) ⟨_, rfl, by simp⟩ ?_
 simp (disch := omega) [Jk]
 refine Qa (KG t hu hg) (by simp) ?_
 simp (disch := omega)
theorem Vm {s : GSys} (t : s.Tab) {g : Int} (hg : s.G g) (nl : Bool) (l : List Int) (hl : l.length ≤ 1099511627776) (hu : ∀ u ∈ l, s.G u) : Qe Tryz.prog WN [s.lv, L nl l, N g] (· = B (WY s l g)) := by
 refine Qe.of_codeOf ZbH Qy (by simp) ⟨_, rfl, by simp⟩ ?_
 have hc := ZfE (.fn W7 [.rp s.cells, .rp [N g]]) (fun u => !s.le u g) (by simp) (by simp) nl l hl (fun c hc => ZnA t (hu c hc) hg)
 simp (disch := omega) [JV, Qw, Qu]
 refine Qa hc (by simp) ?_
 simp (disch := omega)
 simp [WY, List.all_eq_not_any_not]
def cl (nl : Bool) (l : List Int) : LV := if nl = true then .sl false true 1 [] else OU true false l
end Go.Proofs.YtclfngbealdbgaaGreat
namespace Go.Proofs.YtclfngbealdbgaaGreat
open Go Go.TL
open Go.Proofs.YtclfngbealdbgaaGreat.Ty
set_option linter.unusedSimpArgs false
set_option linter.unusedVariables false
set_option maxRecDepth 20000
set_option maxHeartbeats 4000000
theorem growI_ok (n : Int) (h0 : 0 ≤ n) (h1 : n ≤ 1099511627776) : Qe Tryz.prog Xw [.sl false true 1 [], N n] (· = .sl (ltB 0 n) (!ltB 0 n) 1 []) := by
 refine Qe.of_codeOf ZO Qy (by simp) ⟨_, rfl, by simp⟩ ?_
 have hm : n ≤ (WQ : Nat) := by unfold WQ; omega
 have hneg : ltB n 0 = false := by rw [Qd]; omega
 simp (disch := omega) [Ym, Qh, hneg, ZE]
 (with_reducible first | refine Ql (fun h1 => ?_) (fun h1 => ?_) | refine Qk (fun h1 => ?_) (fun h1 => ?_))
 ·have hmm : (WQ : Int) = 1099511627776 := rfl
  have hp : 0 < n := by rw [Qf] at h1; exact h1
  have hc : ZE 1 (.sl false true 1 []) none (some 0) none = some (.sl false true 1 []) := by simp [ZE]
  simp (disch := omega) [h1, hc, hp, hm]
 ·simp (disch := omega) [h1]
abbrev rowI (c : Bool × List Int) : LV := .sl false c.1 1 (c.2.map fun x => [N x])
def Zdo (ls : List (Bool × List Int)) : List (List LV) := ls.map fun c => [rowI c]
def lnI (ls : List (Bool × List Int)) : Nat := (ls.map fun c => c.2.length).sum
def flI (ls : List (Bool × List Int)) : List Int := (ls.map fun c => c.2).flatten
abbrev catI (l : List Int) : LV := .sl (ltB 0 l.length) (!ltB 0 l.length) 1 (l.map fun x => [N x])
theorem Zhc (a b : List (Bool × List Int)) : lnI (a ++ b) = lnI a + lnI b := by simp [lnI]
theorem Zij (a : Bool × List Int) (b : List (Bool × List Int)) : lnI (a :: b) = a.2.length + lnI b := by simp [lnI]
theorem flI_app (a b : List (Bool × List Int)) : flI (a ++ b) = flI a ++ flI b := by simp [flI]
theorem ZiG (a : List (Bool × List Int)) : (flI a).length = lnI a := by simp [flI, lnI, Function.comp_def]
@[simp] theorem ZoP (c : Bool × List Int) : share (rowI c) = rowI c := by simp [rowI]
theorem Zhn (ls : List (Bool × List Int)) (hl : ls.length ≤ 1099511627776) (ht : lnI ls ≤ 1099511627776) :
  Qe Tryz.prog QH [.sl false false 1 (Zdo ls)] (· = catI (flI ls)) := by
 have hlow : Wo 0 (Zdo ls) := by simp [Zdo]
 have hfl := ZiG ls
 refine Qe.of_codeOf Zd Qy (by simp) ⟨_, rfl, by simp only [Zof, Zd3, Zb6, ZoY, ZdO, and_self, implies_true]⟩ ?_
 have hsr : Qr (Zdo ls) = Zdo ls := by simp [Zdo]
 simp (disch := omega) [X1, hsr]
 have hrl : (Zdo ls).length = ls.length := by simp [Zdo]
 rw [hrl]
 have idx : ∀ i : Nat, i < ls.length → QF 1 (.sl false false 1 (Zdo ls)) (i : Int) = some (.rp [rowI (ls.getD i (false, []))]) := fun i hi => by
  have := Zh0 rowI ZoP ls false false i (by omega) (by omega)
  rw [Zdo, this]; simp [List.getD_eq_getElem?_getD, hi]
 have tk : ∀ i : Nat, i < ls.length → ls.take (i + 1) = ls.take i ++ [ls.getD i (false, [])] := fun i hi => by
  rw [List.take_succ_eq_append_getElem hi]; simp [List.getD_eq_getElem?_getD, hi]
 have lnle : ∀ i : Nat, lnI (ls.take i) ≤ lnI ls := fun i => by
  have := Zhc (ls.take i) (ls.drop i)
  rw [List.take_append_drop] at this; omega
 refine Xn ls.length 0 (fun i t h => h = [] ∧ t 11 = N i ∧ t 3 = N (lnI (ls.take i))) (fun t h => h = [] ∧ t 3 = N (lnI ls)) (by simp [lnI]) (by omega) ?_ ?_
 ·rintro i t1 hh hf hi ⟨rfl, e11, e3⟩
  (have e9 := hf 9 (by kernel_rfl); have e10 := hf 10 (by kernel_rfl); clear hf; simp [hsr] at e9 e10)
  simp (disch := omega) [e3, e9, e10, e11]
  by_cases h6 : i < ls.length
  ·have hb : ltB (i : Int) ls.length = true := by rw [Qf]; omega
   have t1' := tk i h6
   have t2 := lnle (i + 1)
   have hix := idx i h6
   rw [t1', Zhc, Zij] at t2
   rw [t1', Zhc, Zij]
   generalize ls.getD i (false, []) = c at t2 hix ⊢
   generalize lnI (ls.take i) = m at *
   have hnb : ltB ((m : Int) + c.2.length) 0 = false := by rw [Qd]; omega
   simp (disch := omega) [e3, e9, e10, e11, hb, hix, Qh, hnb]
   simp [lnI]; omega
  ·have hb : ltB (i : Int) ls.length = false := by rw [Qd]; omega
   simp (disch := omega) [e3, e9, e10, e11, hb]
   rw [List.take_of_length_le (by omega)]
 ·rintro t1 hh hf ⟨rfl, e3⟩
  (have e0 := hf 0 (by kernel_rfl); clear hf; simp [hsr] at e0)
  simp (disch := omega) [e3, e0]
  refine Qa (growI_ok _ (by omega) (by omega)) (by simp) ?_
  simp (disch := omega) [e3, e0, hsr, hrl]
  refine Xn ls.length 0 (fun i t h => h = [] ∧ t 27 = N i ∧ t 6 = .sl (ltB 0 (lnI ls)) (!ltB 0 (lnI ls)) 1 ((flI (ls.take i)).map fun x => [N x])) (fun t h => h = [] ∧ t 6 = catI (flI ls)) (by simp [flI]) (by omega) ?_ ?_
  ·rintro i t2 hh hf2 hi ⟨rfl, e27, e6⟩
   have e25 := hf2 25 (by kernel_rfl); have e26 := hf2 26 (by kernel_rfl); clear hf2; simp [hsr] at e25 e26
   simp (disch := omega) [e6, e25, e26, e27]
   by_cases h6 : i < ls.length
   ·have hb : ltB (i : Int) ls.length = true := by rw [Qf]; omega
    have t1' := tk i h6
    have t2' := lnle (i + 1)
    have t3 := ZiG (ls.take i)
    have hix := idx i h6
    rw [t1', Zhc, Zij] at t2'
    rw [t1', flI_app]
    generalize ls.getD i (false, []) = c at t2' hix ⊢
    rw [← t3] at t2'
    generalize flI (ls.take i) = m at *
    simp (disch := omega) [e6, e25, e26, e27, hb, hix, Qh]
    have ap : Wt 1 (.sl (ltB 0 (lnI ls)) (!ltB 0 (lnI ls)) 1 (m.map fun x => [N x])) (.sl false c.1 1 (c.2.map fun x => [N x])) = some (.sl (ltB 0 (lnI ls)) (!ltB 0 (lnI ls)) 1 ((m ++ c.2).map fun x => [N x])) := by
     cases hq : ltB 0 (lnI ls : Int)
     ·rw [Qd] at hq
      have c0 : c.2 = [] := List.eq_nil_of_length_eq_zero (by omega)
      have m0 : m = [] := List.eq_nil_of_length_eq_zero (by omega)
      simp [Wt, c0, m0, WQ]
     ·simp only [Wt]
      rw [if_pos ⟨by simp, .inl trivial, .inl trivial, by simp [WQ]; omega⟩]
      simp
    have e0 : flI [c] = c.2 := by simp [flI]
    rw [ap]
    simp (disch := omega) [e6, e25, e26, e27, hb, hix, Qh, e0]
    omega
   ·have hb : ltB (i : Int) ls.length = false := by rw [Qd]; omega
    simp (disch := omega) [e6, e25, e26, e27, hb]
    rw [List.take_of_length_le (by omega), hfl]
    exact ⟨rfl, rfl⟩
  ·rintro t1 hh hf ⟨rfl, e6⟩
   simp (disch := omega) [e6]
theorem growC_ok (n : Int) (h0 : 0 ≤ n) (h1 : n ≤ 1099511627776) : Qe Tryz.prog XH [.sl false true 1 [], N n] (· = .sl (ltB 0 n) (!ltB 0 n) 1 []) := by
 refine Qe.of_codeOf KL Qy (by simp) ⟨_, rfl, by simp⟩ ?_
 have hm : n ≤ (WQ : Nat) := by unfold WQ; omega
 have hneg : ltB n 0 = false := by rw [Qd]; omega
 simp (disch := omega) [YV, Qh, hneg, ZE]
 (with_reducible first | refine Ql (fun h1 => ?_) (fun h1 => ?_) | refine Qk (fun h1 => ?_) (fun h1 => ?_))
 ·have hmm : (WQ : Int) = 1099511627776 := rfl
  have hp : 0 < n := by rw [Qf] at h1; exact h1
  have hc : ZE 1 (.sl false true 1 []) none (some 0) none = some (.sl false true 1 []) := by simp [ZE]
  simp (disch := omega) [h1, hc, hp, hm]
 ·simp (disch := omega) [h1]
abbrev rowC (c : Bool × List (Bool × List Int)) : LV := .sl false c.1 1 (c.2.map fun x => [eC x])
def Zc6 (ls : List (Bool × List (Bool × List Int))) : List (List LV) := ls.map fun c => [rowC c]
def lnC (ls : List (Bool × List (Bool × List Int))) : Nat := (ls.map fun c => c.2.length).sum
def flC (ls : List (Bool × List (Bool × List Int))) : List (Bool × List Int) := (ls.map fun c => c.2).flatten
abbrev catC (l : List (Bool × List Int)) : LV := .sl (ltB 0 l.length) (!ltB 0 l.length) 1 (l.map fun x => [eC x])
theorem Zhe (a b : List (Bool × List (Bool × List Int))) : lnC (a ++ b) = lnC a + lnC b := by simp [lnC]
theorem ZhQ (a : Bool × List (Bool × List Int)) (b : List (Bool × List (Bool × List Int))) : lnC (a :: b) = a.2.length + lnC b := by simp [lnC]
theorem flC_app (a b : List (Bool × List (Bool × List Int))) : flC (a ++ b) = flC a ++ flC b := by simp [flC]
theorem ZhI (a : List (Bool × List (Bool × List Int))) : (flC a).length = lnC a := by simp [flC, lnC, Function.comp_def]
@[simp] theorem Zoa (c : Bool × List (Bool × List Int)) : share (rowC c) = rowC c := by simp [rowC]
theorem Zo4 (ls : List (Bool × List (Bool × List Int))) (hl : ls.length ≤ 1099511627776) (ht : lnC ls ≤ 1099511627776) :
  Qe Tryz.prog Xo [.sl false false 1 (Zc6 ls)] (· = catC (flC ls)) := by
 have hlow : Wo 0 (Zc6 ls) := by simp [Zc6]
 have hfl := ZhI ls
 refine Qe.of_codeOf J6 Qy (by simp) ⟨_, rfl, by simp only [Zof, Zd3, Zb6, ZoY, ZdO, and_self, implies_true]⟩ ?_
 have hsr : Qr (Zc6 ls) = Zc6 ls := by simp [Zc6]
 simp (disch := omega) [Yy, hsr]
 have hrl : (Zc6 ls).length = ls.length := by simp [Zc6]
 rw [hrl]
 have idx : ∀ i : Nat, i < ls.length → QF 1 (.sl false false 1 (Zc6 ls)) (i : Int) = some (.rp [rowC (ls.getD i (false, []))]) := fun i hi => by
  have := Zh0 rowC Zoa ls false false i (by omega) (by omega)
  rw [Zc6, this]; simp [List.getD_eq_getElem?_getD, hi]
 have tk : ∀ i : Nat, i < ls.length → ls.take (i + 1) = ls.take i ++ [ls.getD i (false, [])] := fun i hi => by
  rw [List.take_succ_eq_append_getElem hi]; simp [List.getD_eq_getElem?_getD, hi]
 have lnle : ∀ i : Nat, lnC (ls.take i) ≤ lnC ls := fun i => by
  have := Zhe (ls.take i) (ls.drop i)
  rw [List.take_append_drop] at this; omega
 refine Xn ls.length 0 (fun i t h => h = [] ∧ t 11 = N i ∧ t 3 = N (lnC (ls.take i))) (fun t h => h = [] ∧ t 3 = N (lnC ls)) (by simp [lnC]) (by omega) ?_ ?_
 ·rintro i t1 hh hf hi ⟨rfl, e11, e3⟩
  (have e9 := hf 9 (by kernel_rfl); have e10 := hf 10 (by kernel_rfl); clear hf; simp [hsr] at e9 e10)
  simp (disch := omega) [e3, e9, e10, e11]
  by_cases h6 : i < ls.length
  ·have hb : ltB (i : Int) ls.length = true := by rw [Qf]; omega
   have t1' := tk i h6
   have t2 := lnle (i + 1)
   have hix := idx i h6
   rw [t1', Zhe, ZhQ] at t2
   rw [t1', Zhe, ZhQ]
   generalize ls.getD i (false, []) = c at t2 hix ⊢
   generalize lnC (ls.take i) = m at *
   have hnb : ltB ((m : Int) + c.2.length) 0 = false := by rw [Qd]; omega
   simp (disch := omega) [e3, e9, e10, e11, hb, hix, Qh, hnb]
   simp [lnC]; omega
  ·have hb : ltB (i : Int) ls.length = false := by rw [Qd]; omega
   simp (disch := omega) [e3, e9, e10, e11, hb]
   rw [List.take_of_length_le (by omega)]
 ·rintro t1 hh hf ⟨rfl, e3⟩
  (have e0 := hf 0 (by kernel_rfl); clear hf; simp [hsr] at e0)
  simp (disch := omega) [e3, e0]
  refine Qa (growC_ok _ (by omega) (by omega)) (by simp) ?_
  simp (disch := omega) [e3, e0, hsr, hrl]
  refine Xn ls.length 0 (fun i t h => h = [] ∧ t 27 = N i ∧ t 6 = .sl (ltB 0 (lnC ls)) (!ltB 0 (lnC ls)) 1 ((flC (ls.take i)).map fun x => [eC x])) (fun t h => h = [] ∧ t 6 = catC (flC ls)) (by simp [flC]) (by omega) ?_ ?_
  ·rintro i t2 hh hf2 hi ⟨rfl, e27, e6⟩
   have e25 := hf2 25 (by kernel_rfl); have e26 := hf2 26 (by kernel_rfl); clear hf2; simp [hsr] at e25 e26
   simp (disch := omega) [e6, e25, e26, e27]
   by_cases h6 : i < ls.length
   ·have hb : ltB (i : Int) ls.length = true := by rw [Qf]; omega
    have t1' := tk i h6
    have t2' := lnle (i + 1)
    have t3 := ZhI (ls.take i)
    have hix := idx i h6
    rw [t1', Zhe, ZhQ] at t2'
    rw [t1', flC_app]
    generalize ls.getD i (false, []) = c at t2' hix ⊢
    rw [← t3] at t2'
    generalize flC (ls.take i) = m at *
    simp (disch := omega) [e6, e25, e26, e27, hb, hix, Qh]
    have ap : Wt 1 (.sl (ltB 0 (lnC ls)) (!ltB 0 (lnC ls)) 1 (m.map fun x => [eC x])) (.sl false c.1 1 (c.2.map fun x => [eC x])) = some (.sl (ltB 0 (lnC ls)) (!ltB 0 (lnC ls)) 1 ((m ++ c.2).map fun x => [eC x])) := by
     cases hq : ltB 0 (lnC ls : Int)
     ·rw [Qd] at hq
      have c0 : c.2 = [] := List.eq_nil_of_length_eq_zero (by omega)
      have m0 : m = [] := List.eq_nil_of_length_eq_zero (by omega)
      simp [Wt, c0, m0, WQ]
     ·simp only [Wt]
      rw [if_pos ⟨by simp, .inl trivial, .inl trivial, by simp [WQ]; omega⟩]
      simp
    have e0 : flC [c] = c.2 := by simp [flC]
    rw [ap]
    simp (disch := omega) [e6, e25, e26, e27, hb, hix, Qh, e0]
    omega
   ·have hb : ltB (i : Int) ls.length = false := by rw [Qd]; omega
    simp (disch := omega) [e6, e25, e26, e27, hb]
    rw [List.take_of_length_le (by omega), hfl]
    exact ⟨rfl, rfl⟩
  ·rintro t1 hh hf ⟨rfl, e6⟩
   simp (disch := omega) [e6]
end Go.Proofs.YtclfngbealdbgaaGreat
namespace Go.Proofs.YtclfngbealdbgaaGreat
open Go Go.TL
open Go.Proofs.YtclfngbealdbgaaGreat.Ty
set_option linter.unusedSimpArgs false
attribute [local simp low] W9
attribute [local simp] ZdU Zed ZdX ZdR Zd5 Zee
theorem long_ok (u nl : Bool) (l : List Int) : Qe Tryz.prog ZbM [.sl u nl 1 (l.map fun n => [N n])] (· = B (ltB 40 l.length)) := by
 refine Qe.of_codeOf ZmO Qy (by simp) ⟨_, rfl, by simp⟩ ?_
 simp (contextual := true) (disch := omega) [Zgn]
theorem Zng (nl : Bool) (l : List Int) (hl : l.length ≤ 1099511627776) (hw : ∀ n ∈ l, I64 n) (i : Int) (hi : I64 i) : Qe Tryz.prog W2 [L nl l, N i] (· = N (Za l i)) := Ziq nl l ⟨hl, hw⟩ i hi
def Qj (ts : List RT) : List (List LV) := ts.map fun t => [.sl false false 1 (t.flat.map fun n => [N n])]
theorem Zgs (dn : List RT) : (Qj dn).length ≤ (QS dn).length := by
 induction dn with
 | nil => simp [Qj]
 | cons a dn ih =>
  have := a.flat_pos
  simp only [Qj, List.length_map] at ih
  simp [Qj, QS]; omega
theorem ZnV (c : Int) (ks : List RT) (hok : (RT.nd c ks).ok) (hl : (RT.nd c ks).flat.length ≤ 1099511627776) (hw : ∀ n ∈ (RT.nd c ks).flat, I64 n) :
  Qe Tryz.prog YL [L false (RT.nd c ks).flat] (· = .sl (!ks.isEmpty) ks.isEmpty 1 (Qj ks)) := by
 refine Qe.of_codeOf Zln Qy (by simp) ⟨_, rfl, by simp [Qj]⟩ ?_
 simp (contextual := true) (disch := omega) [Ze5]
 generalize hL : (RT.nd c ks).flat = l at *
 refine Vd (fun k s => ∃ dn rest, ks = dn ++ rest ∧ k = rest.length ∧ s.h = [] ∧ s.t 0 = L false l ∧ s.t 3 = .sl (!dn.isEmpty) dn.isEmpty 1 (Qj dn) ∧ s.t 4 = N ((QS dn).length + 1)) ks.length ?_ ?_
 ·refine ⟨[], ks, rfl, rfl, ?_⟩
  simp [Qj, QS]
 ·rintro k s ⟨dn, rest, hks, hk, h1, h2, h3, h4⟩
  simp (contextual := true) (disch := omega) [h1, h2, h3, h4]
  subst hks
  refine ⟨fun _ h5 => ?_, fun _ h5 => ?_⟩
  ·match rest with
   | [] =>
    exfalso
    rw [← hL] at h5
    simp only [RT.flat, Yx, QS, List.length_cons, List.length_append] at h5
    simp at h5
   | t :: rest =>
    have hd : l.drop ((QS dn).length + 1) = t.flat ++ QS rest := by
     rw [← hL]
     simp [RT.flat, Yx, QS]
    have hll : l.length = (QS dn).length + 1 + t.flat.length + (QS rest).length := by
     rw [← hL]
     simp [RT.flat, Yx, QS]; omega
    have he : Za l ((QS dn).length + 1) = (QS dn).length + 1 + t.flat.length := by
     unfold Za
     rw [if_pos (by omega), show (((QS dn).length : Int) + 1).toNat = (QS dn).length + 1 by omega, hd]
     simp only [RT.ok] at hok
     have := (ZaZ.1 hok.2) t (by simp)
     rw [Zd7 this]
     omega
    have hp := t.flat_pos
    refine Qa (Zng false l hl hw _ ⟨by omega, by omega⟩) (by simp) ?_
    rw [he]
    have hrow : List.drop ((QS dn).length + 1) (List.take ((QS dn).length + 1 + t.flat.length) l) = t.flat := by
     rw [List.drop_take, hd, show (QS dn).length + 1 + t.flat.length - ((QS dn).length + 1) = t.flat.length by omega]
     simp
    have hrow := congrArg (List.map fun n : Int => [N n]) hrow
    rw [List.map_drop, List.map_take] at hrow
    have hn : (((QS dn).length : Int) + 1 + t.flat.length).toNat = (QS dn).length + 1 + t.flat.length := by omega
    have hne : ¬ (((QS dn).length : Int) + 1 = (QS dn).length + 1 + t.flat.length) := by omega
    have hks : (Qj dn).length + 1 ≤ WQ := by
     have := Zgs dn
     unfold WQ; omega
    simp (contextual := true) (disch := omega) [h2, h3, h4, ZE, Wt, hn, hne, hrow, hks]
    refine ⟨by omega, Classical.em _ |>.symm, rest.length, by simp [hk], dn ++ [t], rest, by simp, rfl, ⟨by simp, by simp [Qj]⟩, by simp [Yx, QS]; omega⟩
  ·match rest with
   | [] => simp [Qj]
   | t :: rest =>
    exfalso
    rw [← hL] at h5
    simp only [RT.flat, Yx, QS, List.length_cons, List.length_append] at h5
    have := t.flat_pos
    omega
theorem grow_ok (n : Int) (h0 : 0 ≤ n) (h1 : n ≤ 1099511627776) : Qe Tryz.prog Xw [.sl false true 1 [], N n] (· = .sl (ltB 0 n) (!ltB 0 n) 1 []) := by
 refine Qe.of_codeOf ZO Qy (by simp) ⟨_, rfl, by simp⟩ ?_
 simp (contextual := true) (disch := omega) [Ym, Qh, ZE, WQ]
 exact ⟨fun _ => h0, fun _ _ _ _ => h1⟩
def ZaD (ls : List (List Int)) : List (List LV) := ls.map fun l => [.sl false false 1 (l.map fun n => [N n])]
def ln (ls : List (List Int)) : Nat := (ls.map List.length).sum
theorem ln_app (a b : List (List Int)) : ln (a ++ b) = ln a + ln b := by simp [ln]
theorem ZpJ (a : List Int) (b : List (List Int)) : ln (a :: b) = a.length + ln b := by simp [ln]
theorem Zqk (ls : List (List Int)) (hl : ls.length ≤ 1099511627776) (ht : ln ls ≤ 1099511627776) :
  Qe Tryz.prog QH [.sl false false 1 (ZaD ls)] (· = .sl (ltB 0 (ln ls)) (!ltB 0 (ln ls)) 1 (ls.flatten.map fun n => [N n])) := by
 have hlow : Wo 0 (ZaD ls) := by simp [ZaD]
 refine Qe.of_codeOf Zd Qy (by simp) ⟨_, rfl, by simp only [Zof, Zd3, Zb6, ZoY, ZdO, and_self, implies_true]⟩ ?_
 simp (contextual := true) (disch := omega) [X1, -List.map_flatten]
 refine Vd (fun k s => ∃ dn rest, ls = dn ++ rest ∧ k = rest.length ∧ s.h = [] ∧ s.t 0 = .sl false false 1 (ZaD ls) ∧ s.t 9 = .sl false false 1 (ZaD ls) ∧ s.t 10 = N ls.length ∧ s.t 11 = N dn.length ∧ s.t 3 = N (ln dn)) ls.length ?_ ?_
 ·refine ⟨[], ls, rfl, rfl, ?_⟩
  simp [ZaD, ln]
 ·rintro k s ⟨dn, rest, hls, hk, h1, h2, h3, h4, h5, h6⟩
  simp (contextual := true) (disch := omega) [h1, h2, h3, h4, h5, h6, -List.map_flatten]
  refine ⟨fun _ h7 => ?_, fun _ h7 => ?_⟩
  ·match rest with
   | [] => exfalso; rw [hls] at h7; simp at h7
   | l :: rest =>
    have hi : QF 1 (.sl false false 1 (ZaD ls)) (dn.length : Int) = some (.rp [.sl false false 1 (l.map fun n => [N n])]) := by
     rw [hls]; unfold ZaD; rw [ZaW]; simp
    have e : ln ls = ln dn + (l.length + ln rest) := by rw [hls, ln_app, ZpJ]
    have e2 : ls.length = dn.length + (rest.length + 1) := by rw [hls]; simp
    simp (contextual := true) (disch := omega) [hi, h1, h2, h3, h4, h5, h6, Qh, -List.map_flatten]
    exact ⟨fun _ => by omega, fun _ _ => ⟨rest.length, by simp [hk], dn ++ [l], rest, by simp [hls], rfl, by simp, by simp [ln]⟩⟩
  ·have : rest = [] := by
    cases rest with
    | nil => rfl
    | cons a r => exfalso; rw [hls] at h7; simp at h7; omega
   subst this
   simp at hls
   subst hls
   refine Qa (grow_ok _ (by omega) (by omega)) (by simp) ?_
   simp (contextual := true) (disch := omega) [h1, h2, h3, h4, h5, h6, Qh, -List.map_flatten]
   refine Vd (fun k s => ∃ d2 rest, ls = d2 ++ rest ∧ k = rest.length ∧ s.h = [] ∧ s.t 25 = .sl false false 1 (ZaD ls) ∧ s.t 26 = N ls.length ∧ s.t 27 = N d2.length ∧
    s.t 6 = .sl (ltB 0 (ln ls)) (!ltB 0 (ln ls)) 1 (d2.flatten.map fun n => [N n])) ls.length ?_ ?_
   ·refine ⟨[], ls, rfl, rfl, ?_⟩
    simp [ZaD]
   ·rintro k s ⟨d2, rest, hls, hk, g1, g2, g3, g4, g5⟩
    simp (contextual := true) (disch := omega) [g1, g2, g3, g4, g5, -List.map_flatten]
    refine ⟨fun _ h8 => ?_, fun _ h8 => ?_⟩
    ·match rest with
     | [] => exfalso; rw [hls] at h8; simp at h8
     | l :: rest =>
      have hi : QF 1 (.sl false false 1 (ZaD ls)) (d2.length : Int) = some (.rp [.sl false false 1 (l.map fun n => [N n])]) := by
       rw [hls]; unfold ZaD; rw [ZaW]; simp
      have e : ln ls = ln d2 + (l.length + ln rest) := by rw [hls, ln_app, ZpJ]
      have e2 : ls.length = d2.length + (rest.length + 1) := by rw [hls]; simp
      simp (contextual := true) (disch := omega) [hi, g1, g2, g3, g4, g5, Qh, Wt, -List.map_flatten]
      have e3 : (List.map List.length d2).sum = ln d2 := rfl
      refine ⟨⟨by cases ltB 0 (ln ls : Int) <;> simp, by rw [e3]; unfold WQ; omega⟩, rest.length, by simp [hk], d2 ++ [l], rest, by simp [hls], rfl, by simp, fun h => ?_, fun h => ?_, by simp⟩
      ·have := List.length_pos_iff.2 h
       rw [Qf]; omega
      ·rw [Qd] at h
       exact List.eq_nil_of_length_eq_zero (by omega)
    ·have : rest = [] := by
      cases rest with
      | nil => rfl
      | cons a r => exfalso; rw [hls] at h8; simp at h8; omega
     subst this
     simp at hls
     subst hls
     simp [g5, -List.map_flatten]
theorem ZmR (c : Int) : ((Qz c).1 = 3 ↔ QJ c = true) ∧ (QJ c = true → (Qz c).2 = if c = 35 then -1 else c - 3) := by
 unfold Qz
 simp only [Q7, Qc]
 have ea : QJ c = true ↔ (3 ≤ c ∧ c ≤ 18) ∨ c = 35 := by simp [QJ]
 rw [ea]
 by_cases h0 : 0 ≤ c ∧ c ≤ 2
 ·rw [if_pos h0]; refine ⟨by simp; omega, fun h => by omega⟩
 rw [if_neg h0]
 by_cases h1 : 3 ≤ c ∧ c ≤ 18
 ·rw [if_pos h1]; refine ⟨by simp; omega, fun _ => by rw [if_neg (by omega)]⟩
 rw [if_neg h1]
 by_cases h2 : 19 ≤ c ∧ c ≤ 34
 ·rw [if_pos h2]; refine ⟨by simp; omega, fun h => by omega⟩
 rw [if_neg h2]
 by_cases h3 : c = 35
 ·rw [if_pos h3]; simp [h3]
 rw [if_neg h3]
 by_cases h4 : c = 36
 ·rw [if_pos h4]; simp [h4]
 rw [if_neg h4]
 refine ⟨by simp; omega, fun h => by omega⟩
theorem ZnE (c : Int) (h : I64 c) : I64 (Qz c).1 ∧ I64 (Qz c).2 := by
 obtain ⟨h1, h2⟩ := h
 unfold Qz I64
 simp only [Q7, Qc]
 repeat' split
 all_goals simp
 all_goals omega
theorem ZcL : ∀ {ts : List RT} {t : RT}, t ∈ ts → t.flat.length ≤ (QS ts).length
 | a :: ts, t, h => by
  simp only [QS, List.length_append]
  rcases List.mem_cons.1 h with rfl | h
  ·omega
  ·have := ZcL h
   omega
theorem ZmZ {c : Int} {a b : RT} (h : QJ c = true) : (RT.nd c [a, b]).boxed = [[4, if c = 35 then 36 else c + 16], a.boxed, b.boxed].flatten := by
 simp [RT.boxed, Wa, h]
theorem boxed_ok (d : Nat) : ∀ (t : RT), t.flat.length ≤ d → t.ok → t.flat.length ≤ 1048576 → (∀ n ∈ t.flat, I64 n) → Qe Tryz.prog Ye [L false t.flat] (· = .sl true false 1 (t.boxed.map fun n => [N n])) := by
 induction d with
 | zero => intro t h; have := t.flat_pos; omega
 | succ d ih =>
  rintro ⟨c, ks⟩ hd hok hl hw
  refine Qe.of_codeOf ZlF Qy (by simp) ⟨_, rfl, by simp⟩ ?_
  have hf : (RT.nd c ks).flat = c :: QS ks := by simp [RT.flat]
  have hc : I64 c := hw c (by simp [hf])
  have hi : QF 1 (L false (RT.nd c ks).flat) 0 = some (.rp [N c]) := by
   rw [hf]; exact ZaW (fun n => [N n]) [] (QS ks) c false false 1
  have hkid : ∀ t ∈ ks, Qe Tryz.prog Ye [L false t.flat] (· = .sl true false 1 (t.boxed.map fun n => [N n])) := by
   intro t ht
   simp only [RT.ok] at hok
   have hsub : ∀ n ∈ t.flat, n ∈ (RT.nd c ks).flat := by
    intro n hn
    rw [hf, ZdA]
    exact List.mem_cons_of_mem _ (List.mem_flatMap.2 ⟨t, ht, hn⟩)
   have hlen : t.flat.length < (RT.nd c ks).flat.length := by
    have := ZcL ht
    rw [hf, List.length_cons]; omega
   exact ih t (by omega) (ZaZ.1 hok.2 t ht) (by omega) (fun n hn => hw n (hsub n hn))
  obtain ⟨ha1, ha2⟩ := ZmR c
  obtain ⟨⟨hr1, hr2⟩, hr3, hr4⟩ := ZnE c hc
  have hparts := ZnV c ks hok (by omega) hw
  have hbl := (RT.nd c ks).boxed_length
  generalize hL : (RT.nd c ks).flat = l at *
  simp (contextual := true) (disch := omega) [Ze4, hi]
  refine Qa (KD c hc) (by simp) ?_
  simp (contextual := true) (disch := omega)
  refine Qa hparts (by simp) ?_
  simp (contextual := true) (disch := omega) [hi]
  refine ⟨fun e3 _ _ => ?_, fun e3 _ => ?_⟩
  ·have harr := ha1.1 (by rw [Qc] at e3; exact e3)
   have hg := ha2 harr
   have hk2 : ks.length = 2 := by
    have := hok
    simp only [RT.ok] at this
    have h2 : WC c = some 2 := by
     have ea : QJ c = true ↔ (3 ≤ c ∧ c ≤ 18) ∨ c = 35 := by simp [QJ]
     have := ea.1 harr
     rw [ZoX, if_neg (by omega), if_pos (by omega)]
    rw [h2] at this
    simpa using this.1.symm
   match ks, hk2 with
   | [a, b], _ =>
    have hbx := ZmZ (a := a) (b := b) harr
    have i0 : QF 1 (.sl false false 1 (Qj [a, b])) 0 = some (.rp [.sl false false 1 (a.flat.map fun n => [N n])]) := by
     have := ZaW (fun t : RT => [LV.sl false false 1 (t.flat.map fun n => [N n])]) [] [b] a false false 1
     simpa [Qj] using this
    have i1 : QF 1 (.sl false false 1 (Qj [a, b])) 1 = some (.rp [.sl false false 1 (b.flat.map fun n => [N n])]) := by
     have := ZaW (fun t : RT => [LV.sl false false 1 (t.flat.map fun n => [N n])]) [a] [] b false false 1
     simpa [Qj] using this
    have hsr : Qr (Qj [a, b]) = Qj [a, b] := by simp [Qj]
    have hbl2 : 2 + a.boxed.length + b.boxed.length ≤ 2 * l.length := by
     rw [hbx] at hbl; simp at hbl; omega
    have fin : ∀ (g : Int), (RT.nd c [a, b]).boxed = [[4, g], a.boxed, b.boxed].flatten → Qe Tryz.prog QH
      [.sl false false 1 [[.sl false false 1 [[N 4], [N g]]], [.sl false false 1 (a.boxed.map fun n => [N n])], [.sl false false 1 (b.boxed.map fun n => [N n])]]]
      (· = .sl true false 1 ((RT.nd c [a, b]).boxed.map fun n => [N n])) := by
     intro g hg
     have := Zqk [[4, g], a.boxed, b.boxed] (by simp) (by simp [ln]; omega)
     rw [← hg] at this
     have h0 : ltB 0 ((ln [[4, g], a.boxed, b.boxed] : Nat) : Int) = true := by rw [Qf]; simp [ln]; omega
     rw [h0] at this
     simpa [ZaD] using this
    refine ⟨fun e5 h5 => ?_, fun e5 h5 => ?_⟩
    ·have e35 : ¬ c = 35 := by intro h; rw [if_pos h] at hg; omega
     have hcb : 3 ≤ c ∧ c ≤ 18 := by
      have ea : QJ c = true ↔ (3 ≤ c ∧ c ≤ 18) ∨ c = 35 := by simp [QJ]
      have := ea.1 harr
      omega
     rw [if_neg e35] at hg hbx
     simp (contextual := true) (disch := omega) [hsr, i0, i1, hg, Qh]
     refine Qa (hkid a (by simp)) (by simp) ?_
     simp (contextual := true) (disch := omega) [hsr, i0, i1, hg, Qh]
     refine Qa (hkid b (by simp)) (by simp) ?_
     simp (contextual := true) (disch := omega) [hsr, i0, i1, hg, Qh]
     refine Qa (fin _ (by rw [hbx, show c + 16 = 19 + (c - 3) by omega])) (by simp) ?_
     simp
    ·have e35 : c = 35 := by
      rcases Classical.em (c = 35) with h | h
      ·exact h
      ·rw [if_neg h] at hg
       have ea : QJ c = true ↔ (3 ≤ c ∧ c ≤ 18) ∨ c = 35 := by simp [QJ]
       have := ea.1 harr
       omega
     rw [if_pos e35] at hbx
     simp (contextual := true) (disch := omega) [hsr, i0, i1, hg, Qh]
     refine Qa (hkid a (by simp)) (by simp) ?_
     simp (contextual := true) (disch := omega) [hsr, i0, i1, hg, Qh]
     refine Qa (hkid b (by simp)) (by simp) ?_
     simp (contextual := true) (disch := omega) [hsr, i0, i1, hg, Qh]
     refine Qa (fin _ hbx) (by simp) ?_
     simp
  ·have harr : ¬ QJ c = true := by rw [← ha1, ← Qc, e3]; simp
   have hbx : (RT.nd c ks).boxed = c :: Wa ks := by simp [RT.boxed, harr]
   have hsr : Qr (Qj ks) = Qj ks := by simp [Qj]
   simp (contextual := true) (disch := omega) [hsr]
   refine Vd (fun k s => ∃ dn rest, ks = dn ++ rest ∧ k = rest.length ∧ s.h = [] ∧ s.t 41 = .sl (!ks.isEmpty) ks.isEmpty 1 (Qj ks) ∧ s.t 42 = N ks.length ∧ s.t 43 = N dn.length ∧
    s.t 6 = .sl true false 1 ((c :: Wa dn).map fun n => [N n])) ks.length ?_ ?_
   ·refine ⟨[], ks, rfl, rfl, ?_⟩
    simp [Qj, Wa]
   ·rintro k s ⟨dn, rest, hks, hk, g1, g2, g3, g4, g5⟩
    simp (contextual := true) (disch := omega) [g1, g2, g3, g4, g5]
    refine ⟨fun _ h8 => ?_, fun _ h8 => ?_⟩
    ·match rest with
     | [] => exfalso; rw [hks] at h8; simp at h8
     | t :: rest =>
      have hi : QF 1 (.sl (!ks.isEmpty) ks.isEmpty 1 (Qj ks)) (dn.length : Int) = some (.rp [.sl false false 1 (t.flat.map fun n => [N n])]) := by
       rw [hks]; unfold Qj; rw [ZaW]; simp
      have e2 : ks.length = dn.length + (rest.length + 1) := by rw [hks]; simp
      have hlb : (Wa dn).length + t.boxed.length + 1 ≤ 2 * l.length := by
       rw [hbx, hks, YJ] at hbl
       simp [Wa] at hbl
       omega
      have hkl : ks.length ≤ l.length := by
       rw [hf]
       have := Zgs ks
       simp [Qj] at this ⊢; omega
      simp (contextual := true) (disch := omega) [hi, g1, g2, g3, g4, g5]
      refine Qa (hkid t (by rw [hks]; simp)) (by simp) ?_
      simp (contextual := true) (disch := omega) [g1, g2, g3, g4, g5, Wt, Qh]
      refine ⟨by unfold WQ; omega, rest.length, by simp [hk], dn ++ [t], rest, by simp [hks], rfl, by simp, by simp [YJ, Wa]⟩
    ·have : rest = [] := by
      cases rest with
      | nil => rfl
      | cons a r => exfalso; rw [hks] at h8; simp at h8; omega
     subst this
     simp at hks
     subst hks
     simp [g5, hbx]
end Go.Proofs.YtclfngbealdbgaaGreat
namespace Go.Proofs.YtclfngbealdbgaaGreat
open Go Go.TL
open Go.Proofs.YtclfngbealdbgaaGreat.Ty
set_option linter.unusedSimpArgs false
set_option linter.unusedVariables false
set_option maxRecDepth 20000
set_option maxHeartbeats 4000000
theorem Zpp (u u' nl : Bool) (sz sz' : Nat) (xs : List (List LV)) : Xs .slc .eql (.sl u nl sz xs) (.sl u' true sz' []) = some (B nl) := rfl
theorem Zhg (nl : Bool) (l : List Int) (hl : l.length ≤ 1099511627776) : Qe Tryz.prog WV [L nl l] (· = cl nl l) := by
 refine Qe.of_codeOf VN Qy (by simp) ⟨_, rfl, by unfold cl; split <;> simp⟩ ?_
 have hm : l.length ≤ WQ := hl
 cases nl
 ·simp (disch := omega) [X5, Zpp, Qn, Wt, hm, cl]
 ·simp (disch := omega) [X5, Zpp, cl]
theorem ZmC (n1 n2 : Bool) (a b : List Int) (ha : a.length ≤ 1099511627776) : Qe Tryz.prog WW [L n1 a, L n2 b] (· = B (a == b)) := by
 generalize hq : (a == b) = q
 refine Qe.of_codeOf VK Qy (by simp) ⟨_, rfl, by simp⟩ ?_
 simp (disch := omega) [ZD]
 (with_reducible first | refine Ql (fun h1 => ?_) (fun h1 => ?_) | refine Qk (fun h1 => ?_) (fun h1 => ?_))
 ·simp (disch := omega) [h1]
  simp only [Qf, Qd, Qi, Qg, Qc, Qb, Bool.not_true, Bool.not_false] at h1
  refine Q9 a.length 0 (fun i t _ => t 13 = N i ∧ q = (a.drop i == b.drop i)) (by simp [hq]) (by omega) ?_
  rintro i t1 hh hf hi ⟨e13, hj⟩
  (have e0 := hf 0 (by kernel_rfl); have e1 := hf 1 (by kernel_rfl); have e12 := hf 12 (by kernel_rfl); clear hf; simp [] at e0 e1 e12)
  simp (disch := omega) [e0, e1, e12, e13]
  (with_reducible first | refine Ql (fun h6 => ?_) (fun h6 => ?_) | refine Qk (fun h6 => ?_) (fun h6 => ?_))
  ·simp only [Qf, Qd, Qi, Qg, Qc, Qb, Bool.not_true, Bool.not_false] at h6
   have hd1 := List.drop_eq_getElem_cons (l := a) (i := i) (by omega)
   have hd2 := List.drop_eq_getElem_cons (l := b) (i := i) (by omega)
   have hq2 : q = (a[i]'(by omega) == b[i]'(by omega) && (a.drop (i + 1) == b.drop (i + 1))) := by rw [hj, hd1, hd2]; rfl
   clear hd1 hd2 hj
   simp (disch := omega) [e0, e1, e12, e13, Xj]
   repeat' (first
  | (with_reducible (first | refine Ql (fun hb_ => ?_) (fun hb_ => ?_) | refine Qk (fun hb_ => ?_) (fun hb_ => ?_)) <;> simp (disch := omega) [hb_, e0, e1, e12, e13, Qh])
  | simp (disch := omega) [e0, e1, e12, e13, Qh])
   all_goals simp only [Qf, Qd, Qi, Qg, Qc, Qb, Bool.not_true, Bool.not_false] at hb_
   ·exact ⟨by omega, by simp [hq2, hb_]⟩
   ·simp [hq2, hb_]
  ·simp only [Qf, Qd, Qi, Qg, Qc, Qb, Bool.not_true, Bool.not_false] at h6
   simp (disch := omega)
   rw [hj, List.drop_of_length_le (by omega), List.drop_of_length_le (by omega)]; simp
 ·simp (disch := omega) [h1]
  simp only [Qf, Qd, Qi, Qg, Qc, Qb, Bool.not_true, Bool.not_false] at h1
  rw [← hq]; simp; intro h; exact h1 (by rw [h])
def KN (l : List Int) : List (List Int) := match WC (hd l) with
 | some 2 => [QQ l, WG l]
 | some 1 => [QQ l]
 | _ => []
theorem Zba {l : List Int} (h : WC (hd l) = some 2) : KN l = [QQ l, WG l] := by simp [KN, h]
theorem ZoI {l : List Int} (h : WC (hd l) = some 1) : KN l = [QQ l] := by simp [KN, h]
theorem ZfW {l : List Int} (h : wty l = true) : Qe Tryz.prog YL [L false l] (· = .sl (!(KN l).isEmpty) (KN l).isEmpty 1 ((KN l).map fun p => [L false p])) := by
 obtain ⟨⟨c, ks⟩, h3, rfl, h5⟩ := Zm7 h
 have := ZnV c ks h3 (by omega) (fun n hn => by have := ZaS h n hn; unfold I64; omega)
 simp only [RT.ok] at h3
 have e : Qj ks = (KN (RT.nd c ks).flat).map (fun p => [L false p]) ∧ (KN (RT.nd c ks).flat).isEmpty = ks.isEmpty := by
  match ks, h3 with
  | [], h3 => simp [KN, RT.flat, h3.1, Qj]
  | [a], h3 =>
   simp only [oks] at h3
   have q := Za6 (c := c) (r := []) h3.2.1
   rw [List.append_nil] at q
   simp [KN, RT.flat, QS, h3.1, Qj, q]
  | [a, b], h3 =>
   simp only [oks] at h3
   have q := Za6 (c := c) (r := b.flat) h3.2.1
   have q1 := Za4 (c := c) (r := b.flat) h3.2.1
   simp [KN, RT.flat, QS, h3.1, Qj, q, q1]
  | _ :: _ :: _ :: _, h3 =>
   have := Zje h3.1
   simp at this
 rw [e.1, ← e.2] at this
 exact this
theorem ZbK {s : GSys} (t : s.Tab) (g : GTerm) (op n : Int) (nl1 : Bool) (gty : List Int) (nl2 : Bool) (ks : List GTerm) (hg : g = .mk op n nl1 gty nl2 ks) (i : Nat) (hi : i ≤ 3) (ty : List Int) (hty : okL s.size ty = true) (hop : 0 ≤ op ∧ op ≤ 12) (hn : op = 5 ∨ op = 8 ∨ op = 12 → s.G n) :
  Qe Tryz.prog YO [s.lv, g.lv, N i, L false ty] (· = N (QP s op n i (hd ty))) := by
 subst hg
 have hh := X6 hty
 obtain ⟨c, tl, rfl⟩ : ∃ c tl, ty = c :: tl := by
  cases ty with
  | nil => exact absurd rfl hh.2.2.2.1
  | cons c tl => exact ⟨c, tl, rfl⟩
 have hc : I64 c := by unfold I64; simp at hh; omega
 have hid : QF 1 (L false (c :: tl)) 0 = some (.rp [N c]) := by
  have := Xj (c :: tl) false false 0 (by omega) (by simp)
  simpa using this
 have hbl : op = 5 ∨ op = 8 ∨ op = 12 → Qe Tryz.prog QA [s.lv, N 1, N n] (· = B (s.le 1 n)) := fun h => KG t (GSys.G1 t) (hn h)
 refine Qe.of_codeOf ZaT Qy (by simp) ⟨_, rfl, by simp⟩ ?_
 have run : ∀ (q : Int), q = QP s op n i c → wpC Tryz.prog XO (fun e s => (e = Exit.normal ∨ e = Exit.ret) ∧ Low 0 (s.t 8) ∧ s.t 8 = N q) { t := env [s.lv, (GTerm.mk op n nl1 gty nl2 ks).lv, N i, L false (c :: tl)], h := [] } := by
  intro q hq
  have h13 : op = 0 ∨ op = 1 ∨ op = 2 ∨ op = 3 ∨ op = 4 ∨ op = 5 ∨ op = 6 ∨ op = 7 ∨ op = 8 ∨ op = 9 ∨ op = 10 ∨ op = 11 ∨ op = 12 := by omega
  subst hq
  rcases h13 with rfl | rfl | rfl | rfl | rfl | rfl | rfl | rfl | rfl | rfl | rfl | rfl | rfl
  all_goals
   rcases Nat.eq_zero_or_pos i with rfl | hp
   ·simp (disch := omega) [XO, Qw, Qu, GTerm.cells, hid]
    refine Qa (KD c hc) (by simp) ?_
    repeat' (first
  | with_reducible refine Qa (hbl (by omega)) (by simp) ?_
  | (with_reducible (first | refine Ql (fun hb_ => ?_) (fun hb_ => ?_) | refine Qk (fun hb_ => ?_) (fun hb_ => ?_)) <;> simp (disch := omega) [hb_, eqB, leB])
  | simp (disch := omega) [eqB, leB])
    all_goals (try simp_all [QP, Je])
   ·have hz : ¬ (i : Int) = 0 := by omega
    have hz2 : ¬ i = 0 := by omega
    simp (disch := omega) [XO, Qw, Qu, GTerm.cells, hid]
    refine Qa (KD c hc) (by simp) ?_
    repeat' (first
  | with_reducible refine Qa (hbl (by omega)) (by simp) ?_
  | (with_reducible (first | refine Ql (fun hb_ => ?_) (fun hb_ => ?_) | refine Qk (fun hb_ => ?_) (fun hb_ => ?_)) <;> simp (disch := omega) [hb_, eqB, leB, hz])
  | simp (disch := omega) [eqB, leB, hz])
    all_goals (try simp_all [QP, Je])
 have := run _ rfl
 simpa using this
end Go.Proofs.YtclfngbealdbgaaGreat
namespace Go.Proofs.YtclfngbealdbgaaGreat
open Go Go.TL
open Go.Proofs.YtclfngbealdbgaaGreat.Ty
set_option linter.unusedSimpArgs false
set_option linter.unusedVariables false
set_option maxRecDepth 20000
set_option maxHeartbeats 4000000
def Z6 (op : Int) (nl1 : Bool) (ty : List Int) (i : Nat) (f : List Int) : Wf := if op = 9 then [(nl1, ty)] else (Qt op ty i f).map fun l => (false, l)
theorem Zoe (op : Int) (nl1 : Bool) (ty : List Int) (i : Nat) (f : List Int) : (Z6 op nl1 ty i f).map Prod.snd = Qt op ty i f := by
 unfold Z6
 split
 ·rename_i h; simp [Qt, h]
 ·simp [Function.comp_def]
abbrev V1 (c : Wf) : LV := .sl (!c.isEmpty) c.isEmpty 1 (c.map fun x => [eC x])
theorem ZkZ (g : GTerm) (op n : Int) (nl1 : Bool) (gty : List Int) (nl2 : Bool) (ks : List GTerm) (hg : g = .mk op n nl1 gty nl2 ks) (hop : 0 ≤ op ∧ op ≤ 12) (i : Nat) (hi : i ≤ 2) (nf : Bool) (f : List Int) {size : Int}
  (hf : i ≠ 0 → nf = false ∧ okL size f = true ∧ ZdM op (hd f)) : Qe Tryz.prog ZaI [g.lv, N i, L nf f] (· = V1 (Z6 op nl1 gty i f)) := by
 subst hg
 refine Qe.of_codeOf Zmi Qy (by simp) ⟨_, rfl, by simp⟩ ?_
 by_cases h9 : op = 9
 ·subst h9
  simp (disch := omega) [K9, Qw, Qu, GTerm.cells, Z6, eqB, Qn]
 ·by_cases h0 : Qq op i = 0
  ·have e : Z6 op nl1 gty i f = [] := by simp [Z6, h9, Qt, h0]
   have h9' : eqB op 9 = false := by rw [Qb]; exact h9
   simp (disch := omega) [K9, Qw, Qu, GTerm.cells, e, h9']
   refine Qa (Zhb op i) (by simp) ?_
   rw [h0]
   simp (disch := omega) [eqB]
  ·have hi0 : i ≠ 0 := by rintro rfl; apply h0; unfold Qq; rw [if_neg (by omega), if_neg (by omega)]
   obtain ⟨rfl, hf1, hf2⟩ := hf hi0
   have h9' : eqB op 9 = false := by rw [Qb]; exact h9
   have h0' : eqB (Qq op i) 0 = false := by rw [Qb]; exact h0
   have hp := ZfW (K6 hf1)
   have h3 : op = 5 ∧ i = 1 ∨ op = 8 ∨ op = 12 ∧ i = 1 := by
    unfold Qq at h0
    by_cases g : op = 5 ∧ (i : Int) = 1
    ·omega
    ·rw [if_neg g] at h0
     by_cases g : (op = 8 ∧ 0 < (i : Int)) ∨ op = 9 ∨ (op = 12 ∧ (i : Int) = 1)
     ·omega
     ·rw [if_neg g] at h0; omega
   simp (disch := omega) [K9, Qw, Qu, GTerm.cells, h9']
   refine Qa (Zhb op i) (by simp) ?_
   simp (disch := omega) [h0']
   refine Qa hp (by simp) ?_
   rcases h3 with ⟨rfl, rfl⟩ | rfl | ⟨rfl, rfl⟩
   ·rw [Zba (by rw [hf2.2.1 rfl]; exact XB.1)]
    simp (disch := omega) [eqB, Z6, Qt, Qq, Qn, QF]
   ·rw [Zba (by rw [hf2.2.2.1 rfl]; exact XB.2)]
    have : i = 1 ∨ i = 2 := by omega
    rcases this with rfl | rfl
    ·simp (disch := omega) [eqB, Z6, Qt, Qq, Qn, QF, show IntKind.i64.wrap 0 = 0 by decide]
    ·simp (disch := omega) [eqB, Z6, Qt, Qq, Qn, QF, show IntKind.i64.wrap 1 = 1 by decide]
   ·rw [ZoI (ZcK (hf2.2.2.2.2 rfl))]
    simp (disch := omega) [eqB, Z6, Qt, Qq, Qn]
end Go.Proofs.YtclfngbealdbgaaGreat
namespace Go.Proofs.YtclfngbealdbgaaGreat
open Go Go.TL
open Go.Proofs.YtclfngbealdbgaaGreat.Ty
set_option linter.unusedSimpArgs false
set_option linter.unusedVariables false
set_option maxRecDepth 20000
set_option maxHeartbeats 4000000
mutual
def TT.is : TT → LV → Prop
 | .mk ty nd ks, r => ∃ n3 n4 Qj, r = .rp [L false ty, L false nd, .sl false n3 1 Qj, N 0, .sl false n4 1 []] ∧ TT.are ks Qj
def TT.are : List TT → List (List LV) → Prop
 | [], Qj => Qj = []
 | k :: ks, Qj => ∃ r rest, Qj = [r] :: rest ∧ k.is r ∧ TT.are ks rest
end
def Res.is : Res → LV → Prop
 | .ok x, r => x.is r
 | .bad f p, r => f ≠ 0 ∧ ∃ n4, r = .rp [.sl false true 1 [], .sl false true 1 [], .sl false true 1 [], N f, L n4 p]
mutual
theorem JE : ∀ (x : TT) (r : LV), x.is r → share r = r ∧ ∀ k, Low k r
 | .mk ty nd ks, r, h => by
  simp only [TT.is] at h
  obtain ⟨n3, n4, Qj, rfl, hr⟩ := h
  obtain ⟨h1, h2⟩ := Xg ks Qj hr
  exact ⟨by simp [h1], fun k => by simp [h2 k]⟩
theorem Xg : ∀ (xs : List TT) (Qj : List (List LV)), TT.are xs Qj → Qr Qj = Qj ∧ ∀ k, Wo k Qj
 | [], Qj, h => by simp only [TT.are] at h; subst h; simp
 | x :: xs, Qj, h => by
  simp only [TT.are] at h
  obtain ⟨r, rest, rfl, h1, h2⟩ := h
  obtain ⟨q1, q2⟩ := JE x r h1
  obtain ⟨q3, q4⟩ := Xg xs rest h2
  exact ⟨by simp [q1, q3], fun k => by simp [q2 k, q4 k]⟩
end
theorem Zg4 : ∀ (xs : List TT) (Qj : List (List LV)), TT.are xs Qj → Qj.length = xs.length
 | [], Qj, h => by simp only [TT.are] at h; subst h; rfl
 | x :: xs, Qj, h => by
  simp only [TT.are] at h
  obtain ⟨r, rest, rfl, h1, h2⟩ := h
  simp [Zg4 xs rest h2]
theorem Vv : ∀ (xs : List TT) (Qj : List (List LV)) (x : TT) (r : LV), TT.are xs Qj → x.is r → TT.are (xs ++ [x]) (Qj ++ [[r]])
 | [], Qj, x, r, h, hx => by simp only [TT.are] at h; subst h; simp only [List.nil_append, TT.are]; exact ⟨r, [], rfl, hx, rfl⟩
 | y :: xs, Qj, x, r, h, hx => by
  simp only [TT.are] at h
  obtain ⟨q, rest, rfl, h1, h2⟩ := h
  simp only [List.cons_append, TT.are]
  exact ⟨q, rest ++ [[r]], rfl, h1, Vv xs rest x r h2 hx⟩
theorem Zlw : ∀ (xs : List TT) (Qj : List (List LV)) (i : Nat) (h : i < xs.length), TT.are xs Qj → ∃ r, Qj[i]? = some [r] ∧ (xs[i]).is r
 | [], Qj, i, hi, h => by simp at hi
 | x :: xs, Qj, i, hi, h => by
  simp only [TT.are] at h
  obtain ⟨r, rest, rfl, h1, h2⟩ := h
  cases i with
  | zero => exact ⟨r, rfl, h1⟩
  | succ i =>
   obtain ⟨q, h3, h4⟩ := Zlw xs rest i (by simpa using hi) h2
   exact ⟨q, by simpa using h3, by simpa using h4⟩
theorem ZpN {xs : List TT} {Qj : List (List LV)} (h : TT.are xs Qj) (u nl : Bool) (i : Nat) (hi : i < xs.length) : ∃ n3 n4 rws, QF 1 (.sl u nl 1 Qj) (i : Int) = some (.rp [.rp [L false (tyP xs i), L false (xs[i]).needs, .sl false n3 1 rws, N 0, .sl false n4 1 []]]) ∧ TT.are (xs[i]).kids rws := by
 obtain ⟨r, h1, h2⟩ := Zlw xs Qj i hi h
 have hl := Zg4 xs Qj h
 have e : tyP xs i = (xs[i]).ty := by unfold tyP; rw [List.getD_eq_getElem?_getD, List.getElem?_eq_getElem hi]; rfl
 rw [e]
 generalize xs[i] = x at *
 obtain ⟨ty, nd, ks⟩ := x
 simp only [TT.is] at h2
 obtain ⟨n3, n4, rws, rfl, h3⟩ := h2
 refine ⟨n3, n4, rws, ?_, h3⟩
 simp only [QF]
 rw [if_pos ⟨trivial, by omega, by omega⟩]
 have hs := (Xg ks rws h3).1
 simp [List.getD_eq_getElem?_getD, h1, hs]
abbrev ZfA (T nd : LV) (u3 n3 : Bool) (Qj : List (List LV)) : Box := some [T, nd, .sl u3 n3 1 Qj, N 0, .sl true true 1 []]
theorem ZnY {ds : List TT} {Qj : List (List LV)} (h : TT.are ds Qj) (T nd : LV) (u3 n3 : Bool) (b0 b1 b2 : Box) (hr : List Box) (i : Nat) (hi : i < ds.length) :
  QK Tryz.prog XE [N i, .rp [.ptr 3 0]] (b0 :: b1 :: b2 :: ZfA T nd u3 n3 Qj :: hr) (fun r h' => r = L false (tyP ds i) ∧ h' = b0 :: b1 :: b2 :: ZfA T nd u3 n3 Qj :: hr) := by
 refine QK.of_codeOf ZaF Qy (by simp) ⟨_, _, rfl, rfl⟩ ?_
 obtain ⟨n3', n4, rws, hix, hrw⟩ := ZpN h false n3 i hi
 have hs := (Xg ds Qj h).1
 have hs2 := (Xg _ rws hrw).1
 simp (disch := omega) [Jd, hs, hix, hs2]
 refine QO (.inr rfl) (by simp) ⟨by simp, rfl⟩
end Go.Proofs.YtclfngbealdbgaaGreat
