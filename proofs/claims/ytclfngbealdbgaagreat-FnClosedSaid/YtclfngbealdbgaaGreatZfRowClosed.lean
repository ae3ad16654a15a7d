/- Part 6 of the proof of the row of the text YtclfngbealdbgaaGreatZRowClosed: texts joined. No conditions. -/
import Derived.Test.YtclfngbealdbgaaGreatZeRowClosed
set_option linter.unusedSimpArgs false
set_option linter.unusedVariables false
set_option linter.unusedSectionVars false
namespace Go.Proofs.YtclfngbealdbgaaGreat
open Go Go.TL
open Go.Proofs.YtclfngbealdbgaaGreat.Ty
set_option linter.unusedSimpArgs false
set_option linter.unusedVariables false
set_option maxRecDepth 20000
set_option maxHeartbeats 4000000
theorem Zpc (u u' nl : Bool) (sz sz' : Nat) (xs : List (List LV)) : Xg .slc .eql (.sl u nl sz xs) (.sl u' true sz' []) = some (B nl) := rfl
theorem Zcr (nl : Bool) (l : List Int) (hl : l.length ≤ 1099511627776) : Qe Tryz.prog Wp [L nl l] (· = cl nl l) := by
 refine Qe.of_codeOf Vu QA (by simp) ⟨_, rfl, by unfold cl; split <;> simp⟩ ?_
 have hm : l.length ≤ most := hl
 cases nl
 ·simp (disch := omega) [X4, Zpc, Ql, WF, hm, cl]
 ·simp (disch := omega) [X4, Zpc, cl]
theorem Zim (n1 n2 : Bool) (a b : List Int) (ha : a.length ≤ 1099511627776) : Qe Tryz.prog WG [L n1 a, L n2 b] (· = B (a == b)) := by
 generalize hq : (a == b) = q
 refine Qe.of_codeOf Vx QA (by simp) ⟨_, rfl, by simp⟩ ?_
 simp (disch := omega) [ZI]
 (with_reducible first | refine Qo (fun h1 => ?_) (fun h1 => ?_) | refine Qn (fun h1 => ?_) (fun h1 => ?_))
 ·simp (disch := omega) [h1]
  simp only [Qh, Qg, Qm, Qj, Qd, Qc, Bool.not_true, Bool.not_false] at h1
  refine Xm a.length 0 (fun i t _ => t 13 = N i ∧ q = (a.drop i == b.drop i)) (by simp [hq]) (by omega) ?_
  rintro i t1 hh hf hi ⟨e13, hj⟩
  (have e0 := hf 0 (by kernel_rfl); have e1 := hf 1 (by kernel_rfl); have e12 := hf 12 (by kernel_rfl); clear hf; simp [] at e0 e1 e12)
  simp (disch := omega) [e0, e1, e12, e13]
  (with_reducible first | refine Qo (fun h6 => ?_) (fun h6 => ?_) | refine Qn (fun h6 => ?_) (fun h6 => ?_))
  ·simp only [Qh, Qg, Qm, Qj, Qd, Qc, Bool.not_true, Bool.not_false] at h6
   have hd1 := List.drop_eq_getElem_cons (l := a) (i := i) (by omega)
   have hd2 := List.drop_eq_getElem_cons (l := b) (i := i) (by omega)
   have hq2 : q = (a[i]'(by omega) == b[i]'(by omega) && (a.drop (i + 1) == b.drop (i + 1))) := by rw [hj, hd1, hd2]; rfl
   clear hd1 hd2 hj
   simp (disch := omega) [e0, e1, e12, e13, W9]
   repeat' (first
  | (with_reducible (first | refine Qo (fun hb_ => ?_) (fun hb_ => ?_) | refine Qn (fun hb_ => ?_) (fun hb_ => ?_)) <;> simp (disch := omega) [hb_, e0, e1, e12, e13, Qf])
  | simp (disch := omega) [e0, e1, e12, e13, Qf])
   all_goals simp only [Qh, Qg, Qm, Qj, Qd, Qc, Bool.not_true, Bool.not_false] at hb_
   ·exact ⟨by omega, by simp [hq2, hb_]⟩
   ·simp [hq2, hb_]
  ·simp only [Qh, Qg, Qm, Qj, Qd, Qc, Bool.not_true, Bool.not_false] at h6
   simp (disch := omega)
   rw [hj, List.drop_of_length_le (by omega), List.drop_of_length_le (by omega)]; simp
 ·simp (disch := omega) [h1]
  simp only [Qh, Qg, Qm, Qj, Qd, Qc, Bool.not_true, Bool.not_false] at h1
  rw [← hq]; simp; intro h; exact h1 (by rw [h])
def KA (l : List Int) : List (List Int) := match Wr (hd l) with
 | some 2 => [QI l, Wv l]
 | some 1 => [QI l]
 | _ => []
theorem Zax {l : List Int} (h : Wr (hd l) = some 2) : KA l = [QI l, Wv l] := by simp [KA, h]
theorem ZnZ {l : List Int} (h : Wr (hd l) = some 1) : KA l = [QI l] := by simp [KA, h]
theorem ZfV {l : List Int} (h : wty l = true) : Qe Tryz.prog ZA [L false l] (· = .sl (!(KA l).isEmpty) (KA l).isEmpty 1 ((KA l).map fun p => [L false p])) := by
 obtain ⟨⟨c, ks⟩, h3, rfl, h5⟩ := ZnH h
 have := parts_ok c ks h3 (by omega) (fun n hn => by have := ZpD h n hn; unfold I64; omega)
 simp only [RT.ok] at h3
 have e : Qk ks = (KA (RT.nd c ks).flat).map (fun p => [L false p]) ∧ (KA (RT.nd c ks).flat).isEmpty = ks.isEmpty := by
  match ks, h3 with
  | [], h3 => simp [KA, RT.flat, h3.1, Qk]
  | [a], h3 =>
   simp only [oks] at h3
   have q := ZaZ (c := c) (r := []) h3.2.1
   rw [List.append_nil] at q
   simp [KA, RT.flat, WB, h3.1, Qk, q]
  | [a, b], h3 =>
   simp only [oks] at h3
   have q := ZaZ (c := c) (r := b.flat) h3.2.1
   have q1 := ZaJ (c := c) (r := b.flat) h3.2.1
   simp [KA, RT.flat, WB, h3.1, Qk, q, q1]
  | _ :: _ :: _ :: _, h3 =>
   have := Zns h3.1
   simp at this
 rw [e.1, ← e.2] at this
 exact this
theorem ZbC {s : GSys} (t : s.Tab) (g : GTerm) (op n : Int) (nl1 : Bool) (gty : List Int) (nl2 : Bool) (ks : List GTerm) (hg : g = .mk op n nl1 gty nl2 ks) (i : Nat) (hi : i ≤ 3) (ty : List Int) (hty : okL s.size ty = true) (hop : 0 ≤ op ∧ op ≤ 12) (hn : op = 5 ∨ op = 8 ∨ op = 12 → s.G n) :
  Qe Tryz.prog YQ [s.lv, g.lv, N i, L false ty] (· = N (QK s op n i (hd ty))) := by
 subst hg
 have hh := X5 hty
 obtain ⟨c, tl, rfl⟩ : ∃ c tl, ty = c :: tl := by
  cases ty with
  | nil => exact absurd rfl hh.2.2.2.1
  | cons c tl => exact ⟨c, tl, rfl⟩
 have hc : I64 c := by unfold I64; simp at hh; omega
 have hid : QN 1 (L false (c :: tl)) 0 = some (.rp [N c]) := by
  have := W9 (c :: tl) false false 0 (by omega) (by simp)
  simpa using this
 have hbl : op = 5 ∨ op = 8 ∨ op = 12 → Qe Tryz.prog Qz [s.lv, N 1, N n] (· = B (s.le 1 n)) := fun h => Ju t (GSys.G1 t) (hn h)
 refine Qe.of_codeOf ZaM QA (by simp) ⟨_, rfl, by simp⟩ ?_
 have run : ∀ (q : Int), q = QK s op n i c → wpC Tryz.prog XR (fun e s => (e = Exit.normal ∨ e = Exit.ret) ∧ Low 0 (s.t 8) ∧ s.t 8 = N q) { t := env [s.lv, (GTerm.mk op n nl1 gty nl2 ks).lv, N i, L false (c :: tl)], h := [] } := by
  intro q hq
  have h13 : op = 0 ∨ op = 1 ∨ op = 2 ∨ op = 3 ∨ op = 4 ∨ op = 5 ∨ op = 6 ∨ op = 7 ∨ op = 8 ∨ op = 9 ∨ op = 10 ∨ op = 11 ∨ op = 12 := by omega
  subst hq
  rcases h13 with rfl | rfl | rfl | rfl | rfl | rfl | rfl | rfl | rfl | rfl | rfl | rfl | rfl
  all_goals
   rcases Nat.eq_zero_or_pos i with rfl | hp
   ·simp (disch := omega) [XR, Qw, Qs, GTerm.cells, hid]
    refine Qa (V1 c hc) (by simp) ?_
    repeat' (first
  | with_reducible refine Qa (hbl (by omega)) (by simp) ?_
  | (with_reducible (first | refine Qo (fun hb_ => ?_) (fun hb_ => ?_) | refine Qn (fun hb_ => ?_) (fun hb_ => ?_)) <;> simp (disch := omega) [hb_, eqB, leB])
  | simp (disch := omega) [eqB, leB])
    all_goals (try simp_all [QK, Jc])
   ·have hz : ¬ (i : Int) = 0 := by omega
    have hz2 : ¬ i = 0 := by omega
    simp (disch := omega) [XR, Qw, Qs, GTerm.cells, hid]
    refine Qa (V1 c hc) (by simp) ?_
    repeat' (first
  | with_reducible refine Qa (hbl (by omega)) (by simp) ?_
  | (with_reducible (first | refine Qo (fun hb_ => ?_) (fun hb_ => ?_) | refine Qn (fun hb_ => ?_) (fun hb_ => ?_)) <;> simp (disch := omega) [hb_, eqB, leB, hz])
  | simp (disch := omega) [eqB, leB, hz])
    all_goals (try simp_all [QK, Jc])
 have := run _ rfl
 simpa using this
end Go.Proofs.YtclfngbealdbgaaGreat
namespace Go.Proofs.YtclfngbealdbgaaGreat
open Go Go.TL
open Go.Proofs.YtclfngbealdbgaaGreat.Ty
set_option linter.unusedSimpArgs false
set_option linter.unusedVariables false
set_option maxRecDepth 20000
set_option maxHeartbeats 4000000
def Z8 (op : Int) (nl1 : Bool) (ty : List Int) (i : Nat) (f : List Int) : Wk := if op = 9 then [(nl1, ty)] else (QB op ty i f).map fun l => (false, l)
theorem ZoE (op : Int) (nl1 : Bool) (ty : List Int) (i : Nat) (f : List Int) : (Z8 op nl1 ty i f).map Prod.snd = QB op ty i f := by
 unfold Z8
 split
 ·rename_i h; simp [QB, h]
 ·simp [Function.comp_def]
abbrev VS (c : Wk) : LV := .sl (!c.isEmpty) c.isEmpty 1 (c.map fun x => [eC x])
theorem Zkl (g : GTerm) (op n : Int) (nl1 : Bool) (gty : List Int) (nl2 : Bool) (ks : List GTerm) (hg : g = .mk op n nl1 gty nl2 ks) (hop : 0 ≤ op ∧ op ≤ 12) (i : Nat) (hi : i ≤ 2) (nf : Bool) (f : List Int) {size : Int}
  (hf : i ≠ 0 → nf = false ∧ okL size f = true ∧ ZdU op (hd f)) : Qe Tryz.prog ZaY [g.lv, N i, L nf f] (· = VS (Z8 op nl1 gty i f)) := by
 subst hg
 refine Qe.of_codeOf ZlS QA (by simp) ⟨_, rfl, by simp⟩ ?_
 by_cases h9 : op = 9
 ·subst h9
  simp (disch := omega) [KN, Qw, Qs, GTerm.cells, Z8, eqB, Ql]
 ·by_cases h0 : Qt op i = 0
  ·have e : Z8 op nl1 gty i f = [] := by simp [Z8, h9, QB, h0]
   have h9' : eqB op 9 = false := by rw [Qc]; exact h9
   simp (disch := omega) [KN, Qw, Qs, GTerm.cells, e, h9']
   refine Qa (Zlm op i) (by simp) ?_
   rw [h0]
   simp (disch := omega) [eqB]
  ·have hi0 : i ≠ 0 := by rintro rfl; apply h0; unfold Qt; rw [if_neg (by omega), if_neg (by omega)]
   obtain ⟨rfl, hf1, hf2⟩ := hf hi0
   have h9' : eqB op 9 = false := by rw [Qc]; exact h9
   have h0' : eqB (Qt op i) 0 = false := by rw [Qc]; exact h0
   have hp := ZfV (Yi hf1)
   have h3 : op = 5 ∧ i = 1 ∨ op = 8 ∨ op = 12 ∧ i = 1 := by
    unfold Qt at h0
    by_cases g : op = 5 ∧ (i : Int) = 1
    ·omega
    ·rw [if_neg g] at h0
     by_cases g : (op = 8 ∧ 0 < (i : Int)) ∨ op = 9 ∨ (op = 12 ∧ (i : Int) = 1)
     ·omega
     ·rw [if_neg g] at h0; omega
   simp (disch := omega) [KN, Qw, Qs, GTerm.cells, h9']
   refine Qa (Zlm op i) (by simp) ?_
   simp (disch := omega) [h0']
   refine Qa hp (by simp) ?_
   rcases h3 with ⟨rfl, rfl⟩ | rfl | ⟨rfl, rfl⟩
   ·rw [Zax (by rw [hf2.2.1 rfl]; exact Xo.1)]
    simp (disch := omega) [eqB, Z8, QB, Qt, Ql, QN]
   ·rw [Zax (by rw [hf2.2.2.1 rfl]; exact Xo.2)]
    have : i = 1 ∨ i = 2 := by omega
    rcases this with rfl | rfl
    ·simp (disch := omega) [eqB, Z8, QB, Qt, Ql, QN, show IntKind.i64.wrap 0 = 0 by decide]
    ·simp (disch := omega) [eqB, Z8, QB, Qt, Ql, QN, show IntKind.i64.wrap 1 = 1 by decide]
   ·rw [ZnZ (ZcD (hf2.2.2.2.2 rfl))]
    simp (disch := omega) [eqB, Z8, QB, Qt, Ql]
end Go.Proofs.YtclfngbealdbgaaGreat
namespace Go.Proofs.YtclfngbealdbgaaGreat
open Go Go.TL
open Go.Proofs.YtclfngbealdbgaaGreat.Ty
set_option linter.unusedSimpArgs false
set_option linter.unusedVariables false
set_option maxRecDepth 20000
set_option maxHeartbeats 4000000
mutual
def TT.is : TT → LV → Prop
 | .mk ty nd ks, r => ∃ n3 n4 Qk, r = .rp [L false ty, L false nd, .sl false n3 1 Qk, N 0, .sl false n4 1 []] ∧ TT.are ks Qk
def TT.are : List TT → List (List LV) → Prop
 | [], Qk => Qk = []
 | k :: ks, Qk => ∃ r rest, Qk = [r] :: rest ∧ k.is r ∧ TT.are ks rest
end
def Res.is : Res → LV → Prop
 | .ok x, r => x.is r
 | .bad f p, r => f ≠ 0 ∧ ∃ n4, r = .rp [.sl false true 1 [], .sl false true 1 [], .sl false true 1 [], N f, L n4 p]
mutual
theorem ZmJ : ∀ (x : TT) (r : LV), x.is r → share r = r ∧ ∀ k, Low k r
 | .mk ty nd ks, r, h => by
  simp only [TT.is] at h
  obtain ⟨n3, n4, Qk, rfl, hr⟩ := h
  obtain ⟨h1, h2⟩ := Xu ks Qk hr
  exact ⟨by simp [h1], fun k => by simp [h2 k]⟩
theorem Xu : ∀ (xs : List TT) (Qk : List (List LV)), TT.are xs Qk → Qu Qk = Qk ∧ ∀ k, Ws k Qk
 | [], Qk, h => by simp only [TT.are] at h; subst h; simp
 | x :: xs, Qk, h => by
  simp only [TT.are] at h
  obtain ⟨r, rest, rfl, h1, h2⟩ := h
  obtain ⟨q1, q2⟩ := ZmJ x r h1
  obtain ⟨q3, q4⟩ := Xu xs rest h2
  exact ⟨by simp [q1, q3], fun k => by simp [q2 k, q4 k]⟩
end
theorem ZlE : ∀ (xs : List TT) (Qk : List (List LV)), TT.are xs Qk → Qk.length = xs.length
 | [], Qk, h => by simp only [TT.are] at h; subst h; rfl
 | x :: xs, Qk, h => by
  simp only [TT.are] at h
  obtain ⟨r, rest, rfl, h1, h2⟩ := h
  simp [ZlE xs rest h2]
theorem Va : ∀ (xs : List TT) (Qk : List (List LV)) (x : TT) (r : LV), TT.are xs Qk → x.is r → TT.are (xs ++ [x]) (Qk ++ [[r]])
 | [], Qk, x, r, h, hx => by simp only [TT.are] at h; subst h; simp only [List.nil_append, TT.are]; exact ⟨r, [], rfl, hx, rfl⟩
 | y :: xs, Qk, x, r, h, hx => by
  simp only [TT.are] at h
  obtain ⟨q, rest, rfl, h1, h2⟩ := h
  simp only [List.cons_append, TT.are]
  exact ⟨q, rest ++ [[r]], rfl, h1, Va xs rest x r h2 hx⟩
theorem are_at : ∀ (xs : List TT) (Qk : List (List LV)) (i : Nat) (h : i < xs.length), TT.are xs Qk → ∃ r, Qk[i]? = some [r] ∧ (xs[i]).is r
 | [], Qk, i, hi, h => by simp at hi
 | x :: xs, Qk, i, hi, h => by
  simp only [TT.are] at h
  obtain ⟨r, rest, rfl, h1, h2⟩ := h
  cases i with
  | zero => exact ⟨r, rfl, h1⟩
  | succ i =>
   obtain ⟨q, h3, h4⟩ := are_at xs rest i (by simpa using hi) h2
   exact ⟨q, by simpa using h3, by simpa using h4⟩
theorem ZpC {xs : List TT} {Qk : List (List LV)} (h : TT.are xs Qk) (u nl : Bool) (i : Nat) (hi : i < xs.length) : ∃ n3 n4 rws, QN 1 (.sl u nl 1 Qk) (i : Int) = some (.rp [.rp [L false (tyP xs i), L false (xs[i]).needs, .sl false n3 1 rws, N 0, .sl false n4 1 []]]) ∧ TT.are (xs[i]).kids rws := by
 obtain ⟨r, h1, h2⟩ := are_at xs Qk i hi h
 have hl := ZlE xs Qk h
 have e : tyP xs i = (xs[i]).ty := by unfold tyP; rw [List.getD_eq_getElem?_getD, List.getElem?_eq_getElem hi]; rfl
 rw [e]
 generalize xs[i] = x at *
 obtain ⟨ty, nd, ks⟩ := x
 simp only [TT.is] at h2
 obtain ⟨n3, n4, rws, rfl, h3⟩ := h2
 refine ⟨n3, n4, rws, ?_, h3⟩
 simp only [QN]
 rw [if_pos ⟨trivial, by omega, by omega⟩]
 have hs := (Xu ks rws h3).1
 simp [List.getD_eq_getElem?_getD, h1, hs]
abbrev ZfA (T nd : LV) (u3 n3 : Bool) (Qk : List (List LV)) : Box := some [T, nd, .sl u3 n3 1 Qk, N 0, .sl true true 1 []]
theorem Zmt {ds : List TT} {Qk : List (List LV)} (h : TT.are ds Qk) (T nd : LV) (u3 n3 : Bool) (b0 b1 b2 : Box) (hr : List Box) (i : Nat) (hi : i < ds.length) :
  Q7 Tryz.prog XG [N i, .rp [.ptr 3 0]] (b0 :: b1 :: b2 :: ZfA T nd u3 n3 Qk :: hr) (fun r h' => r = L false (tyP ds i) ∧ h' = b0 :: b1 :: b2 :: ZfA T nd u3 n3 Qk :: hr) := by
 refine Q7.of_codeOf V9 QA (by simp) ⟨_, _, rfl, rfl⟩ ?_
 obtain ⟨n3', n4, rws, hix, hrw⟩ := ZpC h false n3 i hi
 have hs := (Xu ds Qk h).1
 have hs2 := (Xu _ rws hrw).1
 simp (disch := omega) [Jd, hs, hix, hs2]
 refine Q5 (.inr rfl) (by simp) ⟨by simp, rfl⟩
end Go.Proofs.YtclfngbealdbgaaGreat
namespace Go.Proofs.YtclfngbealdbgaaGreat
open Go Go.TL
open Go.Proofs.YtclfngbealdbgaaGreat.Ty
set_option linter.unusedSimpArgs false
set_option linter.unusedVariables false
set_option maxRecDepth 20000
set_option maxHeartbeats 4000000
theorem Zda (p : Int → Bool) : ∀ (n g : Nat), YL p g n = -1 ∨ ((g : Int) ≤ YL p g n ∧ YL p g n < g + n)
 | 0, g => .inl rfl
 | n + 1, g => by
  unfold YL
  split
  ·right; omega
  ·rcases Zda p n (g + 1) with h | h
   ·exact .inl h
   ·right; omega
theorem Zee {s : GSys} (hs : s.sys = true) {a b : Int} (ha : s.G a) (hb : s.G b) : s.G (s.join a b) := by
 have t := GSys.sys_of hs
 have h2 : leB 0 (s.join a b) = true := by
  unfold GSys.sys at hs
  rw [Bool.and_eq_true, YX] at hs
  have h := hs.2 a.toNat (by have := ha.1; have := ha.2; omega)
  unfold GSys.sysB at h
  rw [Bool.and_eq_true, YX] at h
  have h := h.2 b.toNat (by have := hb.1; have := hb.2; omega)
  unfold GSys.sysC at h
  rw [Bool.and_eq_true] at h
  have h := h.1
  unfold GSys.two at h
  simp only [Bool.and_eq_true] at h
  have e1 : ((a.toNat : Nat) : Int) = a := by have := ha.1; omega
  have e2 : ((b.toNat : Nat) : Int) = b := by have := hb.1; omega
  rw [e1, e2] at h
  exact h.2
 rw [Qm] at h2
 have := Zda (s.isJoin a b) s.size.toNat 0
 unfold GSys.join at h2 ⊢
 have := t.lo
 exact ⟨h2, by omega⟩
theorem ZkY {s : GSys} (hs : s.sys = true) {a b : List Int} (u : Int) (hu : u ∈ Jb s a b) (ha : ∀ u ∈ a, s.G u) (hb : ∀ u ∈ b, s.G u) : s.G u := by
 unfold Jb at hu
 rw [List.mem_iff_getElem] at hu
 obtain ⟨i, hi, rfl⟩ := hu
 simp only [List.length_zipWith] at hi
 rw [List.getElem_zipWith]
 exact Zee hs (ha _ (List.getElem_mem _)) (hb _ (List.getElem_mem _))
theorem ZL {l : List Int} (h : l ≠ []) : QN 1 (L false l) 0 = some (.rp [N (hd l)]) := by
 cases l with
 | nil => exact absurd rfl h
 | cons c l =>
  have := W9 (c :: l) false false 0 (by omega) (by simp)
  simpa using this
theorem cat3 (x : Int) (na nb : Bool) (a b : List Int) (ha : a.length ≤ 1000) (hb : b.length ≤ 1000) :
  Qe Tryz.prog QV [.sl false false 1 [[.sl false false 1 [[N x]]], [L na a], [L nb b]]] (· = OU true false (x :: (a ++ b))) := by
 have h := Zil [(false, [x]), (na, a), (nb, b)] (by simp) (by simp [lnI]; omega)
 have e : flI [(false, [x]), (na, a), (nb, b)] = x :: (a ++ b) := by simp [flI]
 have e2 : ltB 0 ((x :: (a ++ b)).length : Int) = true := by rw [Qh]; simp <;> omega
 rw [e] at h
 unfold catI at h
 rw [e2] at h
 exact h
theorem cat2 (x : Int) (na : Bool) (a : List Int) (ha : a.length ≤ 1000) :
  Qe Tryz.prog QV [.sl false false 1 [[.sl false false 1 [[N x]]], [L na a]]] (· = OU true false (x :: a)) := by
 have h := Zil [(false, [x]), (na, a)] (by simp) (by simp [lnI]; omega)
 have e : flI [(false, [x]), (na, a)] = x :: a := by simp [flI]
 have e2 : ltB 0 ((x :: a).length : Int) = true := by rw [Qh]; simp <;> omega
 rw [e] at h
 unfold catI at h
 rw [e2] at h
 exact h
def FinR (q : Int × List Int × List Int) (m : Nat) (u3 n3 : Bool) (Qk : List (List LV)) (r : LV) (h' : List Box) : Prop := r = N q.1 ∧ ∃ T nd c2 hr', h' = none :: none :: c2 :: ZfA T nd u3 n3 Qk :: hr' ∧
 (q.1 = 0 → (∃ u, T = OU u false q.2.1) ∧ ((∃ u, nd = OU u false q.2.2) ∨ (nd = .ha 2 1 0 m m ∧ c2 = some (q.2.2.map N) ∧ q.2.2.length = m)))
theorem Zon {s : GSys} (hsy : s.sys = true) (nlc : Bool) (ctx : Wk) (hcl : ctx.length ≤ 100000) (hc : ∀ c ∈ ctx, okL s.size c.2 = true) (hcf : ∀ c ∈ ctx, c.1 = false) (op n : Int) (nl1 : Bool) (gty : List Int) (nl2 : Bool) (ks : List GTerm) (ds : List TT)
  (no : NodeOk s ctx.length op n gty ds.length) (k : KidsOk s ctx.length op n ds) (Qk : List (List LV)) (hrw : TT.are ds Qk) (u3 n3 nn nu : Bool) (nds uds : Wk)
  (hnd : ∀ i, i < ds.length → QN 1 (LC nn nds) (i : Int) = some (.rp [L false (ndP op ds i)])) (hud : ∀ i, i < ds.length → ∃ f, QN 1 (LC nu uds) (i : Int) = some (.rp [L f (usP op ds i)])) (hr : List Box) (m : Nat) (hm : ctx.length = m) :
  Q7 Tryz.prog Za [s.lv, .ptr 3 0, LC nlc ctx, (GTerm.mk op n nl1 gty nl2 ks).lv, LC nn nds, LC nu uds] (none :: none :: some ((WC m).map N) :: ZfA (.sl true true 1 []) (.ha 2 1 0 m m) u3 n3 Qk :: hr)
   (FinR (WE s (ctx.map Prod.snd) op n gty ds) m u3 n3 Qk) := by
 subst hm
 have t := GSys.sys_of hsy
 have h16 := t.hi
 obtain ⟨many, hvar, hgr, hty, o1, o2⟩ := no
 have get : ∀ i, i < ds.length → ∃ x, ds[i]? = some x ∧ x.good s (ctx.length + (Qt op i).toNat) := fun i hi =>
  ⟨_, List.getElem?_eq_getElem hi, (k.each i _ (List.getElem?_eq_getElem hi)).1⟩
 have tyG : ∀ i, i < ds.length → okL s.size (tyP ds i) = true := fun i hi => by
  obtain ⟨x, h1, h2⟩ := get i hi
  unfold tyP; rw [List.getD_eq_getElem?_getD, h1]; exact h2.1
 have ndL : ∀ i, i < ds.length → (ndP op ds i).length = ctx.length := fun i hi => by
  obtain ⟨x, h1, h2⟩ := get i hi
  unfold ndP; rw [List.getD_eq_getElem?_getD, h1]; exact (Zcv h2).1
 have ndG : ∀ i, i < ds.length → ∀ u ∈ ndP op ds i, s.G u := fun i hi => by
  obtain ⟨x, h1, h2⟩ := get i hi
  unfold ndP; rw [List.getD_eq_getElem?_getD, h1]; exact (Zcv h2).2
 have usL : ∀ i, i < ds.length → (usP op ds i).length ≤ 1099511627776 := fun i hi => by
  unfold usP; rw [List.length_take]; have := Zv op i; omega
 have usG : ∀ i, i < ds.length → ∀ u ∈ usP op ds i, s.G u := fun i hi u hu => by
  obtain ⟨x, h1, h2⟩ := get i hi
  unfold usP at hu; rw [List.getD_eq_getElem?_getD, h1] at hu; exact h2.2.2 u (List.mem_of_mem_take hu)
 have fst : 0 < ds.length → ZdU op (hd (tyP ds 0)) := fun hi => (k.first (by rintro rfl; simp at hi)).2.1
 have kid : ∀ (T nd : LV) (b0 b1 b2 : Box) (hr : List Box) (i : Nat) (hi : i < ds.length), Q7 Tryz.prog XG [N i, .rp [.ptr 3 0]] (b0 :: b1 :: b2 :: ZfA T nd u3 n3 Qk :: hr) (fun r h' => r = L false (tyP ds i) ∧ h' = b0 :: b1 :: b2 :: ZfA T nd u3 n3 Qk :: hr) :=
  fun T nd b0 b1 b2 hr i hi => Zmt hrw T nd u3 n3 b0 b1 b2 hr i hi
 have sumc := fun (n1 n2 : Bool) (a b : List Int) (h1 : a.length = ctx.length) (h2 : b.length = ctx.length) (ha : ∀ u ∈ a, s.G u) (hb : ∀ u ∈ b, s.G u) => sumF_ok t n1 n2 a b (by omega) (by omega) ha hb
 have eqc := fun (n1 n2 : Bool) (i j : Nat) (hi : i < ds.length) => Zim n1 n2 (tyP ds i) (tyP ds j) (by have := QF (tyG i hi); omega)
 have lg := fun (l : List Int) => long_ok false false l
 have hidx : ∀ (i : Nat) (h : i < ctx.length), QN 1 (LC nlc ctx) (i : Int) = some (.rp [eC ctx[i]]) := fun i h => KI ctx nlc i h
 have hex : ∃ r h', FinR (WE s (ctx.map Prod.snd) op n gty ds) ctx.length u3 n3 Qk r h' := ⟨_, _, rfl, OU true false (WE s (ctx.map Prod.snd) op n gty ds).2.1, OU true false (WE s (ctx.map Prod.snd) op n gty ds).2.2, none, [], rfl, fun _ => ⟨⟨true, rfl⟩, .inl ⟨true, rfl⟩⟩⟩
 have hops : op = 0 ∨ op = 1 ∨ op = 2 ∨ op = 3 ∨ op = 4 ∨ op = 5 ∨ op = 6 ∨ op = 7 ∨ op = 8 ∨ op = 9 ∨ op = 10 ∨ op = 11 ∨ op = 12 := by omega
 refine Q7.of_codeOf Zbs QA (by simp) hex ?_
 rcases hops with e | e | e | e | e | e | e | e | e | e | e | e | e
 all_goals subst e
 all_goals simp [YG] at many
 ·obtain ⟨v0, v1⟩ := hvar rfl
  obtain ⟨v, rfl⟩ : ∃ v : Nat, n = v := ⟨n.toNat, by omega⟩
  have hv : v < ctx.length := by omega
  have hx := hidx v hv
  have hxo := hc _ (List.getElem_mem hv)
  have hxf := hcf _ (List.getElem_mem hv)
  have hget : (ctx.map Prod.snd)[v]? = some (ctx[v].2) := by simp [hv]
  generalize ctx[v] = c at hx hxo hxf hget
  obtain ⟨cf, cl⟩ := c
  simp only at hxo hxf hget
  subst hxf
  have hlen := QF hxo
  simp (disch := omega) [QJ, Qw, Qs, GTerm.cells, eqB, hx]
  refine Qa (Zcr false cl (by omega)) (by simp) ?_
  have hzl : (WC (List.length ctx)).length = List.length ctx := by simp [WC]
  simp (disch := omega) [Go.Proofs.YtclfngbealdbgaaGreat.cl, ZlU, hzl]
  refine ⟨by omega, ?_⟩
  refine Qa (lg cl) (by simp) ?_
  have hlb : ltB 40 cl.length = false := by rw [Qg]; omega
  simp (disch := omega) [hlb]
  refine Q5 (.inr rfl) (by simp) ⟨by simp [WE], _, _, _, _, rfl, fun _ => ?_⟩
  simp [WE, hget]
  refine ⟨?_, hzl⟩
  rw [List.set_eq_take_append_cons_drop, if_pos (by rw [List.length_map, hzl]; omega)]
 ·simp (disch := omega) [QJ, Qw, Qs, GTerm.cells, eqB, Ql]
  refine Qa (lg [0]) (by simp) ?_
  simp (disch := omega) [ltB]
  refine Q5 (.inr rfl) (by simp) ⟨by simp [WE], _, _, _, _, rfl, fun _ => ?_⟩
  simp [WE, WC]
 ·have i0 : QN 1 (LC nn nds) 0 = some (.rp [L false (ndP 2 ds 0)]) := hnd 0 (by omega)
  have a0 := ndL 0 (by omega)
  have b0 := ndG 0 (by omega)
  have l0 := QF (tyG 0 (by omega))
  have i1 : QN 1 (LC nn nds) 1 = some (.rp [L false (ndP 2 ds 1)]) := hnd 1 (by omega)
  have a1 := ndL 1 (by omega)
  have b1 := ndG 1 (by omega)
  have l1 := QF (tyG 1 (by omega))
  simp (disch := omega) [QJ, Qw, Qs, GTerm.cells, eqB, i0, i1, Ql]
  refine Qa (sumc false false _ _ a0 a1 b0 b1) (by simp) ?_
  simp (disch := omega) [i0, i1, Ql]
  refine Qa (lg [0]) (by simp) ?_
  simp (disch := omega) [ltB]
  refine Q5 (.inr rfl) (by simp) ⟨by simp [WE], _, _, _, _, rfl, fun _ => ?_⟩
  simp [WE]
 ·have i0 : QN 1 (LC nn nds) 0 = some (.rp [L false (ndP 3 ds 0)]) := hnd 0 (by omega)
  have a0 := ndL 0 (by omega)
  have b0 := ndG 0 (by omega)
  have l0 := QF (tyG 0 (by omega))
  have i1 : QN 1 (LC nn nds) 1 = some (.rp [L false (ndP 3 ds 1)]) := hnd 1 (by omega)
  have a1 := ndL 1 (by omega)
  have b1 := ndG 1 (by omega)
  have l1 := QF (tyG 1 (by omega))
  have i2 : QN 1 (LC nn nds) 2 = some (.rp [L false (ndP 3 ds 2)]) := hnd 2 (by omega)
  have a2 := ndL 2 (by omega)
  have b2 := ndG 2 (by omega)
  have l2 := QF (tyG 2 (by omega))
  simp (disch := omega) [QJ, Qw, Qs, GTerm.cells, eqB, i0, i1, i2, Ql]
  refine WH (kid _ _ _ _ _ _ 1 (by omega)) ?_
  rintro r h' ⟨rfl, rfl⟩
  simp (disch := omega) [i0, i1, i2, Ql]
  refine WH (kid _ _ _ _ _ _ 2 (by omega)) ?_
  rintro r h' ⟨rfl, rfl⟩
  simp (disch := omega) [i0, i1, i2, Ql]
  refine Qa (eqc false false 1 2 (by omega)) (by simp) ?_
  cases he : (tyP ds 1 == tyP ds 2)
  ·simp (disch := omega)
   have he' : tyP ds 1 ≠ tyP ds 2 := by simpa using he
   exact Q5 (.inr rfl) (by simp) ⟨by simp [WE, he'], _, _, _, _, rfl, fun h => by simp [WE, he'] at h⟩
  ·simp (disch := omega) [i0, i1, i2, Ql]
   have he' : tyP ds 1 = tyP ds 2 := by simpa using he
   refine WH (kid _ _ _ _ _ _ 1 (by omega)) ?_
   rintro r h' ⟨rfl, rfl⟩
   simp (disch := omega) [i0, i1, i2, Ql]
   have jo := ZcB (s := s) a1 a2
   have jg : ∀ u ∈ Jb s (ndP 3 ds 1) (ndP 3 ds 2), s.G u := fun u hu => ZkY hsy u hu b1 b2
   refine Qa (ZmX t false false _ _ (by omega) (by omega) b1 b2) (by simp) ?_
   simp (disch := omega) [i0, i1, i2, Ql]
   refine Qa (sumc false false _ _ a0 jo b0 jg) (by simp) ?_
   simp (disch := omega) [i0, i1, i2, Ql]
   have hl1 : ltB 40 (tyP ds 1).length = false := by rw [Qg]; omega
   refine Qa (lg (tyP ds 1)) (by simp) ?_
   simp (disch := omega) [hl1]
   refine Q5 (.inr rfl) (by simp) ⟨by simp [WE, he'], _, _, _, _, rfl, fun _ => ?_⟩
   simp [WE, he']
 ·have i0 : QN 1 (LC nn nds) 0 = some (.rp [L false (ndP 4 ds 0)]) := hnd 0 (by omega)
  have a0 := ndL 0 (by omega)
  have b0 := ndG 0 (by omega)
  have l0 := QF (tyG 0 (by omega))
  have i1 : QN 1 (LC nn nds) 1 = some (.rp [L false (ndP 4 ds 1)]) := hnd 1 (by omega)
  have a1 := ndL 1 (by omega)
  have b1 := ndG 1 (by omega)
  have l1 := QF (tyG 1 (by omega))
  simp (disch := omega) [QJ, Qw, Qs, GTerm.cells, eqB, i0, i1, Ql]
  refine WH (kid _ _ _ _ _ _ 0 (by omega)) ?_
  rintro r h' ⟨rfl, rfl⟩
  simp (disch := omega) [i0, i1, Ql]
  refine WH (kid _ _ _ _ _ _ 1 (by omega)) ?_
  rintro r h' ⟨rfl, rfl⟩
  simp (disch := omega) [i0, i1, Ql]
  obtain ⟨z, hz⟩ : ∃ z, z = 1 :: (tyP ds 0 ++ tyP ds 1) := ⟨_, rfl⟩
  have cz := cat3 1 false false (tyP ds 0) (tyP ds 1) (by omega) (by omega)
  rw [← hz] at cz
  refine Qa cz (by simp) ?_
  simp (disch := omega) [i0, i1, Ql]
  refine Qa (sumc false false _ _ a0 a1 b0 b1) (by simp) ?_
  simp (disch := omega) [i0, i1, Ql]
  refine Qa (lg z) (by simp) ?_
  have fp : WE s (ctx.map Prod.snd) 4 n gty ds = Yj z (Ji s (ndP 4 ds 0) (ndP 4 ds 1)) := by simp [WE, hz]
  rw [fp, Yj]
  by_cases hl : z.length ≤ 40
  ·have hb : ltB 40 (z.length : Int) = false := by rw [Qg]; omega
   rw [hb, if_pos hl]
   simp (disch := omega)
   exact Q5 (.inr rfl) (by simp) ⟨rfl, _, _, _, _, rfl, fun _ => ⟨⟨_, rfl⟩, .inl ⟨_, rfl⟩⟩⟩
  ·have hb : ltB 40 (z.length : Int) = true := by rw [Qh]; omega
   rw [hb, if_neg hl]
   simp (disch := omega)
   exact Q5 (.inr rfl) (by simp) ⟨rfl, _, _, _, _, rfl, fun h => by simp at h⟩
 ·have i0 : QN 1 (LC nn nds) 0 = some (.rp [L false (ndP 5 ds 0)]) := hnd 0 (by omega)
  have a0 := ndL 0 (by omega)
  have b0 := ndG 0 (by omega)
  have l0 := QF (tyG 0 (by omega))
  have i1 : QN 1 (LC nn nds) 1 = some (.rp [L false (ndP 5 ds 1)]) := hnd 1 (by omega)
  have a1 := ndL 1 (by omega)
  have b1 := ndG 1 (by omega)
  have l1 := QF (tyG 1 (by omega))
  obtain ⟨g1, j1⟩ : ∃ f, QN 1 (LC nu uds) 1 = some (.rp [L f (usP 5 ds 1)]) := hud 1 (by omega)
  have uo1 := fun (g : Int) hg => Vk t (g := g) hg g1 (usP 5 ds 1) (usL 1 (by omega)) (usG 1 (by omega))
  have hgn := hgr (by simp [JD, Qd])
  simp (disch := omega) [QJ, Qw, Qs, GTerm.cells, eqB, i0, i1, j1, Ql]
  refine Qa (uo1 n hgn) (by simp) ?_
  cases hu : WT s (usP 5 ds 1) (n)
  ·simp (disch := omega)
   exact Q5 (.inr rfl) (by simp) ⟨by simp [WE, hu], _, _, _, _, rfl, fun h => by simp [WE, hu] at h⟩
  ·simp (disch := omega) [i0, i1, j1, Ql]
   refine WH (kid _ _ _ _ _ _ 1 (by omega)) ?_
   rintro r h' ⟨rfl, rfl⟩
   simp (disch := omega) [i0, i1, j1, Ql]
   refine Qa (Vf t (n) (hgn) false _ (by omega) b0) (by simp) ?_
   simp (disch := omega) [i0, i1, j1, Ql]
   have sc := X7 t (g := n) a0
   refine Qa (sumc false false _ _ sc.1 a1 sc.2 b1) (by simp) ?_
   simp (disch := omega) [i0, i1, j1, Ql]
   have hl1 : ltB 40 (tyP ds 1).length = false := by rw [Qg]; omega
   refine Qa (lg (tyP ds 1)) (by simp) ?_
   simp (disch := omega) [hl1]
   refine Q5 (.inr rfl) (by simp) ⟨by simp [WE, hu], _, _, _, _, rfl, fun _ => ?_⟩
   simp [WE, hu]
 ·have i0 : QN 1 (LC nn nds) 0 = some (.rp [L false (ndP 6 ds 0)]) := hnd 0 (by omega)
  have a0 := ndL 0 (by omega)
  have b0 := ndG 0 (by omega)
  have l0 := QF (tyG 0 (by omega))
  have hgt := hty (by simp [Xw, Qd])
  have lt := QF hgt
  simp (disch := omega) [QJ, Qw, Qs, GTerm.cells, eqB, i0, Ql]
  refine WH (kid _ _ _ _ _ _ 0 (by omega)) ?_
  rintro r h' ⟨rfl, rfl⟩
  simp (disch := omega) [i0, Ql]
  obtain ⟨z, hz⟩ : ∃ z, z = 2 :: (tyP ds 0 ++ gty) := ⟨_, rfl⟩
  have cz := cat3 2 false nl1 (tyP ds 0) gty (by omega) (by omega)
  rw [← hz] at cz
  refine Qa cz (by simp) ?_
  simp (disch := omega) [i0, Ql]
  refine Qa (lg z) (by simp) ?_
  have fp : WE s (ctx.map Prod.snd) 6 n gty ds = Yj z (ndP 6 ds 0) := by simp [WE, hz]
  rw [fp, Yj]
  by_cases hl : z.length ≤ 40
  ·have hb : ltB 40 (z.length : Int) = false := by rw [Qg]; omega
   rw [hb, if_pos hl]
   simp (disch := omega)
   exact Q5 (.inr rfl) (by simp) ⟨rfl, _, _, _, _, rfl, fun _ => ⟨⟨_, rfl⟩, .inl ⟨_, rfl⟩⟩⟩
  ·have hb : ltB 40 (z.length : Int) = true := by rw [Qh]; omega
   rw [hb, if_neg hl]
   simp (disch := omega)
   exact Q5 (.inr rfl) (by simp) ⟨rfl, _, _, _, _, rfl, fun h => by simp at h⟩
 ·have i0 : QN 1 (LC nn nds) 0 = some (.rp [L false (ndP 7 ds 0)]) := hnd 0 (by omega)
  have a0 := ndL 0 (by omega)
  have b0 := ndG 0 (by omega)
  have l0 := QF (tyG 0 (by omega))
  have hgt := hty (by simp [Xw, Qd])
  have lt := QF hgt
  simp (disch := omega) [QJ, Qw, Qs, GTerm.cells, eqB, i0, Ql]
  refine WH (kid _ _ _ _ _ _ 0 (by omega)) ?_
  rintro r h' ⟨rfl, rfl⟩
  simp (disch := omega) [i0, Ql]
  obtain ⟨z, hz⟩ : ∃ z, z = 2 :: (gty ++ tyP ds 0) := ⟨_, rfl⟩
  have cz := cat3 2 nl1 false gty (tyP ds 0) (by omega) (by omega)
  rw [← hz] at cz
  refine Qa cz (by simp) ?_
  simp (disch := omega) [i0, Ql]
  refine Qa (lg z) (by simp) ?_
  have fp : WE s (ctx.map Prod.snd) 7 n gty ds = Yj z (ndP 7 ds 0) := by simp [WE, hz]
  rw [fp, Yj]
  by_cases hl : z.length ≤ 40
  ·have hb : ltB 40 (z.length : Int) = false := by rw [Qg]; omega
   rw [hb, if_pos hl]
   simp (disch := omega)
   exact Q5 (.inr rfl) (by simp) ⟨rfl, _, _, _, _, rfl, fun _ => ⟨⟨_, rfl⟩, .inl ⟨_, rfl⟩⟩⟩
  ·have hb : ltB 40 (z.length : Int) = true := by rw [Qh]; omega
   rw [hb, if_neg hl]
   simp (disch := omega)
   exact Q5 (.inr rfl) (by simp) ⟨rfl, _, _, _, _, rfl, fun h => by simp at h⟩
 ·have i0 : QN 1 (LC nn nds) 0 = some (.rp [L false (ndP 8 ds 0)]) := hnd 0 (by omega)
  have a0 := ndL 0 (by omega)
  have b0 := ndG 0 (by omega)
  have l0 := QF (tyG 0 (by omega))
  have i1 : QN 1 (LC nn nds) 1 = some (.rp [L false (ndP 8 ds 1)]) := hnd 1 (by omega)
  have a1 := ndL 1 (by omega)
  have b1 := ndG 1 (by omega)
  have l1 := QF (tyG 1 (by omega))
  have i2 : QN 1 (LC nn nds) 2 = some (.rp [L false (ndP 8 ds 2)]) := hnd 2 (by omega)
  have a2 := ndL 2 (by omega)
  have b2 := ndG 2 (by omega)
  have l2 := QF (tyG 2 (by omega))
  obtain ⟨g1, j1⟩ : ∃ f, QN 1 (LC nu uds) 1 = some (.rp [L f (usP 8 ds 1)]) := hud 1 (by omega)
  have uo1 := fun (g : Int) hg => Vk t (g := g) hg g1 (usP 8 ds 1) (usL 1 (by omega)) (usG 1 (by omega))
  obtain ⟨g2, j2⟩ : ∃ f, QN 1 (LC nu uds) 2 = some (.rp [L f (usP 8 ds 2)]) := hud 2 (by omega)
  have uo2 := fun (g : Int) hg => Vk t (g := g) hg g2 (usP 8 ds 2) (usL 2 (by omega)) (usG 2 (by omega))
  have hgn := hgr (by simp [JD, Qd])
  simp (disch := omega) [QJ, Qw, Qs, GTerm.cells, eqB, i0, i1, i2, j1, j2, Ql]
  refine WH (kid _ _ _ _ _ _ 1 (by omega)) ?_
  rintro r h' ⟨rfl, rfl⟩
  simp (disch := omega) [i0, i1, i2, j1, j2, Ql]
  refine WH (kid _ _ _ _ _ _ 2 (by omega)) ?_
  rintro r h' ⟨rfl, rfl⟩
  simp (disch := omega) [i0, i1, i2, j1, j2, Ql]
  refine Qa (eqc false false 1 2 (by omega)) (by simp) ?_
  cases he : (tyP ds 1 == tyP ds 2)
  ·simp (disch := omega)
   have he' : tyP ds 1 ≠ tyP ds 2 := by simpa using he
   exact Q5 (.inr rfl) (by simp) ⟨by simp [WE, he'], _, _, _, _, rfl, fun h => by simp [WE, he'] at h⟩
  ·simp (disch := omega) [i0, i1, i2, j1, j2, Ql]
   have he' : tyP ds 1 = tyP ds 2 := by simpa using he
   refine Qa (uo1 n hgn) (by simp) ?_
   cases hu : WT s (usP 8 ds 1) (n)
   ·simp (disch := omega)
    exact Q5 (.inr rfl) (by simp) ⟨by simp [WE, he', hu], _, _, _, _, rfl, fun h => by simp [WE, he', hu] at h⟩
   ·simp (disch := omega) [i0, i1, i2, j1, j2, Ql]
    refine Qa (uo2 n hgn) (by simp) ?_
    cases hv : WT s (usP 8 ds 2) (n)
    ·simp (disch := omega)
     exact Q5 (.inr rfl) (by simp) ⟨by simp [WE, he', hu, hv], _, _, _, _, rfl, fun h => by simp [WE, he', hu, hv] at h⟩
    ·simp (disch := omega) [i0, i1, i2, j1, j2, Ql]
     refine WH (kid _ _ _ _ _ _ 1 (by omega)) ?_
     rintro r h' ⟨rfl, rfl⟩
     simp (disch := omega) [i0, i1, i2, j1, j2, Ql]
     refine Qa (Vf t (n) (hgn) false _ (by omega) b0) (by simp) ?_
     simp (disch := omega) [i0, i1, i2, j1, j2, Ql]
     have sc := X7 t (g := n) a0
     have jo := ZcB (s := s) a1 a2
     have jg : ∀ u ∈ Jb s (ndP 8 ds 1) (ndP 8 ds 2), s.G u := fun u hu => ZkY hsy u hu b1 b2
     refine Qa (ZmX t false false _ _ (by omega) (by omega) b1 b2) (by simp) ?_
     simp (disch := omega) [i0, i1, i2, j1, j2, Ql]
     refine Qa (sumc false false _ _ sc.1 jo sc.2 jg) (by simp) ?_
     simp (disch := omega) [i0, i1, i2, j1, j2, Ql]
     have hl1 : ltB 40 (tyP ds 1).length = false := by rw [Qg]; omega
     refine Qa (lg (tyP ds 1)) (by simp) ?_
     simp (disch := omega) [hl1]
     refine Q5 (.inr rfl) (by simp) ⟨by simp [WE, he', hu, hv], _, _, _, _, rfl, fun _ => ?_⟩
     simp [WE, he', hu, hv]
 ·have i0 : QN 1 (LC nn nds) 0 = some (.rp [L false (ndP 9 ds 0)]) := hnd 0 (by omega)
  have a0 := ndL 0 (by omega)
  have b0 := ndG 0 (by omega)
  have l0 := QF (tyG 0 (by omega))
  obtain ⟨g0, j0⟩ : ∃ f, QN 1 (LC nu uds) 0 = some (.rp [L f (usP 9 ds 0)]) := hud 0 (by omega)
  have uo0 := fun (g : Int) hg => Vk t (g := g) hg g0 (usP 9 ds 0) (usL 0 (by omega)) (usG 0 (by omega))
  have hgn := hgr (by simp [JD, Qd])
  have hgt := hty (by simp [Xw, Qd])
  have lt := QF hgt
  simp (disch := omega) [QJ, Qw, Qs, GTerm.cells, eqB, i0, j0, Ql]
  refine Qa (uo0 n hgn) (by simp) ?_
  cases hu : WT s (usP 9 ds 0) (n)
  ·simp (disch := omega)
   exact Q5 (.inr rfl) (by simp) ⟨by simp [WE, hu], _, _, _, _, rfl, fun h => by simp [WE, hu] at h⟩
  ·simp (disch := omega) [i0, j0, Ql]
   rw [Qf (by have := hgn.1; have := hgn.2; omega)]
   refine WH (kid _ _ _ _ _ _ 0 (by omega)) ?_
   rintro r h' ⟨rfl, rfl⟩
   simp (disch := omega) [i0, j0, Ql]
   obtain ⟨z, hz⟩ : ∃ z, z = (3 + n) :: (gty ++ tyP ds 0) := ⟨_, rfl⟩
   have cz := cat3 (3 + n) nl1 false gty (tyP ds 0) (by omega) (by omega)
   rw [← hz] at cz
   refine Qa cz (by simp) ?_
   simp (disch := omega) [i0, j0, Ql]
   refine Qa (lg z) (by simp) ?_
   have fp : WE s (ctx.map Prod.snd) 9 n gty ds = Yj z (ndP 9 ds 0) := by simp [WE, hz, hu]
   rw [fp, Yj]
   by_cases hl : z.length ≤ 40
   ·have hb : ltB 40 (z.length : Int) = false := by rw [Qg]; omega
    rw [hb, if_pos hl]
    simp (disch := omega)
    exact Q5 (.inr rfl) (by simp) ⟨rfl, _, _, _, _, rfl, fun _ => ⟨⟨_, rfl⟩, .inl ⟨_, rfl⟩⟩⟩
   ·have hb : ltB 40 (z.length : Int) = true := by rw [Qh]; omega
    rw [hb, if_neg hl]
    simp (disch := omega)
    exact Q5 (.inr rfl) (by simp) ⟨rfl, _, _, _, _, rfl, fun h => by simp at h⟩
 ·have i0 : QN 1 (LC nn nds) 0 = some (.rp [L false (ndP 10 ds 0)]) := hnd 0 (by omega)
  have a0 := ndL 0 (by omega)
  have b0 := ndG 0 (by omega)
  have l0 := QF (tyG 0 (by omega))
  have i1 : QN 1 (LC nn nds) 1 = some (.rp [L false (ndP 10 ds 1)]) := hnd 1 (by omega)
  have a1 := ndL 1 (by omega)
  have b1 := ndG 1 (by omega)
  have l1 := QF (tyG 1 (by omega))
  have h0 := X5 (tyG 0 (by omega))
  have hx0 : QN 1 (L false (tyP ds 0)) 0 = some (.rp [N (hd (tyP ds 0))]) := ZL h0.2.2.2.1
  have hga := fst (by omega)
  have hgc := KX h0.1 (.inl ((fst (by omega)).2.2.2.1 rfl))
  have hsh : (QG (hd (tyP ds 0))).2 = W2 (hd (tyP ds 0)) := (KV h0.2.1 h0.2.2.1).2.2.2.2.2 (.inl ((fst (by omega)).2.2.2.1 rfl))
  have hgg : s.G (QG (hd (tyP ds 0))).2 := by rw [hsh]; exact hgc
  simp (disch := omega) [QJ, Qw, Qs, GTerm.cells, eqB, i0, i1, Ql]
  refine WH (kid _ _ _ _ _ _ 0 (by omega)) ?_
  rintro r h' ⟨rfl, rfl⟩
  simp (disch := omega) [hx0, Ql]
  refine Qa (V1 _ ⟨by omega, by omega⟩) (by simp) ?_
  simp (disch := omega) [i0, i1, Ql]
  refine WH (kid _ _ _ _ _ _ 0 (by omega)) ?_
  rintro r h' ⟨rfl, rfl⟩
  simp (disch := omega) [i0, i1, Ql]
  refine Qa (ZfV (Yi (tyG 0 (by omega)))) (by simp) ?_
  rw [Zax (Jv (hga.2.2.2.1 rfl))]
  have hx1 : QN 1 (.sl true false 1 [[L false (QI (tyP ds 0))], [L false (Wv (tyP ds 0))]]) 1 = some (.rp [L false (Wv (tyP ds 0))]) := by simp [QN]
  simp (disch := omega) [i0, i1, Ql, hx1]
  refine Qa (Vf t ((QG (hd (tyP ds 0))).2) (hgg) false _ (by omega) b1) (by simp) ?_
  simp (disch := omega) [i0, i1, Ql]
  have sc := X7 t (g := (QG (hd (tyP ds 0))).2) a1
  refine Qa (sumc false false _ _ a0 sc.1 b0 sc.2) (by simp) ?_
  simp (disch := omega) [i0, i1, Ql]
  have l9 := QF (Jo (tyG 0 (by omega)) (Jv (hga.2.2.2.1 rfl))).2.2
  have hl9 : ltB 40 (Wv (tyP ds 0)).length = false := by rw [Qg]; omega
  refine Qa (lg (Wv (tyP ds 0))) (by simp) ?_
  simp (disch := omega) [hl9]
  refine Q5 (.inr rfl) (by simp) ⟨by simp [WE], _, _, _, _, rfl, fun _ => ?_⟩
  simp [WE]
 ·have i0 : QN 1 (LC nn nds) 0 = some (.rp [L false (ndP 11 ds 0)]) := hnd 0 (by omega)
  have a0 := ndL 0 (by omega)
  have b0 := ndG 0 (by omega)
  have l0 := QF (tyG 0 (by omega))
  have hgn := hgr (by simp [JD, Qd])
  simp (disch := omega) [QJ, Qw, Qs, GTerm.cells, eqB, i0, Ql]
  rw [Qf (by have := hgn.1; have := hgn.2; omega)]
  refine WH (kid _ _ _ _ _ _ 0 (by omega)) ?_
  rintro r h' ⟨rfl, rfl⟩
  simp (disch := omega) [i0, Ql]
  obtain ⟨z, hz⟩ : ∃ z, z = (19 + n) :: tyP ds 0 := ⟨_, rfl⟩
  have cz := cat2 (19 + n) false (tyP ds 0) (by omega)
  rw [← hz] at cz
  refine Qa cz (by simp) ?_
  simp (disch := omega) [i0, Ql]
  refine Qa (Vf t (n) (hgn) false _ (by omega) b0) (by simp) ?_
  simp (disch := omega) [i0, Ql]
  refine Qa (lg z) (by simp) ?_
  have fp : WE s (ctx.map Prod.snd) 11 n gty ds = Yj z (WQ s n (ndP 11 ds 0)) := by simp [WE, hz]
  rw [fp, Yj]
  by_cases hl : z.length ≤ 40
  ·have hb : ltB 40 (z.length : Int) = false := by rw [Qg]; omega
   rw [hb, if_pos hl]
   simp (disch := omega)
   exact Q5 (.inr rfl) (by simp) ⟨rfl, _, _, _, _, rfl, fun _ => ⟨⟨_, rfl⟩, .inl ⟨_, rfl⟩⟩⟩
  ·have hb : ltB 40 (z.length : Int) = true := by rw [Qh]; omega
   rw [hb, if_neg hl]
   simp (disch := omega)
   exact Q5 (.inr rfl) (by simp) ⟨rfl, _, _, _, _, rfl, fun h => by simp at h⟩
 ·have i0 : QN 1 (LC nn nds) 0 = some (.rp [L false (ndP 12 ds 0)]) := hnd 0 (by omega)
  have a0 := ndL 0 (by omega)
  have b0 := ndG 0 (by omega)
  have l0 := QF (tyG 0 (by omega))
  have i1 : QN 1 (LC nn nds) 1 = some (.rp [L false (ndP 12 ds 1)]) := hnd 1 (by omega)
  have a1 := ndL 1 (by omega)
  have b1 := ndG 1 (by omega)
  have l1 := QF (tyG 1 (by omega))
  obtain ⟨g1, j1⟩ : ∃ f, QN 1 (LC nu uds) 1 = some (.rp [L f (usP 12 ds 1)]) := hud 1 (by omega)
  have uo1 := fun (g : Int) hg => Vk t (g := g) hg g1 (usP 12 ds 1) (usL 1 (by omega)) (usG 1 (by omega))
  have hgn := hgr (by simp [JD, Qd])
  have h0 := X5 (tyG 0 (by omega))
  have hx0 : QN 1 (L false (tyP ds 0)) 0 = some (.rp [N (hd (tyP ds 0))]) := ZL h0.2.2.2.1
  have hga := fst (by omega)
  have hgc := KX h0.1 (.inr ((fst (by omega)).2.2.2.2 rfl))
  have hsh : (QG (hd (tyP ds 0))).2 = W2 (hd (tyP ds 0)) := (KV h0.2.1 h0.2.2.1).2.2.2.2.2 (.inr ((fst (by omega)).2.2.2.2 rfl))
  have hgg : s.G (QG (hd (tyP ds 0))).2 := by rw [hsh]; exact hgc
  simp (disch := omega) [QJ, Qw, Qs, GTerm.cells, eqB, i0, i1, j1, Ql]
  refine WH (kid _ _ _ _ _ _ 0 (by omega)) ?_
  rintro r h' ⟨rfl, rfl⟩
  simp (disch := omega) [hx0, Ql]
  refine Qa (V1 _ ⟨by omega, by omega⟩) (by simp) ?_
  simp (disch := omega) [i0, i1, j1, Ql]
  refine Qa (ZeS t hgn hgg) (by simp) ?_
  simp (disch := omega) [i0, i1, j1, Ql]
  refine Qa (uo1 _ (GSys.Gtm t _ _)) (by simp) ?_
  cases hu : WT s (usP 12 ds 1) (s.tm n (QG (hd (tyP ds 0))).2)
  ·simp (disch := omega)
   exact Q5 (.inr rfl) (by simp) ⟨by simp [WE, hu], _, _, _, _, rfl, fun h => by simp [WE, hu] at h⟩
  ·simp (disch := omega) [i0, i1, j1, Ql]
   refine WH (kid _ _ _ _ _ _ 1 (by omega)) ?_
   rintro r h' ⟨rfl, rfl⟩
   simp (disch := omega) [i0, i1, j1, Ql]
   refine Qa (Vf t (n) (hgn) false _ (by omega) b0) (by simp) ?_
   simp (disch := omega) [i0, i1, j1, Ql]
   have sc := X7 t (g := n) a0
   refine Qa (sumc false false _ _ sc.1 a1 sc.2 b1) (by simp) ?_
   simp (disch := omega) [i0, i1, j1, Ql]
   have hl1 : ltB 40 (tyP ds 1).length = false := by rw [Qg]; omega
   refine Qa (lg (tyP ds 1)) (by simp) ?_
   simp (disch := omega) [hl1]
   refine Q5 (.inr rfl) (by simp) ⟨by simp [WE, hu], _, _, _, _, rfl, fun _ => ?_⟩
   simp [WE, hu]
end Go.Proofs.YtclfngbealdbgaaGreat
namespace Go.Proofs.YtclfngbealdbgaaGreat
open Go Go.TL
open Go.Proofs.YtclfngbealdbgaaGreat.Ty
set_option linter.unusedSimpArgs false
set_option linter.unusedVariables false
set_option maxRecDepth 20000
set_option maxHeartbeats 4000000
def Zn (nl : Bool) (l : List Int) : Prop := nl = true → l = []
mutual
def GTerm.fl : GTerm → Prop
 | .mk _ _ nl1 ty _ ks => Zn nl1 ty ∧ fls ks
def fls : List GTerm → Prop
 | [] => True
 | k :: ks => k.fl ∧ fls ks
end
theorem VI : ∀ {ks : List GTerm}, fls ks ↔ ∀ k ∈ ks, k.fl
 | [] => by simp [fls]
 | k :: ks => by simp [fls, VI (ks := ks)]
def FzR (R : LV → Prop) (r : LV) (h' : List Box) : Prop := ∃ t h1 m, Fz t r h' h1 ∧ (0 : Nat) ≤ m ∧ m ≤ h1.length ∧ Low m t ∧ (∀ l xs, l < m → h1[l]? = some (some xs) → QD m xs) ∧ R t ∧ Low 0 t
theorem Qe.freeze {P : Program} {f : FuncId} {args : List LV} {R : LV → Prop} (c : Q7 P f args [] (FzR R)) : Qe P f args R := by
 refine Q7.freeze (c.mono fun r h' hr => ?_)
 obtain ⟨t, h1, m, a, b, c, d, e, f, g⟩ := hr
 exact ⟨t, h1, m, a, b, c, d, e, f, g⟩
theorem fz_bad {R : LV → Prop} {h' : List Box} {l : Nat} {xs : List LV} (hl : h'[l]? = some (some xs)) (hs : KL xs xs (h'.set l none) (h'.set l none)) (lo : QD 0 xs) (hR : R (.rp xs)) : FzR R (.ptr l 0) h' :=
 ⟨.rp xs, h'.set l none, 0, by simp only [Fz]; exact .inr ⟨l, xs, rfl, hl, hs⟩, Nat.le_refl _, Nat.zero_le _, by simpa using lo, fun l xs h => by omega, hR, by simpa using lo⟩
theorem Zmx {u nl : Bool} {sz : Nat} {Qk : List (List LV)} (h : List Box) : Fz (.sl u nl sz Qk) (.sl u nl sz Qk) h h := by simp only [Fz]; exact .inl ⟨trivial, trivial⟩
theorem ZaH : ∀ {xs : List LV} {h : List Box}, (∀ x ∈ xs, ∀ h, Fz x x h h) → KL xs xs h h
 | [], h, _ => by simp [KL]
 | x :: xs, h, hx => by
  simp only [KL]
  exact ⟨x, xs, h, rfl, hx x (by simp) h, ZaH fun y hy => hx y (by simp [hy])⟩
theorem VH {R : LV → Prop} {h' : List Box} {l : Nat} {f : Int} {u nl : Bool} {p : List Int} (hl : h'[l]? = some (some [.sl true true 1 [], .sl true true 1 [], .sl true true 1 [], N f, OU u nl p]))
  (hR : R (.rp [.sl true true 1 [], .sl true true 1 [], .sl true true 1 [], N f, OU u nl p])) : FzR R (.ptr l 0) h' :=
 fz_bad hl (ZaH fun x hx => by
  simp only [List.mem_cons, List.not_mem_nil, or_false] at hx
  rcases hx with rfl | rfl | rfl | rfl | rfl
  all_goals first | exact Zmx | (intro h; simp [Fz])) (by simp) hR
theorem ZhD : ∀ (l : List Int) (h : List Box), Zci (l.map fun n => [N n]) 1 (l.map N) h h
 | [], h => by simp [Zci]
 | a :: l, h => by
  simp only [List.map_cons, Zci]
  exact ⟨[N a], l.map N, h, rfl, rfl, ZaH (fun x hx => by simp only [List.mem_singleton] at hx; subst hx; intro h; simp [Fz]), ZhD l h⟩
theorem fz_ok {R : LV → Prop} {c2 : Box} {u : Bool} {T nd : List Int} {ndv : LV} {m : Nat} {u3 n3 : Bool} {Qk : List (List LV)} {hr : List Box} (lo : ∀ k, Ws k Qk)
  (hn : (∃ u, ndv = OU u false nd) ∨ (ndv = .ha 2 1 0 m m ∧ c2 = some (nd.map N) ∧ nd.length = m)) (hR : ∀ u2, R (.rp [OU u false T, OU u2 false nd, .sl u3 n3 1 Qk, N 0, .sl true true 1 []])) :
  FzR R (.ptr 3 0) (none :: none :: c2 :: some [OU u false T, ndv, .sl u3 n3 1 Qk, N 0, .sl true true 1 []] :: hr) := by
 rcases hn with ⟨u2, rfl⟩ | ⟨rfl, rfl, rfl⟩
 ·refine fz_bad (by rfl) (ZaH fun x hx => ?_) (by simp [lo]) (hR u2)
  simp only [List.mem_cons, List.not_mem_nil, or_false] at hx
  rcases hx with rfl | rfl | rfl | rfl | rfl
  all_goals first | exact Zmx | (intro h; simp [Fz])
 ·refine ⟨.rp [OU u false T, OU true false nd, .sl u3 n3 1 Qk, N 0, .sl true true 1 []], none :: none :: none :: none :: hr, 0, ?_, Nat.le_refl _, Nat.zero_le _, by simp [lo], fun l xs h => by omega, hR true, by simp [lo]⟩
  simp only [Fz]
  refine .inr ⟨3, _, rfl, rfl, ?_⟩
  simp only [KL]
  refine ⟨_, _, _, rfl, Zmx _, _, _, _, rfl, ?_, _, _, _, rfl, Zmx _, _, _, _, rfl, ⟨rfl, rfl⟩, _, _, _, rfl, Zmx _, rfl, rfl⟩
  simp only [Fz]
  refine .inr ⟨trivial, trivial, 2, nd.length, nd.map N, [], by simp, by simp, by simp, by simp, ?_⟩
  exact ZhD nd _
theorem ZB (ys : List LV) : (LV.rp ys).flat = true := rfl
theorem YC (ys : List LV) : (LV.rp ys).cells = [.rp ys] := rfl
theorem app_new {Qk : List (List LV)} {row : List LV} (h : Qk.length < 1099511627776) : WF 1 (.sl (!Qk.isEmpty) Qk.isEmpty 1 Qk) (.sl true false 1 [row]) = some (.sl (!(Qk ++ [row]).isEmpty) (Qk ++ [row]).isEmpty 1 (Qk ++ [row])) := by
 simp only [WF]
 rw [if_pos ⟨by cases Qk <;> simp, .inl trivial, .inl trivial, by simp [most]; omega⟩]
 cases Qk <;> simp
theorem Zht {nv size : Int} {closed : Bool} {op : Int} : ∀ {ks : List GTerm} {k : Nat}, Xj nv size closed op k ks = true → ∀ (i : Nat) (h : i < ks.length), Xr (nv + Qt op ((k + i : Nat) : Int)) size closed ks[i] = true
 | [], _, _, i, h => by simp at h
 | t :: ts, k, hf, i, h => by
  simp only [Xj, Bool.and_eq_true] at hf
  cases i with
  | zero => simpa using hf.1
  | succ i =>
   have := Zht hf.2 i (by simpa using h)
   rw [show k + 1 + i = k + (i + 1) by omega] at this
   simpa using this
mutual
theorem K0 {s : GSys} : ∀ (g : GTerm) (ctx : List (List Int)) (f : Int) (p : List Int), Qq s ctx g = .bad f p → p.length ≤ g.size
 | .mk op n _ ty _ ks, ctx, f0, p0, h => by
  rw [Qq] at h
  split at h
  ·rename_i f' p' hd
   simp only [Res.bad.injEq] at h
   obtain ⟨rfl, rfl⟩ := h
   have := Zhs ks ctx op n ty [] _ _ hd
   simpa [GTerm.size] using this
  ·split at h
   ·simp at h
   ·simp only [Res.bad.injEq] at h
    obtain ⟨_, rfl⟩ := h
    simp
theorem Zhs {s : GSys} : ∀ (ks : List GTerm) (ctx : List (List Int)) (op n : Int) (ty : List Int) (ds : List TT) (f : Int) (p : List Int), Q9 s ctx op n ty ds ks = .bad f p → p.length ≤ XI ks + 1
 | [], ctx, op, n, ty, ds, f, p, h => by simp [Q9] at h
 | k :: ks, ctx, op, n, ty, ds, f, p, h => by
  rw [Q9] at h
  split at h
  ·rename_i f' p' hd
   simp only [KRes.bad.injEq] at h
   obtain ⟨rfl, rfl⟩ := h
   have := K0 k _ _ p' hd
   simp [XI]; omega
  ·split at h
   ·simp only [KRes.bad.injEq] at h
    obtain ⟨_, rfl⟩ := h
    simp
   ·split at h
    ·simp only [KRes.bad.injEq] at h
     obtain ⟨_, rfl⟩ := h
     simp
    ·have := Zhs ks ctx op n ty _ f p h
     simp [XI]; omega
end
theorem ZnB {c : Wk} (h : c.length < 1099511627776) (f : Bool) (l : List Int) : WF 1 (VS c) (.sl true false 1 [[L f l]]) = some (VS (c ++ [(f, l)])) := by
 have := app_new (Qk := c.map fun x => [eC x]) (row := [L f l]) (by rw [List.length_map]; exact h)
 have e1 : (c.map fun x => [eC x]).isEmpty = c.isEmpty := by cases c <;> rfl
 have e2 : (c.map (fun x => [eC x]) ++ [[L f l]]) = (c ++ [(f, l)]).map fun x => [eC x] := by simp
 have e3 : ((c ++ [(f, l)]).map fun x => [eC x]).isEmpty = (c ++ [(f, l)]).isEmpty := by cases c <;> rfl
 rw [e2, e1, e3] at this
 exact this
theorem Zfw (l : List Int) : Qu (l.map fun n => [N n]) = l.map fun n => [N n] := by simp
theorem ZZ {c : Wk} {g g' : Nat → List Int} {v : Bool × List Int} (hc : ∀ (j : Nat) (h : j < c.length), (c[j]).2 = g j) (h1 : ∀ j, j < c.length → g' j = g j) (h2 : v.2 = g' c.length) : ∀ (j : Nat) (h : j < (c ++ [v]).length), ((c ++ [v])[j]).2 = g' j := by
 intro j h
 rw [List.length_append] at h
 rcases Nat.lt_or_ge j c.length with q | q
 ·rw [List.getElem_append_left q, hc j q, h1 j q]
 ·have : j = c.length := by simp at h; omega
  subst this
  rw [List.getElem_append_right (Nat.le_refl _)]
  simpa using h2
theorem ZcE {c : Wk} {l : List Int} (h : ∀ x ∈ c, x.1 = false) : ∀ x ∈ c ++ [(false, l)], x.1 = false := by
 intro x hx
 rcases List.mem_append.1 hx with hx | hx
 ·exact h x hx
 ·simp at hx; subst hx; rfl
theorem YW {ds : List TT} {x : TT} {j : Nat} (h : j < ds.length) : (ds ++ [x]).getD j (.mk [] [] []) = ds.getD j (.mk [] [] []) := by
 simp [List.getD_eq_getElem?_getD, List.getElem?_append_left h]
theorem Ya {ds : List TT} {x : TT} {j : Nat} (h : j = ds.length) : (ds ++ [x]).getD j (.mk [] [] []) = x := by
 subst h; simp [List.getD_eq_getElem?_getD]
theorem Zaj {c : Wk} (h : c.length < 1099511627776) (f : Bool) (l : List Int) (k : Nat) : WF 1 (VS c) (.sl true false 1 [[.sl false f 1 (List.take k (l.map fun n => [N n]))]]) = some (VS (c ++ [(f, l.take k)])) := by
 rw [← List.map_take]; exact ZnB h f (l.take k)
theorem Zam {c : Wk} (h : c.length < 1099511627776) (f : Bool) (l : List Int) (k : Nat) : WF 1 (VS c) (.sl true false 1 [[.sl false f 1 (List.drop k (l.map fun n => [N n]))]]) = some (VS (c ++ [(f, l.drop k)])) := by
 rw [← List.map_drop]; exact ZnB h f (l.drop k)
theorem V7 {n2 : Bool} {l : List Int} {k : Nat} (h : k ≤ l.length) : ZS 1 (L n2 l) none (some (k : Int)) none = some (L n2 (l.take k)) := by
 simp only [ZS, Option.getD_none, Option.getD_some, List.length_map]
 rw [if_pos ⟨trivial, by omega, by omega, by omega, by omega⟩, show ((k : Int)).toNat = k by omega, ← List.map_take]
 simp only [Option.isSome_none, Bool.false_and, List.drop_zero, Int.toNat_zero, Zfw]
theorem YV {n2 : Bool} {l : List Int} {k : Nat} (h : k ≤ l.length) : ZS 1 (L n2 l) (some (k : Int)) none none = some (L n2 (l.drop k)) := by
 simp only [ZS, Option.getD_none, Option.getD_some, List.length_map]
 rw [if_pos ⟨trivial, by omega, by omega, by omega, by omega⟩, show ((k : Int)).toNat = k by omega, show ((l.length : Int)).toNat = l.length by omega, ← List.map_take, ← List.map_drop, List.take_length]
 simp only [Option.isSome_none, Bool.false_and, Zfw]
mutual
theorem Y5 {s : GSys} : ∀ (g : GTerm) (ctx : List (List Int)) (f : Int) (p : List Int), Qq s ctx g = .bad f p → f ≠ 0
 | .mk op n _ ty _ ks, ctx, f0, p0, h => by
  rw [Qq] at h
  split at h
  ·rename_i f' p' hd
   simp only [Res.bad.injEq] at h
   obtain ⟨rfl, rfl⟩ := h
   exact Zkc ks ctx op n ty [] _ _ hd
  ·split at h
   ·simp at h
   ·rename_i hne
    simp only [Res.bad.injEq] at h
    obtain ⟨rfl, rfl⟩ := h
    exact hne
theorem Zkc {s : GSys} : ∀ (ks : List GTerm) (ctx : List (List Int)) (op n : Int) (ty : List Int) (ds : List TT) (f : Int) (p : List Int), Q9 s ctx op n ty ds ks = .bad f p → f ≠ 0
 | [], ctx, op, n, ty, ds, f, p, h => by simp [Q9] at h
 | k :: ks, ctx, op, n, ty, ds, f, p, h => by
  rw [Q9] at h
  split at h
  ·rename_i f' p' hd
   simp only [KRes.bad.injEq] at h
   obtain ⟨rfl, rfl⟩ := h
   exact Y5 k _ _ p' hd
  ·split at h
   ·rename_i hne
    simp only [KRes.bad.injEq] at h
    obtain ⟨rfl, rfl⟩ := h
    exact hne
   ·split at h
    ·simp only [KRes.bad.injEq] at h
     obtain ⟨rfl, rfl⟩ := h
     omega
    ·exact Zkc ks ctx op n ty _ f p h
end
mutual
theorem TT.ex : ∀ x : TT, ∃ r, x.is r ∧ ∃ ys, r = .rp ys
 | .mk ty nd ks => by
  obtain ⟨Qk, h⟩ := TT.exs ks
  exact ⟨_, by simp only [TT.is]; exact ⟨false, false, Qk, rfl, h⟩, _, rfl⟩
theorem TT.exs : ∀ xs : List TT, ∃ Qk, TT.are xs Qk
 | [] => ⟨[], by simp [TT.are]⟩
 | x :: xs => by
  obtain ⟨r, h, _⟩ := TT.ex x
  obtain ⟨Qk, h2⟩ := TT.exs xs
  exact ⟨_, by simp only [TT.are]; exact ⟨r, Qk, rfl, h, h2⟩⟩
end
theorem res_ex (x : Res) (hb : ∀ f p, x = .bad f p → f ≠ 0) : ∃ ys, x.is (share (.rp ys)) ∧ QD 0 ys := by
 cases x with
 | ok x =>
  obtain ⟨r, h, ys, rfl⟩ := TT.ex x
  obtain ⟨h1, h2⟩ := ZmJ x _ h
  exact ⟨ys, by rw [h1]; exact h, by simpa using h2 0⟩
 | bad f p => exact ⟨[.sl false true 1 [], .sl false true 1 [], .sl false true 1 [], N f, L false p], ⟨hb f p rfl, false, by simp⟩, by simp⟩
theorem fz_ex (R : LV → Prop) (h : ∃ ys, R (.rp ys) ∧ QD 0 ys) : ∃ r h', FzR R r h' := by
 obtain ⟨ys, h1, h2⟩ := h
 exact ⟨.rp ys, [], .rp ys, [], 0, by simp only [Fz]; exact .inl ⟨trivial, trivial⟩, Nat.le_refl _, Nat.zero_le _, by simpa using h2, fun l xs h => by omega, h1, by simpa using h2⟩
structure TypJ (s : GSys) (cx : List (List Int)) (op n : Int) (gty : List Int) (ks : List GTerm) (i : Nat) (t : Nat → LV) (h : List Box) (ds : List TT) (Qk : List (List LV)) (nds uds : Wk) (hr : List Box) : Prop where
 are : TT.are ds Qk
 len : ds.length = i
 kok : KidsOk s cx.length op n ds
 tell : Q9 s cx op n gty [] ks = Q9 s cx op n gty ds (ks.drop i)
 ulen : uds.length = i
 nlen : nds.length = i
 us : ∀ (j : Nat) (h : j < uds.length), (uds[j]).2 = usP op ds j
 nd : ∀ (j : Nat) (h : j < nds.length), (nds[j]).2 = ndP op ds j
 nf : ∀ c ∈ nds, c.1 = false
 e24 : t 24 = N i
 e8 : t 8 = VS nds
 e9 : t 9 = VS uds
 heap : h = none :: none :: some ((WC cx.length).map N) :: ZfA (.sl true true 1 []) (.ha 2 1 0 cx.length cx.length) true ds.isEmpty Qk :: hr
theorem typ_ok {s : GSys} (hsy : s.sys = true) (d : Nat) : ∀ (g : GTerm) (nlc : Bool) (ctx : Wk), g.size ≤ d → g.wf → g.fl → (∀ c ∈ ctx, okL s.size c.2 = true) → (∀ c ∈ ctx, c.1 = false) → ctx.length + 2 * g.size ≤ 100000 → Xr ctx.length s.size true g = true →
  Qe Tryz.prog YP [s.lv, LC nlc ctx, g.lv] (fun r => (Qq s (ctx.map Prod.snd) g).is (share r)) := by
 induction d with
 | zero => intro g _ _ h; have := g.size_pos; omega
 | succ d ih =>
  rintro ⟨op, n, nl1, gty, nl2, ks⟩ nlc ctx hsz hw hfl hc hcf hlen hform
  have t := GSys.sys_of hsy
  have h16 := t.hi
  simp only [Xr, Bool.and_eq_true] at hform
  obtain ⟨hnode, hforms⟩ := hform
  have no := Ze8 hnode
  simp only [GTerm.wf] at hw
  obtain ⟨wop, wn, wty, wk, wks⟩ := hw
  simp only [GTerm.fl] at hfl
  obtain ⟨fl1, flk⟩ := hfl
  simp only [GTerm.size] at hsz hlen
  have hm : (ctx.length : Int) ≤ (most : Nat) := by unfold most; omega
  have many := no.many
  have hk3 : ks.length ≤ 3 := by
   unfold YG at many
   repeat' split at many
   all_goals omega
  have cxl : (ctx.map Prod.snd).length = ctx.length := by simp
  refine Qe.freeze (Q7.of_codeOf ZdI QA (by simp) ?_ ?_)
  ·exact fz_ex (fun r => (Qq s (ctx.map Prod.snd) (GTerm.mk op n nl1 gty nl2 ks)).is (share r)) (res_ex _ fun f p h => Y5 _ _ f p h)
  have hfl0 : ∀ a b c d e, (LV.ha a b c d e).flat = true ∧ (LV.ha a b c d e).cells.length = 1 := fun _ _ _ _ _ => ⟨rfl, rfl⟩
  have hce0 : ∀ a b c d e, (LV.ha a b c d e).cells = [.ha a b c d e] := fun _ _ _ _ _ => rfl
  simp (disch := omega) [Vm, Qw, Qs, GTerm.cells, hm, hfl0, hce0]
  refine Wb ks.length 0 (fun i t h => ∃ ds Qk nds uds hr, TypJ s (ctx.map Prod.snd) op n gty ks i t h ds Qk nds uds hr) (fun t h => ∃ ds Qk nds uds hr, TypJ s (ctx.map Prod.snd) op n gty ks ks.length t h ds Qk nds uds hr) ?_ (by omega) ?_ ?_
  ·refine ⟨[], [], [], [], [], by simp [TT.are], rfl, ⟨fun i x h => by simp at h, fun _ x h => by simp at h⟩, by simp, rfl, rfl, fun j h => by simp at h, fun j h => by simp at h, by simp, by simp, by simp, by simp, ?_⟩
   simp [WC]
  ·rintro i t1 hh hf hi ⟨ds, Qk, nds, uds, hr, J⟩
   (have e1 := hf 1 (by kernel_rfl); have e3 := hf 3 (by kernel_rfl); have e5 := hf 5 (by kernel_rfl); have e7 := hf 7 (by kernel_rfl); have e22 := hf 22 (by kernel_rfl); have e23 := hf 23 (by kernel_rfl); clear hf; simp [] at e1 e3 e5 e7 e22 e23)
   obtain ⟨are, len, kok, tell, ulen, nlen, us, nd, nf, e24, e8, e9, rfl⟩ := J
   have gl : GTerm.cells (GTerm.mk op n nl1 gty nl2 ks) = [N op, N n, L nl1 gty, .sl false nl2 4 (Wg ks)] := by simp [GTerm.cells]
   simp (disch := omega) [e1, e3, e5, e7, e22, e23, e24]
   by_cases h6 : i < ks.length
   rotate_left
   ·have hb : ltB (i : Int) ks.length = false := by rw [Qg]; omega
    have hik : i = ks.length := by omega
    simp (disch := omega) [hb]
    exact ⟨ds, Qk, nds, uds, hr, are, by omega, kok, by rw [tell, hik], by omega, by omega, us, nd, nf, by simp [e24, hik], by simp [e8], by simp [e9], by simp⟩
   have hb : ltB (i : Int) ks.length = true := by rw [Qh]; omega
   have hdrop := List.drop_eq_getElem_cons h6
   have hkw : (ks[i]).wf := (ZaR.1 wks) _ (List.getElem_mem h6)
   have hkf : (ks[i]).fl := (VI.1 flk) _ (List.getElem_mem h6)
   have hks := Zd h6
   have hkform : Xr ((ctx.length : Int) + Qt op i) s.size true ks[i] = true := by have := Zht hforms i h6; simpa using this
   have hix := ZhC ks false nl2 i h6
   rw [hdrop] at tell
   generalize ks[i] = k at *
   have hadd := Zv op i
   have hcs : ∀ l ∈ ctx.map Prod.snd, okL s.size l = true := fun l hl => by
    obtain ⟨c, h1, rfl⟩ := List.mem_map.1 hl
    exact hc c h1
   have hty : op = 9 → okL s.size gty = true := fun h => no.typed (by subst h; simp [Xw, Qd])
   have hfirst : i ≠ 0 → okL s.size (first ds) = true ∧ ZdU op (hd (first ds)) := fun h => by
    have := kok.first (by rintro rfl; simp at len; omega)
    exact ⟨this.1, this.2.1⟩
   have hm1 : ∀ f, Z8 op nl1 gty i f = [] ∨ True := fun _ => .inr trivial
   have rl := ZlE ds Qk are
   have hmore : ∃ more : Wk, more = Z8 op nl1 gty i (first ds) := ⟨_, rfl⟩
   obtain ⟨more, hmd⟩ := hmore
   have hms : more.map Prod.snd = QB op gty i (first ds) := by rw [hmd]; exact ZoE op nl1 gty i (first ds)
   have hml : more.length = (Qt op i).toNat := by
    have := congrArg List.length hms
    rw [List.length_map, ZcI] at this; exact this
   have hmok : ∀ c ∈ more ++ ctx, okL s.size c.2 = true := by
    intro c hcm
    rcases List.mem_append.1 hcm with hcm | hcm
    ·exact Zm0 (i := i) (f := first ds) hty hfirst c.2 (by rw [← hms]; exact List.mem_map_of_mem hcm)
    ·exact hc c hcm
   have hmf : ∀ c ∈ more ++ ctx, c.1 = false := by
    intro c hcm
    rcases List.mem_append.1 hcm with hcm | hcm
    ·rw [hmd] at hcm
     unfold Z8 at hcm
     split at hcm
     ·rename_i h9
      simp at hcm; subst hcm
      have := QF (hty h9)
      cases hn : nl1 with
      | false => rfl
      | true => have := fl1 hn; subst this; simp at *
     ·simp at hcm; obtain ⟨a, _, rfl⟩ := hcm; rfl
    ·exact hcf c hcm
   have cc := ZoM [(more.isEmpty, more), (nlc, ctx)] (by simp) (by simp [lnC]; omega)
   have ce : flC [(more.isEmpty, more), (nlc, ctx)] = more ++ ctx := by simp [flC]
   rw [ce] at cc
   have recu := ih k (!ltB 0 ((more ++ ctx).length : Int)) (more ++ ctx) (by omega) hkw hkf hmok hmf (by rw [List.length_append]; omega) (by rw [List.length_append, show ((more.length + ctx.length : Nat) : Int) = ctx.length + Qt op i by omega]; exact hkform)
   rw [List.map_append, hms] at recu
   clear hmok hmf ce
   generalize more ++ ctx = mc at cc recu
   have hg0 : ∀ r : Int × List Int, Q9 s (ctx.map Prod.snd) op n gty ds (k :: List.drop (i + 1) ks) = .bad r.1 r.2 → Qq s (ctx.map Prod.snd) (GTerm.mk op n nl1 gty nl2 ks) = .bad r.1 r.2 := fun r h => by rw [Qq, tell, h]
   have hgoodI : ∀ x, Qq s (QB op gty i (first ds) ++ ctx.map Prod.snd) k = .ok x → x.good s ((ctx.map Prod.snd).length + (Qt op i).toNat) := fun x hx => by
    have := JT t k (QB op gty i (first ds) ++ ctx.map Prod.snd) x (by rw [← len]; exact ext_ok hcs (fun h => hty h) kok)
     (by rw [List.length_append, ZcI, cxl, show (((Qt op i).toNat + ctx.length : Nat) : Int) = ctx.length + Qt op i by omega]; exact hkform) hx
    rw [List.length_append, ZcI, Nat.add_comm] at this
    exact this
   have hbadI : ∀ f p, Qq s (QB op gty i (first ds) ++ ctx.map Prod.snd) k = .bad f p → Qq s (ctx.map Prod.snd) (GTerm.mk op n nl1 gty nl2 ks) = .bad f ((i : Int) :: p) := fun f p h =>
    hg0 (f, (i : Int) :: p) (by rw [Q9, len, h])
   have hfbI : ∀ x, Qq s (QB op gty i (first ds) ++ ctx.map Prod.snd) k = .ok x → QK s op n i (hd x.ty) ≠ 0 → Qq s (ctx.map Prod.snd) (GTerm.mk op n nl1 gty nl2 ks) = .bad (QK s op n i (hd x.ty)) [] := fun x h h2 =>
    hg0 (QK s op n i (hd x.ty), []) (by rw [Q9, len, h]; simp only; rw [if_pos h2])
   have hsameI : ∀ x, Qq s (QB op gty i (first ds) ++ ctx.map Prod.snd) k = .ok x → QK s op n i (hd x.ty) = 0 → (op = 10 ∧ i = 1 ∧ x.ty ≠ QI (first ds)) → Qq s (ctx.map Prod.snd) (GTerm.mk op n nl1 gty nl2 ks) = .bad 3 [] := fun x h h2 h3 =>
    hg0 (3, []) (by rw [Q9, len, h]; simp only; rw [if_neg (by simpa using h2), if_pos h3])
   have hnextI : ∀ x, Qq s (QB op gty i (first ds) ++ ctx.map Prod.snd) k = .ok x → QK s op n i (hd x.ty) = 0 → ¬ (op = 10 ∧ i = 1 ∧ x.ty ≠ QI (first ds)) → Q9 s (ctx.map Prod.snd) op n gty [] ks = Q9 s (ctx.map Prod.snd) op n gty (ds ++ [x]) (List.drop (i + 1) ks) := fun x h h2 h3 => by
    rw [tell, Q9, len, h]; simp only; rw [if_neg (by simpa using h2), if_neg h3]
   have hthree : (i = 0 ∧ op ≠ 9) ∨ (i = 0 ∧ op = 9) ∨ 0 < i := by omega
   rcases hthree with ⟨hi0, h9⟩ | ⟨hi0, h9⟩ | hi0
   ·subst hi0
    simp only [Int.natCast_zero] at hb hix e24
    have h9b : eqB op 9 = false := by rw [Qc]; exact h9
    have hz : ltB 0 0 = false := by rw [Qg]; omega
    have hme : more = [] := List.eq_nil_of_length_eq_zero (by rw [hml]; unfold Qt; rw [if_neg (by omega), if_neg (by omega)]; rfl)
    have em : LV.sl false true 1 [] = LV.sl false more.isEmpty 1 (more.map fun c => [eC c]) := by rw [hme]; rfl
    simp (disch := omega) [e1, e3, e5, e7, e8, e9, e22, e23, e24, hb, hix, h9b, hz, Ql]
    rw [em]
    refine Qa cc (by simp) ?_
    simp (disch := omega) [e1, e3, e5, e7, e8, e9, e22, e23, e24, hb, hix]
    refine Qi recu (by simp) ?_
    intro r hr1
    cases hT : Qq s (QB op gty 0 (first ds) ++ List.map Prod.snd ctx) k with
    | bad f p =>
     rw [hT] at hr1
     obtain ⟨hf0, n4, hsr2⟩ := hr1
     have hfb : eqB f 0 = false := by rw [Qc]; exact hf0
     have hpl := K0 k _ f p hT
     have hpm : 1 + p.length ≤ most := by unfold most; omega
     have hres := hbadI f p hT
     simp (disch := omega) [e1, e3, e5, e7, e8, e9, e22, e23, e24, hb, hix, hsr2, hfb, Ql, WF, hpm, Qw]
     refine Q5 (.inr rfl) (by simp) (VH (f := f) (u := true) (nl := false) (p := (0 : Int) :: p) (by simp) ?_)
     rw [hres]
     exact ⟨hf0, false, by simp⟩
    | ok x =>
     have hgood := hgoodI x hT
     have hfb := hfbI x hT
     have hsame := hsameI x hT
     have hnext := hnextI x hT
     rw [hT] at hr1
     obtain ⟨xty, xnd, xks⟩ := x
     have hxis : (TT.mk xty xnd xks).is (share r) := hr1
     simp only [Res.is, TT.is] at hr1
     obtain ⟨n3, n4, xrows, hsr2, hxr⟩ := hr1
     simp only [TT.ty_mk] at hfb hsame hnext
     have hgt : okL s.size xty = true := hgood.1
     have fo := ZbC t (GTerm.mk op n nl1 gty nl2 ks) op n nl1 gty nl2 ks rfl 0 (by omega) xty hgt no.op13 (fun h => no.grade (by rcases h with h | h | h <;> (subst h; simp [JD, Qd])))
     simp only [GTerm.lv, GTerm.cells] at fo
     simp (disch := omega) [e1, e3, e5, e7, e8, e9, e22, e23, e24, hb, hix, hsr2, Ql]
     refine Qa fo (by simp) ?_
     simp (disch := omega) [e1, e3, e5, e7, e8, e9, e22, e23, e24, hb, hix, hsr2, Ql]
     by_cases hq : QK s op n 0 (hd xty) = 0
     ·rw [hq]
      have hz0 : eqB 0 0 = true := by rw [Qd]
      simp (disch := omega) [e1, e3, e5, e7, e8, e9, e22, e23, e24, hb, hix, hsr2, Ql, hz0]
      by_cases h10 : op = 10
      ·by_cases h19 : op = 9
       ·exfalso; omega
       ·have h10b : eqB op 10 = true := by rw [Qd]; exact h10
        by_cases hi1 : 0 = 1
        ·exfalso; omega
        ·have hi1b : eqB 0 1 = false := by rw [Qc]; omega
         have hxl : xnd.length = ctx.length + more.length := by have := hgood.2.1; rw [cxl] at this; rw [hml]; exact this
         have hak : ∀ v, WF 1 (.sl true ds.isEmpty 1 Qk) (.sl true false 1 [[v]]) = some (.sl true false 1 (Qk ++ [[v]])) := fun v => by
          simp only [WF]
          rw [if_pos ⟨.inl trivial, .inl trivial, .inl trivial, by simp [most]; omega⟩]
          simp
         have hau := Zaj (c := uds) (by omega) false xnd more.length
         have han := Zam (c := nds) (by omega) false xnd more.length
         have hc1 := V7 (n2 := false) (l := xnd) (k := more.length) (by omega)
         have hc2 := YV (n2 := false) (l := xnd) (k := more.length) (by omega)
         have hxs := (Xu _ xrows hxr).1
         have hnot : ¬ (op = 10 ∧ 0 = 1 ∧ xty ≠ QI (first ds)) := fun h => hi1 h.2.1
         have fin : ∀ (T : Nat → LV) (H : List Box), T 24 = N (0 + 1) → T 8 = VS (nds ++ [(false, xnd.drop more.length)]) → T 9 = VS (uds ++ [(false, xnd.take more.length)]) → H = none :: none :: some ((WC (ctx.map Prod.snd).length).map N) :: ZfA (.sl true true 1 []) (.ha 2 1 0 (ctx.map Prod.snd).length (ctx.map Prod.snd).length) true (ds ++ [TT.mk xty xnd xks]).isEmpty (Qk ++ [[share r]]) :: (hr ++ [some k.cells]) → 0 < ks.length ∧ ∃ ds Qk nds uds hr, TypJ s (ctx.map Prod.snd) op n gty ks (0 + 1) T H ds Qk nds uds hr := fun T H q1 q2 q3 q4 =>
          ⟨h6, ds ++ [TT.mk xty xnd xks], Qk ++ [[share r]], nds ++ [(false, xnd.drop more.length)], uds ++ [(false, xnd.take more.length)], hr ++ [some k.cells], Va ds Qk _ _ are hxis, by simp [len],
           kok.snoc (by rw [len]; exact hgood) (by rw [len]; exact hq) (by rw [len]; exact hnot), hnext hq hnot, by simp [ulen], by simp [nlen],
           ZZ us (fun j hj => by unfold usP; rw [YW (by omega)]) (by unfold usP; rw [Ya (by omega), hml, ulen]; rfl),
           ZZ nd (fun j hj => by unfold ndP; rw [YW (by omega)]) (by unfold ndP; rw [Ya (by omega), hml, nlen]; rfl), (ZcE nf),
           by simpa using q1, q2, q3, q4⟩
         simp (disch := omega) [e1, e3, e5, e7, e8, e9, e22, e23, e24, hb, hix, hsr2, Ql, h10b, hi1b, ZB, YC, hak, hau, han, hc1, hc2, hxs, Qf]
         first
          | exact fin _ _ (by simp) (by simp) (by simp) (by simp [hsr2])
          | (trace_state; simp (disch := omega) [e1, e3, e5, e7, e8, e9, e22, e23, e24, hb, hix, hsr2, Ql, h10b, hi1b, ZB, YC, hak, hau, han, hc1, hc2, hxs, Qf]; exact fin _ _ (by simp) (by simp) (by simp) (by simp [hsr2]))
      ·have h10b : eqB op 10 = false := by rw [Qc]; exact h10
       have hxl : xnd.length = ctx.length + more.length := by have := hgood.2.1; rw [cxl] at this; rw [hml]; exact this
       have hak : ∀ v, WF 1 (.sl true ds.isEmpty 1 Qk) (.sl true false 1 [[v]]) = some (.sl true false 1 (Qk ++ [[v]])) := fun v => by
        simp only [WF]
        rw [if_pos ⟨.inl trivial, .inl trivial, .inl trivial, by simp [most]; omega⟩]
        simp
       have hau := Zaj (c := uds) (by omega) false xnd more.length
       have han := Zam (c := nds) (by omega) false xnd more.length
       have hc1 := V7 (n2 := false) (l := xnd) (k := more.length) (by omega)
       have hc2 := YV (n2 := false) (l := xnd) (k := more.length) (by omega)
       have hxs := (Xu _ xrows hxr).1
       have hnot : ¬ (op = 10 ∧ 0 = 1 ∧ xty ≠ QI (first ds)) := fun h => h10 h.1
       have fin : ∀ (T : Nat → LV) (H : List Box), T 24 = N (0 + 1) → T 8 = VS (nds ++ [(false, xnd.drop more.length)]) → T 9 = VS (uds ++ [(false, xnd.take more.length)]) → H = none :: none :: some ((WC (ctx.map Prod.snd).length).map N) :: ZfA (.sl true true 1 []) (.ha 2 1 0 (ctx.map Prod.snd).length (ctx.map Prod.snd).length) true (ds ++ [TT.mk xty xnd xks]).isEmpty (Qk ++ [[share r]]) :: (hr ++ [some k.cells]) → 0 < ks.length ∧ ∃ ds Qk nds uds hr, TypJ s (ctx.map Prod.snd) op n gty ks (0 + 1) T H ds Qk nds uds hr := fun T H q1 q2 q3 q4 =>
        ⟨h6, ds ++ [TT.mk xty xnd xks], Qk ++ [[share r]], nds ++ [(false, xnd.drop more.length)], uds ++ [(false, xnd.take more.length)], hr ++ [some k.cells], Va ds Qk _ _ are hxis, by simp [len],
         kok.snoc (by rw [len]; exact hgood) (by rw [len]; exact hq) (by rw [len]; exact hnot), hnext hq hnot, by simp [ulen], by simp [nlen],
         ZZ us (fun j hj => by unfold usP; rw [YW (by omega)]) (by unfold usP; rw [Ya (by omega), hml, ulen]; rfl),
         ZZ nd (fun j hj => by unfold ndP; rw [YW (by omega)]) (by unfold ndP; rw [Ya (by omega), hml, nlen]; rfl), (ZcE nf),
         by simpa using q1, q2, q3, q4⟩
       simp (disch := omega) [e1, e3, e5, e7, e8, e9, e22, e23, e24, hb, hix, hsr2, Ql, h10b, ZB, YC, hak, hau, han, hc1, hc2, hxs, Qf]
       first
        | exact fin _ _ (by simp) (by simp) (by simp) (by simp [hsr2])
        | (trace_state; simp (disch := omega) [e1, e3, e5, e7, e8, e9, e22, e23, e24, hb, hix, hsr2, Ql, h10b, ZB, YC, hak, hau, han, hc1, hc2, hxs, Qf]; exact fin _ _ (by simp) (by simp) (by simp) (by simp [hsr2]))
     ·have hq0 : eqB (QK s op n 0 (hd xty)) 0 = false := by rw [Qc]; exact hq
      have hres := hfb hq
      simp (disch := omega) [e1, e3, e5, e7, e8, e9, e22, e23, e24, hb, hix, hsr2, Ql, hq0, Qw]
      refine Q5 (.inr rfl) (by simp) (VH (f := QK s op n 0 (hd xty)) (u := true) (nl := true) (p := []) (by simp) ?_)
      rw [hres]
      exact ⟨hq, true, by simp⟩
   ·subst hi0
    simp only [Int.natCast_zero] at hb hix e24
    have h9b : eqB op 9 = true := by rw [Qd]; exact h9
    have hz : ltB 0 0 = false := by rw [Qg]; omega
    have had := Zkl (GTerm.mk op n nl1 gty nl2 ks) op n nl1 gty nl2 ks rfl no.op13 0 (by omega) true [] (size := s.size) (fun h => absurd rfl h)
    have hmd' : Z8 op nl1 gty 0 [] = more := by rw [hmd]; simp [Z8, h9]
    rw [hmd'] at had
    simp only [GTerm.lv, GTerm.cells] at had
    simp (disch := omega) [e1, e3, e5, e7, e8, e9, e22, e23, e24, hb, hix, h9b, hz, Ql]
    refine Qa had (by simp) ?_
    simp (disch := omega) [e1, e3, e5, e7, e8, e9, e22, e23, e24, hb, hix, h9b, hz, Ql]
    refine Qa cc (by simp) ?_
    simp (disch := omega) [e1, e3, e5, e7, e8, e9, e22, e23, e24, hb, hix]
    refine Qi recu (by simp) ?_
    intro r hr1
    cases hT : Qq s (QB op gty 0 (first ds) ++ List.map Prod.snd ctx) k with
    | bad f p =>
     rw [hT] at hr1
     obtain ⟨hf0, n4, hsr2⟩ := hr1
     have hfb : eqB f 0 = false := by rw [Qc]; exact hf0
     have hpl := K0 k _ f p hT
     have hpm : 1 + p.length ≤ most := by unfold most; omega
     have hres := hbadI f p hT
     simp (disch := omega) [e1, e3, e5, e7, e8, e9, e22, e23, e24, hb, hix, hsr2, hfb, Ql, WF, hpm, Qw]
     refine Q5 (.inr rfl) (by simp) (VH (f := f) (u := true) (nl := false) (p := (0 : Int) :: p) (by simp) ?_)
     rw [hres]
     exact ⟨hf0, false, by simp⟩
    | ok x =>
     have hgood := hgoodI x hT
     have hfb := hfbI x hT
     have hsame := hsameI x hT
     have hnext := hnextI x hT
     rw [hT] at hr1
     obtain ⟨xty, xnd, xks⟩ := x
     have hxis : (TT.mk xty xnd xks).is (share r) := hr1
     simp only [Res.is, TT.is] at hr1
     obtain ⟨n3, n4, xrows, hsr2, hxr⟩ := hr1
     simp only [TT.ty_mk] at hfb hsame hnext
     have hgt : okL s.size xty = true := hgood.1
     have fo := ZbC t (GTerm.mk op n nl1 gty nl2 ks) op n nl1 gty nl2 ks rfl 0 (by omega) xty hgt no.op13 (fun h => no.grade (by rcases h with h | h | h <;> (subst h; simp [JD, Qd])))
     simp only [GTerm.lv, GTerm.cells] at fo
     simp (disch := omega) [e1, e3, e5, e7, e8, e9, e22, e23, e24, hb, hix, hsr2, Ql]
     refine Qa fo (by simp) ?_
     simp (disch := omega) [e1, e3, e5, e7, e8, e9, e22, e23, e24, hb, hix, hsr2, Ql]
     by_cases hq : QK s op n 0 (hd xty) = 0
     ·rw [hq]
      have hz0 : eqB 0 0 = true := by rw [Qd]
      simp (disch := omega) [e1, e3, e5, e7, e8, e9, e22, e23, e24, hb, hix, hsr2, Ql, hz0]
      have h10b : eqB op 10 = false := by rw [Qc]; omega
      have hxl : xnd.length = ctx.length + more.length := by have := hgood.2.1; rw [cxl] at this; rw [hml]; exact this
      have hak : ∀ v, WF 1 (.sl true ds.isEmpty 1 Qk) (.sl true false 1 [[v]]) = some (.sl true false 1 (Qk ++ [[v]])) := fun v => by
       simp only [WF]
       rw [if_pos ⟨.inl trivial, .inl trivial, .inl trivial, by simp [most]; omega⟩]
       simp
      have hau := Zaj (c := uds) (by omega) false xnd more.length
      have han := Zam (c := nds) (by omega) false xnd more.length
      have hc1 := V7 (n2 := false) (l := xnd) (k := more.length) (by omega)
      have hc2 := YV (n2 := false) (l := xnd) (k := more.length) (by omega)
      have hxs := (Xu _ xrows hxr).1
      have hnot : ¬ (op = 10 ∧ 0 = 1 ∧ xty ≠ QI (first ds)) := fun h => by omega
      have fin : ∀ (T : Nat → LV) (H : List Box), T 24 = N (0 + 1) → T 8 = VS (nds ++ [(false, xnd.drop more.length)]) → T 9 = VS (uds ++ [(false, xnd.take more.length)]) → H = none :: none :: some ((WC (ctx.map Prod.snd).length).map N) :: ZfA (.sl true true 1 []) (.ha 2 1 0 (ctx.map Prod.snd).length (ctx.map Prod.snd).length) true (ds ++ [TT.mk xty xnd xks]).isEmpty (Qk ++ [[share r]]) :: (hr ++ [some k.cells]) → 0 < ks.length ∧ ∃ ds Qk nds uds hr, TypJ s (ctx.map Prod.snd) op n gty ks (0 + 1) T H ds Qk nds uds hr := fun T H q1 q2 q3 q4 =>
       ⟨h6, ds ++ [TT.mk xty xnd xks], Qk ++ [[share r]], nds ++ [(false, xnd.drop more.length)], uds ++ [(false, xnd.take more.length)], hr ++ [some k.cells], Va ds Qk _ _ are hxis, by simp [len],
        kok.snoc (by rw [len]; exact hgood) (by rw [len]; exact hq) (by rw [len]; exact hnot), hnext hq hnot, by simp [ulen], by simp [nlen],
        ZZ us (fun j hj => by unfold usP; rw [YW (by omega)]) (by unfold usP; rw [Ya (by omega), hml, ulen]; rfl),
        ZZ nd (fun j hj => by unfold ndP; rw [YW (by omega)]) (by unfold ndP; rw [Ya (by omega), hml, nlen]; rfl), (ZcE nf),
        by simpa using q1, q2, q3, q4⟩
      simp (disch := omega) [e1, e3, e5, e7, e8, e9, e22, e23, e24, hb, hix, hsr2, Ql, h10b, ZB, YC, hak, hau, han, hc1, hc2, hxs, Qf]
      first
       | exact fin _ _ (by simp) (by simp) (by simp) (by simp [hsr2])
       | (trace_state; simp (disch := omega) [e1, e3, e5, e7, e8, e9, e22, e23, e24, hb, hix, hsr2, Ql, h10b, ZB, YC, hak, hau, han, hc1, hc2, hxs, Qf]; exact fin _ _ (by simp) (by simp) (by simp) (by simp [hsr2]))
     ·have hq0 : eqB (QK s op n 0 (hd xty)) 0 = false := by rw [Qc]; exact hq
      have hres := hfb hq
      simp (disch := omega) [e1, e3, e5, e7, e8, e9, e22, e23, e24, hb, hix, hsr2, Ql, hq0, Qw]
      refine Q5 (.inr rfl) (by simp) (VH (f := QK s op n 0 (hd xty)) (u := true) (nl := true) (p := []) (by simp) ?_)
      rw [hres]
      exact ⟨hq, true, by simp⟩
   ·have hz : ltB 0 (i : Int) = true := by rw [Qh]; omega
    have had := Zkl (GTerm.mk op n nl1 gty nl2 ks) op n nl1 gty nl2 ks rfl no.op13 i (by omega) false (first ds) (size := s.size) (fun h => ⟨rfl, hfirst h⟩)
    rw [← hmd] at had
    simp only [GTerm.lv, GTerm.cells] at had
    have hsr := (Xu ds Qk are).1
    obtain ⟨q3, q4, qr, hx0, _⟩ := ZpC are false ds.isEmpty 0 (by omega)
    simp only [Int.natCast_zero] at hx0
    have hqs : ∀ rws, Qu rws = rws → Qu rws = rws := fun _ h => h
    simp (disch := omega) [e1, e3, e5, e7, e8, e9, e22, e23, e24, hb, hix, hz, hsr, hx0, Ql]
    refine Qa had (by simp) ?_
    simp (disch := omega) [e1, e3, e5, e7, e8, e9, e22, e23, e24, hb, hix, hz, hsr, Ql]
    refine Qa cc (by simp) ?_
    simp (disch := omega) [e1, e3, e5, e7, e8, e9, e22, e23, e24, hb, hix]
    refine Qi recu (by simp) ?_
    intro r hr1
    cases hT : Qq s (QB op gty i (first ds) ++ List.map Prod.snd ctx) k with
    | bad f p =>
     rw [hT] at hr1
     obtain ⟨hf0, n4, hsr2⟩ := hr1
     have hfb : eqB f 0 = false := by rw [Qc]; exact hf0
     have hpl := K0 k _ f p hT
     have hpm : 1 + p.length ≤ most := by unfold most; omega
     have hres := hbadI f p hT
     simp (disch := omega) [e1, e3, e5, e7, e8, e9, e22, e23, e24, hb, hix, hsr2, hfb, Ql, WF, hpm, Qw]
     refine Q5 (.inr rfl) (by simp) (VH (f := f) (u := true) (nl := false) (p := (i : Int) :: p) (by simp) ?_)
     rw [hres]
     exact ⟨hf0, false, by simp⟩
    | ok x =>
     have hgood := hgoodI x hT
     have hfb := hfbI x hT
     have hsame := hsameI x hT
     have hnext := hnextI x hT
     rw [hT] at hr1
     obtain ⟨xty, xnd, xks⟩ := x
     have hxis : (TT.mk xty xnd xks).is (share r) := hr1
     simp only [Res.is, TT.is] at hr1
     obtain ⟨n3, n4, xrows, hsr2, hxr⟩ := hr1
     simp only [TT.ty_mk] at hfb hsame hnext
     have hgt : okL s.size xty = true := hgood.1
     have fo := ZbC t (GTerm.mk op n nl1 gty nl2 ks) op n nl1 gty nl2 ks rfl i (by omega) xty hgt no.op13 (fun h => no.grade (by rcases h with h | h | h <;> (subst h; simp [JD, Qd])))
     simp only [GTerm.lv, GTerm.cells] at fo
     simp (disch := omega) [e1, e3, e5, e7, e8, e9, e22, e23, e24, hb, hix, hsr2, Ql]
     refine Qa fo (by simp) ?_
     simp (disch := omega) [e1, e3, e5, e7, e8, e9, e22, e23, e24, hb, hix, hsr2, Ql]
     by_cases hq : QK s op n i (hd xty) = 0
     ·rw [hq]
      have hz0 : eqB 0 0 = true := by rw [Qd]
      simp (disch := omega) [e1, e3, e5, e7, e8, e9, e22, e23, e24, hb, hix, hsr2, Ql, hz0]
      by_cases h10 : op = 10
      ·by_cases h19 : op = 9
       ·exfalso; omega
       ·have h10b : eqB op 10 = true := by rw [Qd]; exact h10
        by_cases hi1 : i = 1
        ·have hi1b : eqB (i : Int) 1 = true := by rw [Qd]; omega
         have hxs0 := (Xu _ xrows hxr).1
         simp (disch := omega) [e1, e3, e5, e7, e8, e9, e22, e23, e24, hb, hix, hsr2, Ql, h10b, hi1b, hsr, hx0, hxs0, ZB, YC]
         have hf1 := hfirst (by omega)
         refine Qa (ZfV (l := tyP ds 0) (Yi hf1.1)) (by simp) ?_
         rw [Zax (l := tyP ds 0) (Jv (hf1.2.2.2.2.1 h10))]
         have hx1 : QN 1 (.sl true false 1 [[L false (QI (tyP ds 0))], [L false (Wv (tyP ds 0))]]) 0 = some (.rp [L false (QI (tyP ds 0))]) := by simp [QN]
         simp (disch := omega) [e1, e3, e5, e7, e8, e9, e22, e23, e24, hb, hix, hsr2, Ql, hx1]
         have hlx := QF hgt
         refine Qa (Zim false false xty (QI (tyP ds 0)) (by omega)) (by simp) ?_
         cases he : (xty == QI (tyP ds 0))
         ·have he2 : xty ≠ QI (tyP ds 0) := by simpa using he
          have hres := hsame hq ⟨h10, hi1, he2⟩
          simp (disch := omega) [e1, e3, e5, e7, e8, e9, e22, e23, e24, hb, hix, hsr2, Ql, Qw]
          refine Q5 (.inr rfl) (by simp) (VH (f := 3) (u := true) (nl := true) (p := []) (by simp) ?_)
          rw [hres]
          exact ⟨by omega, true, by simp⟩
         ·have he' : xty = QI (first ds) := by simpa [first] using he
          have hxl : xnd.length = ctx.length + more.length := by have := hgood.2.1; rw [cxl] at this; rw [hml]; exact this
          have hak : ∀ v, WF 1 (.sl true ds.isEmpty 1 Qk) (.sl true false 1 [[v]]) = some (.sl true false 1 (Qk ++ [[v]])) := fun v => by
           simp only [WF]
           rw [if_pos ⟨.inl trivial, .inl trivial, .inl trivial, by simp [most]; omega⟩]
           simp
          have hau := Zaj (c := uds) (by omega) false xnd more.length
          have han := Zam (c := nds) (by omega) false xnd more.length
          have hc1 := V7 (n2 := false) (l := xnd) (k := more.length) (by omega)
          have hc2 := YV (n2 := false) (l := xnd) (k := more.length) (by omega)
          have hxs := (Xu _ xrows hxr).1
          have hnot : ¬ (op = 10 ∧ i = 1 ∧ xty ≠ QI (first ds)) := fun h => h.2.2 he'
          have fin : ∀ (T : Nat → LV) (H : List Box), T 24 = N ((i : Int) + 1) → T 8 = VS (nds ++ [(false, xnd.drop more.length)]) → T 9 = VS (uds ++ [(false, xnd.take more.length)]) → H = none :: none :: some ((WC (ctx.map Prod.snd).length).map N) :: ZfA (.sl true true 1 []) (.ha 2 1 0 (ctx.map Prod.snd).length (ctx.map Prod.snd).length) true (ds ++ [TT.mk xty xnd xks]).isEmpty (Qk ++ [[share r]]) :: (hr ++ [some k.cells]) → i < ks.length ∧ ∃ ds Qk nds uds hr, TypJ s (ctx.map Prod.snd) op n gty ks (i + 1) T H ds Qk nds uds hr := fun T H q1 q2 q3 q4 =>
           ⟨h6, ds ++ [TT.mk xty xnd xks], Qk ++ [[share r]], nds ++ [(false, xnd.drop more.length)], uds ++ [(false, xnd.take more.length)], hr ++ [some k.cells], Va ds Qk _ _ are hxis, by simp [len],
            kok.snoc (by rw [len]; exact hgood) (by rw [len]; exact hq) (by rw [len]; exact hnot), hnext hq hnot, by simp [ulen], by simp [nlen],
            ZZ us (fun j hj => by unfold usP; rw [YW (by omega)]) (by unfold usP; rw [Ya (by omega), hml, ulen]; rfl),
            ZZ nd (fun j hj => by unfold ndP; rw [YW (by omega)]) (by unfold ndP; rw [Ya (by omega), hml, nlen]; rfl), (ZcE nf),
            by simpa using q1, q2, q3, q4⟩
          simp (disch := omega) [e1, e3, e5, e7, e8, e9, e22, e23, e24, hb, hix, hsr2, Ql, h10b, hi1b, ZB, YC, hak, hau, han, hc1, hc2, hxs, Qf]
          first
           | exact fin _ _ (by simp) (by simp) (by simp) (by simp [hsr2])
           | (trace_state; simp (disch := omega) [e1, e3, e5, e7, e8, e9, e22, e23, e24, hb, hix, hsr2, Ql, h10b, hi1b, ZB, YC, hak, hau, han, hc1, hc2, hxs, Qf]; exact fin _ _ (by simp) (by simp) (by simp) (by simp [hsr2]))
        ·have hi1b : eqB (i : Int) 1 = false := by rw [Qc]; omega
         have hxl : xnd.length = ctx.length + more.length := by have := hgood.2.1; rw [cxl] at this; rw [hml]; exact this
         have hak : ∀ v, WF 1 (.sl true ds.isEmpty 1 Qk) (.sl true false 1 [[v]]) = some (.sl true false 1 (Qk ++ [[v]])) := fun v => by
          simp only [WF]
          rw [if_pos ⟨.inl trivial, .inl trivial, .inl trivial, by simp [most]; omega⟩]
          simp
         have hau := Zaj (c := uds) (by omega) false xnd more.length
         have han := Zam (c := nds) (by omega) false xnd more.length
         have hc1 := V7 (n2 := false) (l := xnd) (k := more.length) (by omega)
         have hc2 := YV (n2 := false) (l := xnd) (k := more.length) (by omega)
         have hxs := (Xu _ xrows hxr).1
         have hnot : ¬ (op = 10 ∧ i = 1 ∧ xty ≠ QI (first ds)) := fun h => hi1 h.2.1
         have fin : ∀ (T : Nat → LV) (H : List Box), T 24 = N ((i : Int) + 1) → T 8 = VS (nds ++ [(false, xnd.drop more.length)]) → T 9 = VS (uds ++ [(false, xnd.take more.length)]) → H = none :: none :: some ((WC (ctx.map Prod.snd).length).map N) :: ZfA (.sl true true 1 []) (.ha 2 1 0 (ctx.map Prod.snd).length (ctx.map Prod.snd).length) true (ds ++ [TT.mk xty xnd xks]).isEmpty (Qk ++ [[share r]]) :: (hr ++ [some k.cells]) → i < ks.length ∧ ∃ ds Qk nds uds hr, TypJ s (ctx.map Prod.snd) op n gty ks (i + 1) T H ds Qk nds uds hr := fun T H q1 q2 q3 q4 =>
          ⟨h6, ds ++ [TT.mk xty xnd xks], Qk ++ [[share r]], nds ++ [(false, xnd.drop more.length)], uds ++ [(false, xnd.take more.length)], hr ++ [some k.cells], Va ds Qk _ _ are hxis, by simp [len],
           kok.snoc (by rw [len]; exact hgood) (by rw [len]; exact hq) (by rw [len]; exact hnot), hnext hq hnot, by simp [ulen], by simp [nlen],
           ZZ us (fun j hj => by unfold usP; rw [YW (by omega)]) (by unfold usP; rw [Ya (by omega), hml, ulen]; rfl),
           ZZ nd (fun j hj => by unfold ndP; rw [YW (by omega)]) (by unfold ndP; rw [Ya (by omega), hml, nlen]; rfl), (ZcE nf),
           by simpa using q1, q2, q3, q4⟩
         simp (disch := omega) [e1, e3, e5, e7, e8, e9, e22, e23, e24, hb, hix, hsr2, Ql, h10b, hi1b, ZB, YC, hak, hau, han, hc1, hc2, hxs, Qf]
         first
          | exact fin _ _ (by simp) (by simp) (by simp) (by simp [hsr2])
          | (trace_state; simp (disch := omega) [e1, e3, e5, e7, e8, e9, e22, e23, e24, hb, hix, hsr2, Ql, h10b, hi1b, ZB, YC, hak, hau, han, hc1, hc2, hxs, Qf]; exact fin _ _ (by simp) (by simp) (by simp) (by simp [hsr2]))
      ·have h10b : eqB op 10 = false := by rw [Qc]; exact h10
       have hxl : xnd.length = ctx.length + more.length := by have := hgood.2.1; rw [cxl] at this; rw [hml]; exact this
       have hak : ∀ v, WF 1 (.sl true ds.isEmpty 1 Qk) (.sl true false 1 [[v]]) = some (.sl true false 1 (Qk ++ [[v]])) := fun v => by
        simp only [WF]
        rw [if_pos ⟨.inl trivial, .inl trivial, .inl trivial, by simp [most]; omega⟩]
        simp
       have hau := Zaj (c := uds) (by omega) false xnd more.length
       have han := Zam (c := nds) (by omega) false xnd more.length
       have hc1 := V7 (n2 := false) (l := xnd) (k := more.length) (by omega)
       have hc2 := YV (n2 := false) (l := xnd) (k := more.length) (by omega)
       have hxs := (Xu _ xrows hxr).1
       have hnot : ¬ (op = 10 ∧ i = 1 ∧ xty ≠ QI (first ds)) := fun h => h10 h.1
       have fin : ∀ (T : Nat → LV) (H : List Box), T 24 = N ((i : Int) + 1) → T 8 = VS (nds ++ [(false, xnd.drop more.length)]) → T 9 = VS (uds ++ [(false, xnd.take more.length)]) → H = none :: none :: some ((WC (ctx.map Prod.snd).length).map N) :: ZfA (.sl true true 1 []) (.ha 2 1 0 (ctx.map Prod.snd).length (ctx.map Prod.snd).length) true (ds ++ [TT.mk xty xnd xks]).isEmpty (Qk ++ [[share r]]) :: (hr ++ [some k.cells]) → i < ks.length ∧ ∃ ds Qk nds uds hr, TypJ s (ctx.map Prod.snd) op n gty ks (i + 1) T H ds Qk nds uds hr := fun T H q1 q2 q3 q4 =>
        ⟨h6, ds ++ [TT.mk xty xnd xks], Qk ++ [[share r]], nds ++ [(false, xnd.drop more.length)], uds ++ [(false, xnd.take more.length)], hr ++ [some k.cells], Va ds Qk _ _ are hxis, by simp [len],
         kok.snoc (by rw [len]; exact hgood) (by rw [len]; exact hq) (by rw [len]; exact hnot), hnext hq hnot, by simp [ulen], by simp [nlen],
         ZZ us (fun j hj => by unfold usP; rw [YW (by omega)]) (by unfold usP; rw [Ya (by omega), hml, ulen]; rfl),
         ZZ nd (fun j hj => by unfold ndP; rw [YW (by omega)]) (by unfold ndP; rw [Ya (by omega), hml, nlen]; rfl), (ZcE nf),
         by simpa using q1, q2, q3, q4⟩
       simp (disch := omega) [e1, e3, e5, e7, e8, e9, e22, e23, e24, hb, hix, hsr2, Ql, h10b, ZB, YC, hak, hau, han, hc1, hc2, hxs, Qf]
       first
        | exact fin _ _ (by simp) (by simp) (by simp) (by simp [hsr2])
        | (trace_state; simp (disch := omega) [e1, e3, e5, e7, e8, e9, e22, e23, e24, hb, hix, hsr2, Ql, h10b, ZB, YC, hak, hau, han, hc1, hc2, hxs, Qf]; exact fin _ _ (by simp) (by simp) (by simp) (by simp [hsr2]))
     ·have hq0 : eqB (QK s op n i (hd xty)) 0 = false := by rw [Qc]; exact hq
      have hres := hfb hq
      simp (disch := omega) [e1, e3, e5, e7, e8, e9, e22, e23, e24, hb, hix, hsr2, Ql, hq0, Qw]
      refine Q5 (.inr rfl) (by simp) (VH (f := QK s op n i (hd xty)) (u := true) (nl := true) (p := []) (by simp) ?_)
      rw [hres]
      exact ⟨hq, true, by simp⟩
  ·rintro t1 hh hf ⟨ds, Qk, nds, uds, hr, J⟩
   (have e1 := hf 1 (by kernel_rfl); have e3 := hf 3 (by kernel_rfl); have e5 := hf 5 (by kernel_rfl); have e7 := hf 7 (by kernel_rfl); clear hf; simp [] at e1 e3 e5 e7)
   obtain ⟨are, len, kok, tell, ulen, nlen, us, nd, nf, e24, e8, e9, rfl⟩ := J
   rw [List.drop_length, Q9] at tell
   simp (disch := omega) [e1, e3, e5, e7, e8, e9]
   have no' : NodeOk s ctx.length op n gty ds.length := by rw [len]; exact no
   have kok' : KidsOk s ctx.length op n ds := by rw [← cxl]; exact kok
   have hnd : ∀ j, j < ds.length → QN 1 (LC nds.isEmpty nds) (j : Int) = some (.rp [L false (ndP op ds j)]) := fun j hj => by
    have h1 := nf _ (List.getElem_mem (show j < nds.length by omega))
    rw [KI nds nds.isEmpty j (by omega), ← nd j (by omega)]
    show some (LV.rp [L (nds[j]'(by omega)).1 (nds[j]'(by omega)).2]) = _
    rw [h1]
   have hud : ∀ j, j < ds.length → ∃ f, QN 1 (LC uds.isEmpty uds) (j : Int) = some (.rp [L f (usP op ds j)]) := fun j hj =>
    ⟨(uds[j]'(by omega)).1, by rw [KI uds uds.isEmpty j (by omega), ← us j (by omega)]⟩
   have fin := Zon hsy nlc ctx (by omega) hc hcf op n nl1 gty nl2 ks ds no' kok' Qk are true ds.isEmpty nds.isEmpty uds.isEmpty nds uds hnd hud hr ctx.length rfl
   simp only [GTerm.lv, GTerm.cells] at fin
   refine WH (by simpa only [cxl] using fin) ?_
   rintro r h' ⟨rfl, T, ndv, c2, hr', rfl, hfin⟩
   have hT : Qq s (ctx.map Prod.snd) (GTerm.mk op n nl1 gty nl2 ks) = if (WE s (ctx.map Prod.snd) op n gty ds).1 = 0 then .ok (.mk (WE s (ctx.map Prod.snd) op n gty ds).2.1 (WE s (ctx.map Prod.snd) op n gty ds).2.2 ds) else .bad (WE s (ctx.map Prod.snd) op n gty ds).1 [] := by
    rw [Qq, tell]
   generalize WE s (ctx.map Prod.snd) op n gty ds = q at hfin hT
   obtain ⟨F, Q1, Q2⟩ := q
   simp only at hfin hT
   have hsr := Xu ds Qk are
   by_cases hF : F = 0
   ·subst hF
    obtain ⟨⟨u, rfl⟩, hn⟩ := hfin rfl
    rw [if_pos rfl] at hT
    have hz0 : eqB 0 0 = true := by rw [Qd]
    simp (disch := omega) [e1, e3, e5, e7, hz0]
    refine Q5 (.inr rfl) (by simp) ?_
    simp
    refine fz_ok hsr.2 hn fun u2 => ?_
    rw [hT]
    exact ⟨ds.isEmpty, true, Qk, by simp [hsr.1], are⟩
   ·have hF0 : eqB F 0 = false := by rw [Qc]; exact hF
    rw [if_neg hF] at hT
    simp (disch := omega) [e1, e3, e5, e7, hF0, Qw]
    refine Q5 (.inr rfl) (by simp) (VH (f := F) (u := true) (nl := true) (p := []) (by simp) ?_)
    rw [hT]
    exact ⟨hF, true, by simp⟩
end Go.Proofs.YtclfngbealdbgaaGreat
namespace Go.Proofs.YtclfngbealdbgaaGreat
open Go Go.TL
open Go.Proofs.YtclfngbealdbgaaGreat.Ty
set_option linter.unusedSimpArgs false
set_option linter.unusedVariables false
set_option maxRecDepth 20000
set_option maxHeartbeats 4000000
theorem Qe.low {P : Program} {f : FuncId} {args : List LV} {R : LV → Prop} (c : Qe P f args R) : Qe P f args (fun r => R r ∧ Low 0 r) :=
 Q7.mono c fun r h' h => ⟨h, h.2⟩
def GTerm.termB (size n : Int) (t : GTerm) : Bool := QO n 0 8 && (decide (t.size ≤ 400) && Xr n size true t)
def inB (s : GSys) (ctx : Wk) (t : GTerm) : Bool := s.sys && (ZdP s.size ctx && t.termB s.size ctx.length)
theorem has_fn {s : GSys} (t : s.Tab) (n : Int) (h : I64 n) : FnB Tryz.prog (.fnm Wm [s.lv]) (N n) (QO n 0 (s.size - 1)) := by
 have h2 := t.lo; have h16 := t.hi
 exact ⟨Wm, [s.lv, N n], by simp [Zj], by simp, Zlb s ⟨by omega, by omega⟩ (by omega) n⟩
theorem Zjk {s : GSys} (t : s.Tab) (nl : Bool) (ty : List Int) (h : Lok ty) : FnB Tryz.prog (.fn Yk [.rp s.cells]) (L nl ty) (wty ty && Zb s.size true ty) := by
 refine ⟨Yk, [L nl ty, .rp s.cells], by simp [Zj], by simp, ?_⟩
 refine Qe.of_codeOf Zei QA (by simp) ⟨_, rfl, by simp⟩ ?_
 simp (disch := omega) [VC]
 refine Qa (Zgn t nl ty h) (by simp) ?_
 simp (disch := omega)
theorem ZmD {s : GSys} (t : s.Tab) (g : GTerm) (hw : g.wf) (n : Int) (hn : I64 n) : Qe Tryz.prog KC [s.lv, g.lv, N n] (· = B (g.termB s.size n)) := by
 refine Qe.of_codeOf ZgH QA (by simp) ⟨_, rfl, by simp⟩ ?_
 by_cases hr : QO n 0 8 = true
 ·rw [QM] at hr
  have hc := Zmy (.fnm Wm [s.lv]) (.fn Yk [.rp s.cells]) (fun m => QO m 0 (s.size - 1)) (fun ty => wty ty && Zb s.size true ty) (by simp) (by simp) (by simp) (by simp) (fun m hm => has_fn t m hm) (fun nl ty h => Zjk t nl ty h) g.size g (by omega) hw n 0 (by omega) (by omega) (by omega) (by omega)
  rw [ZhV (size := s.size) (closed := true) (fun m => by rw [Bool.eq_iff_iff]; simp [QO, Qh, Qg, Qm, Qj, Qd, Qc, Bool.not_true, Bool.not_false]; omega) (fun ty => rfl)] at hc
  have h2 : leB (ZcL (Xr n s.size true g) 0 g.size) 400 = g.termB s.size n := by
   rw [Bool.eq_iff_iff]
   simp only [Qh, Qg, Qm, Qj, Qd, Qc, Bool.not_true, Bool.not_false, ZcL, GTerm.termB, Bool.and_eq_true, decide_eq_true_eq, QM]
   split <;> grind
  have hr' : QO n 0 8 = true := by rw [QM]; exact hr
  simp (disch := omega) [KG, Qw, Qs]
  refine Qa (ZD n 0 8) (by simp) ?_
  simp (disch := omega) [hr']
  refine Qa hc (by simp) ?_
  simp (disch := omega) [h2]
 ·have hr' : QO n 0 8 = false := by simpa using hr
  simp (disch := omega) [KG, Qw, Qs]
  refine Qa (ZD n 0 8) (by simp) ?_
  simp (disch := omega) [hr', GTerm.termB]
theorem Zkj {ctx : Wk} (h : ctx.wf) : I64 (ctx.length : Int) := by have := h.1; unfold I64; omega
structure Arg (s : GSys) (ctx : Wk) (g : GTerm) : Prop where
 sw : s.wf
 cw : ctx.wf
 gw : g.wf
 cf : ∀ c ∈ ctx, Zn c.1 c.2
 gf : g.fl
theorem Arg.flags {s : GSys} {ctx : Wk} {g : GTerm} (a : Arg s ctx g) (h : ZdP s.size ctx = true) : (∀ c ∈ ctx, okL s.size c.2 = true) ∧ (∀ c ∈ ctx, c.1 = false) ∧ ctx.length ≤ 8 := by
 unfold ZdP at h
 rw [Bool.and_eq_true, Qm, YX] at h
 have hk : ∀ c ∈ ctx, okL s.size c.2 = true := by
  intro c hc
  obtain ⟨i, hi, rfl⟩ := List.getElem_of_mem hc
  have := h.2 i hi
  rw [ZlR hi] at this
  exact this
 refine ⟨hk, fun c hc => ?_, by omega⟩
 cases hn : c.1 with
 | false => rfl
 | true => have := a.cf c hc hn; have := QF (hk c hc); simp_all
theorem Zog {s : GSys} {ctx : Wk} {g : GTerm} (a : Arg s ctx g) (nlc : Bool) : Qe Tryz.prog K8 [s.lv, LC nlc ctx, g.lv] (fun r => if inB s ctx g = true then (Qq s (ctx.map Prod.snd) g).is (share r) else r = .sc (.pointer none)) := by
 refine Qe.of_codeOf Zhm QA (by simp) ?_ ?_
 ·by_cases h : inB s ctx g = true
  ·obtain ⟨ys, h1, h2⟩ := res_ex (Qq s (ctx.map Prod.snd) g) fun f p h => Y5 _ _ f p h
   exact ⟨.rp ys, by rw [if_pos h]; exact h1, by simpa using h2⟩
  ·exact ⟨.sc (.pointer none), by rw [if_neg h], by simp⟩
 simp (disch := omega) [ZbL, Qw, Qs]
 refine Qa (ZgF s a.sw) (by simp) ?_
 cases hs : s.sys
 ·simp (disch := omega) [inB, hs]
 ·have t := GSys.sys_of hs
  simp (disch := omega)
  refine Qa (ZkV s t nlc ctx a.cw) (by simp) ?_
  cases hc : ZdP s.size ctx
  ·simp (disch := omega) [inB, hs, hc]
  ·simp (disch := omega)
   refine Qa (ZmD t g a.gw ctx.length (Zkj a.cw)) (by simp) ?_
   cases ht : g.termB s.size ctx.length
   ·simp (disch := omega) [inB, hs, hc, ht]
   ·have hin : inB s ctx g = true := by simp [inB, hs, hc, ht]
    obtain ⟨f1, f2, f3⟩ := a.flags hc
    have ht' := ht
    unfold GTerm.termB at ht'
    simp only [Bool.and_eq_true, decide_eq_true_eq] at ht'
    have ty := typ_ok hs g.size g nlc ctx (Nat.le_refl _) a.gw a.gf f1 f2 (by omega) ht'.2.2
    simp (disch := omega) [take_cells]
    refine Qi (Qe.low ty) (by simp) ?_
    rintro r ⟨hr, lo⟩
    simp (disch := omega) [hin, hr, lo]
def XX (s : GSys) (ctx : Wk) (g : GTerm) : Option TT := if inB s ctx g = true then (match Qq s (ctx.map Prod.snd) g with
 | .ok x => some x
 | .bad _ _ => none) else none
def told3 (x : Option TT) (r : LV) : Prop := match x with
 | some x => r = .tup [OU true false x.ty, OU true false x.needs, B true]
 | none => r = .tup [.sl false true 1 [], .sl false true 1 [], B false]
theorem Zu {s : GSys} {ctx : Wk} {g : GTerm} (a : Arg s ctx g) {x : TT} (h : XX s ctx g = some x) : x.good s ctx.length ∧ s.sys = true ∧ ZdP s.size ctx = true ∧ g.termB s.size ctx.length = true ∧ ctx.length ≤ 8 ∧ Qq s (ctx.map Prod.snd) g = .ok x := by
 unfold XX at h
 split at h
 ·rename_i hin
  unfold inB at hin
  simp only [Bool.and_eq_true] at hin
  obtain ⟨h1, h2, h3⟩ := hin
  obtain ⟨f1, f2, f3⟩ := a.flags h2
  split at h
  ·rename_i y hy
   simp only [Option.some.injEq] at h
   subst h
   have h4 := h3
   unfold GTerm.termB at h4
   simp only [Bool.and_eq_true, decide_eq_true_eq] at h4
   have := JT (GSys.sys_of h1) g (ctx.map Prod.snd) y (fun l hl => by
    obtain ⟨c, hc, rfl⟩ := List.mem_map.1 hl
    exact f1 c hc) (by rw [List.length_map]; exact h4.2.2) hy
   rw [List.length_map] at this
   exact ⟨this, h1, h2, h3, f3, hy⟩
  ·simp at h
 ·simp at h
theorem Zo7 (ys : List LV) : Xg .ptr .eql (.rp ys) (.sc (.pointer none)) = some (B false) := rfl
theorem bin_pnil : Xg .ptr .eql (.sc (.pointer none)) (.sc (.pointer none)) = some (B true) := rfl
theorem Zcx {s : GSys} {ctx : Wk} {g : GTerm} (a : Arg s ctx g) (nlc : Bool) : Qe Tryz.prog Y4 [s.lv, LC nlc ctx, g.lv] (told3 (XX s ctx g)) := by
 refine Qe.of_codeOf ZiJ QA (by simp) ?_ ?_
 ·cases h : XX s ctx g with
  | some x => exact ⟨_, rfl, by simp⟩
  | none => exact ⟨_, rfl, by simp⟩
 simp (disch := omega) [Zc6, Qw, Qs]
 refine Qi (Qe.low (Zog a nlc)) (by simp) ?_
 rintro r ⟨hr, lo⟩
 by_cases hin : inB s ctx g = true
 ·rw [if_pos hin] at hr
  cases hT : Qq s (ctx.map Prod.snd) g with
  | ok x =>
   have hx : XX s ctx g = some x := by simp [XX, hin, hT]
   obtain ⟨hg, _, _, _, hc8, _⟩ := Zu a hx
   rw [hT] at hr
   obtain ⟨ty, nd, ks⟩ := x
   simp only [Res.is, TT.is] at hr
   obtain ⟨n3, n4, Qk, hs2, hrr⟩ := hr
   have hty := QF hg.1
   have hnd := hg.2.1
   simp only [TT.ty_mk, TT.needs_mk] at hty hnd
   rw [hx]
   have hz0 : eqB 0 0 = true := by rw [Qd]
   have hrs := (Xu _ Qk hrr).1
   simp (disch := omega) [hs2, hz0, hrs, Zo7]
   refine Qa (Zcr false ty (by omega)) (by simp) ?_
   simp (disch := omega) [hs2, hz0, hrs, cl]
   refine Qa (Zcr false nd (by omega)) (by simp) ?_
   simp (disch := omega) [hs2, hz0, hrs, cl, told3]
  | bad f p =>
   have hx : XX s ctx g = none := by simp [XX, hin, hT]
   rw [hT] at hr
   obtain ⟨hf, n4, hs2⟩ := hr
   have hf0 : eqB f 0 = false := by rw [Qc]; exact hf
   rw [hx]
   simp (disch := omega) [hs2, hf0, told3, Zo7]
 ·rw [if_neg hin] at hr
  subst hr
  have hx : XX s ctx g = none := by simp [XX, hin]
  rw [hx]
  simp (disch := omega) [told3, bin_pnil]
end Go.Proofs.YtclfngbealdbgaaGreat
namespace Go.Proofs.YtclfngbealdbgaaGreat
open Go Go.TL
open Go.Proofs.YtclfngbealdbgaaGreat.Ty
set_option linter.unusedSimpArgs false
set_option linter.unusedVariables false
set_option maxRecDepth 20000
set_option maxHeartbeats 4000000
theorem ZC (nl : Bool) (l : List Int) (hl : l.length ≤ 1099511627776) : Qe Tryz.prog XB [L nl l] (· = OU true false l) := by
 refine Qe.of_codeOf ZiN QA (by simp) ⟨_, rfl, by simp⟩ ?_
 have hm : l.length ≤ most := hl
 simp (disch := omega) [Zdk, Ql, WF, hm]
theorem KU (n1 n2 : Bool) (a b : List Int) (ha : a.length ≤ 1099511627776) : Qe Tryz.prog XS [L n1 a, L n2 b] (· = B (a == b)) := by
 generalize hq : (a == b) = q
 refine Qe.of_codeOf Zjn QA (by simp) ⟨_, rfl, by simp⟩ ?_
 simp (disch := omega) [Zdr]
 (with_reducible first | refine Qo (fun h1 => ?_) (fun h1 => ?_) | refine Qn (fun h1 => ?_) (fun h1 => ?_))
 ·simp (disch := omega) [h1]
  simp only [Qh, Qg, Qm, Qj, Qd, Qc, Bool.not_true, Bool.not_false] at h1
  refine Xm a.length 0 (fun i t _ => t 5 = N i ∧ q = (a.drop i == b.drop i)) (by simp [hq]) (by omega) ?_
  rintro i t1 hh hf hi ⟨e5, hj⟩
  (have e0 := hf 0 (by kernel_rfl); have e1 := hf 1 (by kernel_rfl); clear hf; simp [] at e0 e1)
  simp (disch := omega) [e0, e1, e5]
  (with_reducible first | refine Qo (fun h6 => ?_) (fun h6 => ?_) | refine Qn (fun h6 => ?_) (fun h6 => ?_))
  ·simp only [Qh, Qg, Qm, Qj, Qd, Qc, Bool.not_true, Bool.not_false] at h6
   have hd1 := List.drop_eq_getElem_cons (l := a) (i := i) (by omega)
   have hd2 := List.drop_eq_getElem_cons (l := b) (i := i) (by omega)
   have hq2 : q = (a[i]'(by omega) == b[i]'(by omega) && (a.drop (i + 1) == b.drop (i + 1))) := by rw [hj, hd1, hd2]; rfl
   clear hd1 hd2 hj
   simp (disch := omega) [e0, e1, e5, W9]
   repeat' (first
  | (with_reducible (first | refine Qo (fun hb_ => ?_) (fun hb_ => ?_) | refine Qn (fun hb_ => ?_) (fun hb_ => ?_)) <;> simp (disch := omega) [hb_, e0, e1, e5, Qf])
  | simp (disch := omega) [e0, e1, e5, Qf])
   all_goals simp only [Qh, Qg, Qm, Qj, Qd, Qc, Bool.not_true, Bool.not_false] at hb_
   ·exact ⟨by omega, by simp [hq2, hb_]⟩
   ·simp [hq2, hb_]
  ·simp only [Qh, Qg, Qm, Qj, Qd, Qc, Bool.not_true, Bool.not_false] at h6
   simp (disch := omega)
   rw [hj, List.drop_of_length_le (by omega), List.drop_of_length_le (by omega)]; simp
 ·simp (disch := omega) [h1]
  simp only [Qh, Qg, Qm, Qj, Qd, Qc, Bool.not_true, Bool.not_false] at h1
  rw [← hq]; simp; intro h; exact h1 (by rw [h])
theorem KT (n : Nat) (hn : n ≤ 1099511627776) : Qe Tryz.prog Y1 [N n] (· = OU true false (WC n)) := by
 refine Qe.of_codeOf ZjF QA (by simp) ⟨_, rfl, by simp⟩ ?_
 have hm : (n : Int) ≤ (most : Nat) := by unfold most; omega
 simp (disch := omega) [Zdf, hm]
 have e : List.replicate n (N 0) = (WC n).map N := by simp [WC]
 have hz : (WC n).length = n := by simp [WC]
 have := Zps (h0 := []) (z := (WC n).map N) (l := WC n) rfl
 rw [hz] at this
 simp only [List.nil_append, List.length_nil] at this
 first
  | (rw [e, this]; simp)
def ZdY (s : GSys) (a : List Int) (g : Int) (b : List Int) : List Int := List.zipWith (fun x y => s.pl x (s.tm g y)) a b
theorem YZ {s : GSys} (t : s.Tab) (n1 n2 : Bool) (a : List Int) (g : Int) (hg : s.G g) (b : List Int) (hl : a.length ≤ 1000000) (hab : a.length = b.length) (ha : ∀ u ∈ a, s.G u) (hb : ∀ u ∈ b, s.G u) :
  Qe Tryz.prog XQ [s.lv, L n1 a, N g, L n2 b] (· = OU true false (ZdY s a g b)) := by
 obtain ⟨z, hze⟩ : ∃ z, z = ZdY s a g b := ⟨_, rfl⟩
 have hz : z.length = a.length := by rw [hze]; simp [ZdY, hab]
 have hget : ∀ (i : Nat) (h : i < a.length), z[i]'(by omega) = s.pl a[i] (s.tm g (b[i]'(by omega))) := by intro i h; simp [hze, ZdY]
 rw [← hze]; clear hze
 refine Qe.of_codeOf Zk4 QA (by simp) ⟨_, rfl, by simp⟩ ?_
 simp (disch := omega) [Zen, Qw, Qs, Ql]
 refine Xm a.length 0 (fun i t h => t 10 = N i ∧ t 9 = OU true false (z.take i) ∧ h = [none]) (by simp) (by omega) ?_
 rintro i t1 hh hf hi ⟨e10, e9, rfl⟩
 (have e1 := hf 1 (by kernel_rfl); have e2 := hf 2 (by kernel_rfl); have e3 := hf 3 (by kernel_rfl); have e4 := hf 4 (by kernel_rfl); clear hf; simp [] at e1 e2 e3 e4)
 simp (disch := omega) [e1, e2, e3, e4, e9, e10]
 (with_reducible first | refine Qo (fun h6 => ?_) (fun h6 => ?_) | refine Qn (fun h6 => ?_) (fun h6 => ?_))
 ·simp only [Qh, Qg, Qm, Qj, Qd, Qc, Bool.not_true, Bool.not_false] at h6
  simp (disch := omega) [e1, e2, e3, e4, e9, e10, W9]
  refine Qa (Zas t hg (hb _ (List.getElem_mem (show i < b.length by omega)))) (by simp) ?_
  simp (disch := omega) [e1, e2, e3, e4, e9, e10, W9]
  refine Qa (Zan t (ha _ (List.getElem_mem (show i < a.length by omega))) (GSys.Gtm t _ _)) (by simp) ?_
  have hst : z.take (i + 1) = z.take i ++ [s.pl a[i] (s.tm g (b[i]'(by omega)))] := by rw [List.take_succ_eq_append_getElem (by omega), hget i (by omega)]
  rw [hst]
  have hlt : (z.take i).length ≤ a.length := by simp; omega
  generalize z.take i = y at *
  have hap : WF 1 (OU true false y) (.sl true false 1 [[N (s.pl a[i] (s.tm g (b[i]'(by omega))))]]) = some (OU true false (y ++ [s.pl a[i] (s.tm g (b[i]'(by omega)))])) := Vr (l := y) (r := [_]) (u := true) (nl := false) (by simp; omega)
  simp (disch := omega) [e1, e2, e3, e4, e9, e10, W9, Qf, Ql]
  rw [hap]
  simp (disch := omega) [e10, Qf]
  omega
 ·simp only [Qh, Qg, Qm, Qj, Qd, Qc, Bool.not_true, Bool.not_false] at h6
  simp (disch := omega) [e9]
  rw [List.take_of_length_le (by simp; omega)]
  simp
theorem Zka {s : GSys} (t : s.Tab) (n1 n2 : Bool) (a b : List Int) (hl : a.length ≤ 1000000) (hab : a.length = b.length) (ha : ∀ u ∈ a, s.G u) (hb : ∀ u ∈ b, s.G u) :
  Qe Tryz.prog J4 [s.lv, L n1 a, L n2 b] (· = OU true false (Jb s a b)) := by
 obtain ⟨z, hze⟩ : ∃ z, z = Jb s a b := ⟨_, rfl⟩
 have hz : z.length = a.length := by rw [hze]; simp [Jb, hab]
 have hget : ∀ (i : Nat) (h : i < a.length), z[i]'(by omega) = s.join a[i] (b[i]'(by omega)) := by intro i h; simp [hze, Jb]
 rw [← hze]; clear hze
 refine Qe.of_codeOf ZiZ QA (by simp) ⟨_, rfl, by simp⟩ ?_
 simp (disch := omega) [ZcU, Qw, Qs, Ql]
 refine Xm a.length 0 (fun i t h => t 8 = N i ∧ t 7 = OU true false (z.take i) ∧ h = [none]) (by simp) (by omega) ?_
 rintro i t1 hh hf hi ⟨e8, e7, rfl⟩
 (have e1 := hf 1 (by kernel_rfl); have e2 := hf 2 (by kernel_rfl); have e3 := hf 3 (by kernel_rfl); clear hf; simp [] at e1 e2 e3)
 simp (disch := omega) [e1, e2, e3, e7, e8]
 (with_reducible first | refine Qo (fun h6 => ?_) (fun h6 => ?_) | refine Qn (fun h6 => ?_) (fun h6 => ?_))
 ·simp only [Qh, Qg, Qm, Qj, Qd, Qc, Bool.not_true, Bool.not_false] at h6
  simp (disch := omega) [e1, e2, e3, e7, e8, W9]
  refine Qa (KP t (ha _ (List.getElem_mem (show i < a.length by omega))) (hb _ (List.getElem_mem (show i < b.length by omega)))) (by simp) ?_
  have hst : z.take (i + 1) = z.take i ++ [s.join a[i] (b[i]'(by omega))] := by rw [List.take_succ_eq_append_getElem (by omega), hget i (by omega)]
  rw [hst]
  have hlt : (z.take i).length ≤ a.length := by simp; omega
  generalize z.take i = y at *
  have hap : WF 1 (OU true false y) (.sl true false 1 [[N (s.join a[i] (b[i]'(by omega)))]]) = some (OU true false (y ++ [s.join a[i] (b[i]'(by omega))])) := Vr (l := y) (r := [_]) (u := true) (nl := false) (by simp; omega)
  simp (disch := omega) [e1, e2, e3, e7, e8, W9, Qf, Ql]
  rw [hap]
  simp (disch := omega) [e8, Qf]
  omega
 ·simp only [Qh, Qg, Qm, Qj, Qd, Qc, Bool.not_true, Bool.not_false] at h6
  simp (disch := omega) [e7]
  rw [List.take_of_length_le (by simp; omega)]
  simp
theorem YD (n1 n2 : Bool) (c f : Wk) (hc : c.length ≤ 1000000) (hf : f.length ≤ 1000000) : Qe Tryz.prog W5 [LC n1 c, LC n2 f] (· = .sl true false 1 ((f ++ c).map fun x => [eC x])) := by
 refine Qe.of_codeOf Zjr QA (by simp) ⟨_, rfl, by simp⟩ ?_
 have h1 : f.length ≤ most := by unfold most; omega
 have h2 : f.length + c.length ≤ most := by unfold most; omega
 simp (disch := omega) [Zdg, Ql, WF, h1, h2]
theorem XH {size : Int} {l : List Int} (h : okL size l = true) (k : Int) (hk : Wr (hd l) = some 1 ∨ Wr (hd l) = some 2) : Qe Tryz.prog Wd [L false l, N k] (· = OU true false (if k = 0 then QI l else Wv l)) := by
 have hl := QF h
 have hlok := ZG (Yi h)
 have he : Zf l 1 = 1 + (QI l).length ∧ l = hd l :: (QI l ++ Wv l) := by
  rcases hk with hk | hk
  ·obtain ⟨q1, q2, q3⟩ := ZgR h hk
   obtain ⟨u, g1, g2, _⟩ := Yh.1 q3
   refine ⟨?_, by rw [q2, List.append_nil]; exact q1⟩
   unfold Zf
   rw [if_pos (by omega), show (1 : Int).toNat = 1 from rfl]
   have e : l.drop 1 = u.flat ++ [] := by
    conv => lhs; rw [q1]
    rw [List.drop_one, List.tail_cons, g2, List.append_nil]
   have e2 : l.length = 1 + u.flat.length := by
    conv => lhs; rw [q1]
    rw [g2]; simp; omega
   rw [e, Zd1 g1, e2, g2]; simp
  ·obtain ⟨q1, q2, q3⟩ := Jo h hk
   obtain ⟨u, g1, g2, _⟩ := Yh.1 q2
   refine ⟨?_, q1⟩
   unfold Zf
   rw [if_pos (by omega), show (1 : Int).toNat = 1 from rfl]
   have e : l.drop 1 = u.flat ++ Wv l := by
    conv => lhs; rw [q1]
    rw [List.drop_one, List.tail_cons, g2]
   have e2 : l.length = 1 + (u.flat.length + (Wv l).length) := by
    conv => lhs; rw [q1]
    rw [g2]; simp; omega
   rw [e, Zd1 g1, e2, g2]; omega
 have hlen : l.length = 1 + ((QI l).length + (Wv l).length) := by
  have := congrArg List.length he.2
  simpa [Nat.add_comm] using this
 have c0 : ZS 1 (L false l) (some 1) (some (1 + ((QI l).length : Int))) none = some (L false (QI l)) := by
  simp only [ZS, Option.getD_none, Option.getD_some, List.length_map]
  rw [if_pos ⟨trivial, by omega, by omega, by omega, by omega⟩, show (1 + ((QI l).length : Int)).toNat = 1 + (QI l).length by omega, show (1 : Int).toNat = 1 from rfl, ← List.map_take, ← List.map_drop]
  have e : List.drop 1 (List.take (1 + (QI l).length) l) = QI l := by
   have h2 := he.2
   generalize QI l = p0 at *
   generalize Wv l = p1 at *
   rw [h2, Nat.add_comm, List.take_succ_cons, List.drop_one, List.tail_cons, List.take_left]
  rw [e]; simp only [Option.isSome_none, Bool.false_and, Zfw]
 have c1 : ZS 1 (L false l) (some (1 + ((QI l).length : Int))) none none = some (L false (Wv l)) := by
  have := YV (n2 := false) (l := l) (k := 1 + (QI l).length) (by omega)
  rw [show ((1 + (QI l).length : Nat) : Int) = 1 + ((QI l).length : Int) by omega] at this
  rw [this]
  have e : List.drop (1 + (QI l).length) l = Wv l := by
   have h2 := he.2
   generalize QI l = p0 at *
   generalize Wv l = p1 at *
   rw [h2, Nat.add_comm, List.drop_succ_cons, List.drop_left]
  rw [e]
 have hend := Znc false l hlok 1 (by omega)
 rw [show ((1 : Nat) : Int) = 1 from rfl, he.1] at hend
 refine Qe.of_codeOf Zi7 QA (by simp) ⟨_, rfl, by split <;> simp⟩ ?_
 simp (disch := omega) [Zc4]
 refine Qa hend (by simp) ?_
 simp (disch := omega)
 by_cases h0 : k = 0
 ·subst h0
  have hz : eqB 0 0 = true := by rw [Qd]
  simp (disch := omega) [hz, c0]
  refine Qa (ZC false (QI l) (by omega)) (by simp) ?_
  simp (disch := omega)
 ·have hz : eqB k 0 = false := by rw [Qc]; exact h0
  simp (disch := omega) [hz, c1, h0]
  refine Qa (ZC false (Wv l) (by omega)) (by simp) ?_
  simp (disch := omega)
def Res.told : Res → LV → Prop
 | .ok x, r => ∃ u1 u2 u4 n4, r = .agg [OU u1 false x.ty, OU u2 false x.needs, N 0, .sl u4 n4 1 []]
 | .bad f p, r => f ≠ 0 ∧ ∃ u1 u2 u4 n4, r = .agg [.sl u1 true 1 [], .sl u2 true 1 [], N f, OU u4 n4 p]
theorem Xc (f : Int) (hf : f ≠ 0) : Qe Tryz.prog WI [N f] (Res.bad f []).told := by
 refine Qe.of_codeOf ZkE QA (by simp) ⟨.agg [.sl false true 1 [], .sl false true 1 [], N f, .sl false true 1 []], ⟨hf, false, false, false, true, by simp⟩, by simp⟩ ?_
 simp (disch := omega) [ZeK]
 exact ⟨hf, true, true, true, true, by simp⟩
def Zir (ty nd : List Int) : Res := if ty.length ≤ 40 then .ok (.mk ty nd []) else .bad 3 []
theorem VF (x : Res) (h : ∀ f p, x = .bad f p → f ≠ 0) : ∃ r, x.told r ∧ Low 0 r := by
 cases x with
 | ok x => exact ⟨.agg [L false x.ty, L false x.needs, N 0, .sl false true 1 []], ⟨false, false, false, true, rfl⟩, by simp⟩
 | bad f p => exact ⟨.agg [.sl false true 1 [], .sl false true 1 [], N f, L true p], ⟨h f p rfl, false, false, false, true, rfl⟩, by simp⟩
theorem Zqe {ty nd : List Int} {f : Int} {p : List Int} (h : Zir ty nd = .bad f p) : f ≠ 0 := by
 unfold Zir at h
 split at h
 ·simp at h
 ·simp at h; omega
theorem Zag (ty nd : List Int) : Qe Tryz.prog Yt [L false ty, L false nd] (Zir ty nd).told := by
 refine Qe.of_codeOf Zjg QA (by simp) (VF _ fun f p h => Zqe h) ?_
 simp (disch := omega) [ZcX]
 by_cases h : ty.length ≤ 40
 ·have hb : ltB 40 (ty.length : Int) = false := by rw [Qg]; omega
  simp (disch := omega) [hb, Zir, h]
  exact ⟨false, false, true, true, by simp⟩
 ·have hb : ltB 40 (ty.length : Int) = true := by rw [Qh]; omega
  simp (disch := omega) [hb, Zir, h]
  refine Qi (Qe.low (Xc 3 (by omega))) (by simp) ?_
  rintro r ⟨⟨h3, u1, u2, u4, n4, rfl⟩, lo⟩
  simp (disch := omega)
  exact ⟨h3, u1, u2, u4, n4, by simp⟩
end Go.Proofs.YtclfngbealdbgaaGreat
namespace Go.Proofs.YtclfngbealdbgaaGreat
open Go Go.TL
open Go.Proofs.YtclfngbealdbgaaGreat.Ty
set_option linter.unusedSimpArgs false
set_option linter.unusedVariables false
set_option maxRecDepth 20000
set_option maxHeartbeats 4000000
def ofR (i : Nat) : Res → Res
 | .ok x => .ok x
 | .bad f p => .bad f ((i : Int) :: p)
def Res.fine : Res → Prop
 | .ok _ => True
 | .bad f p => f ≠ 0 ∧ p.length ≤ 1000000
theorem ofR_fine {i : Nat} {x : Res} (h : x.fine) : ∀ f p, ofR i x = .bad f p → f ≠ 0 := by
 intro f p e
 cases x with
 | ok x => simp [ofR] at e
 | bad f0 p0 => simp [ofR] at e; rw [← e.1]; exact h.1
theorem XL (s : GSys) (op n : Int) (nl1 : Bool) (gty : List Int) (nl2 : Bool) (ks : List GTerm) (i : Nat) (hi : i < ks.length) (nlc : Bool) (ctx : Wk) (R : Res) (hR : R.fine)
  (hk : Qe Tryz.prog Wl [s.lv, LC nlc ctx, (ks[i]).lv] R.told) : Qe Tryz.prog Yf [s.lv, LC nlc ctx, (GTerm.mk op n nl1 gty nl2 ks).lv, N i] (ofR i R).told := by
 refine Qe.of_codeOf ZnO QA (by simp) (VF _ (ofR_fine hR)) ?_
 have hix := ZhC ks false nl2 i hi
 simp (disch := omega) [Zf9, Qw, Qs, GTerm.cells, hix]
 refine Qi (Qe.low hk) (by simp) ?_
 rintro r ⟨hr, lo⟩
 cases R with
 | ok x =>
  obtain ⟨u1, u2, u4, n4, rfl⟩ := hr
  have hz : eqB 0 0 = true := by rw [Qd]
  simp (disch := omega) [hz]
  exact ⟨u1, u2, u4, n4, by simp⟩
 | bad f p =>
  obtain ⟨hf, u1, u2, u4, n4, rfl⟩ := hr
  have hf0 : eqB f 0 = false := by rw [Qc]; exact hf
  have hpm : 1 + p.length ≤ most := by have := hR.2; unfold most; omega
  simp (disch := omega) [hf0, Ql, WF, hpm]
  exact ⟨hf, u1, u2, true, false, by simp⟩
theorem Zj4 {size : Int} {l : List Int} (h : okL size l = true) : ((QG (hd l)).1 = 0 ↔ hd l = 0) ∧ ((QG (hd l)).1 = 1 ↔ hd l = 1) ∧ ((QG (hd l)).1 = 2 ↔ hd l = 2) ∧ ((QG (hd l)).1 = 3 ↔ QL (hd l) = true) ∧ ((QG (hd l)).1 = 4 ↔ W0 (hd l) = true) := by
 have h1 := X5 h
 obtain ⟨a, b, c, d, e, _⟩ := KV h1.2.1 h1.2.2.1
 exact ⟨a, b, c, d, e⟩
theorem sh00 : (QG 0).1 = 0 := by decide
theorem fo2 {s : GSys} {n : Int} {i : Nat} : QK s 2 n i 0 = 0 := by simp [QK, Jc, sh00]
theorem fo3 {s : GSys} {n : Int} : QK s 3 n 0 0 = 0 := by simp [QK, Jc, sh00]
theorem fo_add {s : GSys} {n : Int} {i : Nat} {l : List Int} (h : okL s.size l = true) : QK s 2 n i (hd l) = if hd l = 0 then 0 else 2 := by
 obtain ⟨a, b, c, d, e⟩ := Zj4 h
 by_cases q : hd l = 0
 ·simp [QK, Jc, q, sh00]
 ·have : ¬ (QG (hd l)).1 = 0 := fun h => q (a.1 h)
  simp [QK, Jc, q, this]
theorem fo_if0 {s : GSys} {n : Int} {l : List Int} (h : okL s.size l = true) : QK s 3 n 0 (hd l) = if hd l = 0 then 0 else 2 := by
 obtain ⟨a, b, c, d, e⟩ := Zj4 h
 by_cases q : hd l = 0
 ·simp [QK, Jc, q, sh00]
 ·have : ¬ (QG (hd l)).1 = 0 := fun h => q (a.1 h)
  simp [QK, Jc, q, this]
theorem Zac {s : GSys} {op n : Int} {i : Nat} {c : Int} (h : i ≠ 0) (h2 : op ≠ 2) : QK s op n i c = 0 := by
 simp [QK, Jc, h, h2]
theorem tell_add {s : GSys} {cx : List (List Int)} {n : Int} {nl1 nl2 : Bool} {gty : List Int} {a b : GTerm} {x : TT} (hA : Qq s cx a = .ok x) (hx : okL s.size x.ty = true) (h0 : hd x.ty = 0) (hb : ∀ y, Qq s cx b = .ok y → okL s.size y.ty = true) :
  Qq s cx (.mk 2 n nl1 gty nl2 [a, b]) = match Qq s cx b with
   | .bad f p => .bad f (1 :: p)
   | .ok y => if hd y.ty = 0 then .ok (.mk [0] (Ji s x.needs y.needs) [x, y]) else .bad 2 [] := by
 cases hB : Qq s cx b with
 | bad f p => simp [Qq, Q9, QB, Qt, hA, hB, fo2, h0]
 | ok y =>
  have := hb y hB
  by_cases q : hd y.ty = 0
  ·simp [Qq, Q9, QB, Qt, hA, hB, fo2, h0, q, WE, ndP]
  ·simp [Qq, Q9, QB, Qt, hA, hB, fo2, fo_add this, h0, q]
theorem tell_if {s : GSys} {cx : List (List Int)} {n : Int} {nl1 nl2 : Bool} {gty : List Int} {a b c : GTerm} {x : TT} (hA : Qq s cx a = .ok x) (hx : okL s.size x.ty = true) (h0 : hd x.ty = 0) :
  Qq s cx (.mk 3 n nl1 gty nl2 [a, b, c]) = match Qq s cx b with
   | .bad f p => .bad f (1 :: p)
   | .ok y => match Qq s cx c with
    | .bad f p => .bad f (2 :: p)
    | .ok z => if y.ty = z.ty then .ok (.mk y.ty (Ji s x.needs (Jb s y.needs z.needs)) [x, y, z]) else .bad 3 [] := by
 cases hB : Qq s cx b with
 | bad f p => simp [Qq, Q9, QB, Qt, hA, hB, fo3, h0]
 | ok y =>
  cases hC : Qq s cx c with
  | bad f p => simp [Qq, Q9, QB, Qt, hA, hB, hC, fo3, h0, Zac]
  | ok z =>
   by_cases q : y.ty = z.ty
   ·simp [Qq, Q9, QB, Qt, hA, hB, hC, fo3, h0, Zac, WE, tyP, ndP, q]
   ·simp [Qq, Q9, QB, Qt, hA, hB, hC, fo3, h0, Zac, WE, tyP, ndP, q]
end Go.Proofs.YtclfngbealdbgaaGreat
namespace Go.Proofs.YtclfngbealdbgaaGreat
open Go Go.TL
open Go.Proofs.YtclfngbealdbgaaGreat.Ty
set_option linter.unusedSimpArgs false
set_option linter.unusedVariables false
set_option maxRecDepth 20000
set_option maxHeartbeats 4000000
def Zr (ty nd : List Int) (ks : List TT) : Res := if ty.length ≤ 40 then .ok (.mk ty nd ks) else .bad 3 []
section
variable {s : GSys} {cx : List (List Int)} {n : Int} {nl1 nl2 : Bool} {gty : List Int} {a b c : GTerm} {x : TT}
theorem X6 {op : Int} {ks : List GTerm} {f : Int} {p : List Int} (h : Qq s (QB op gty 0 [] ++ cx) a = .bad f p) : Qq s cx (.mk op n nl1 gty nl2 (a :: ks)) = .bad f (0 :: p) := by
 have h' : Qq s (QB op gty 0 (first []) ++ cx) a = .bad f p := h
 simp [Qq, Q9, h']
theorem tell_var : Qq s cx (.mk 0 n nl1 gty nl2 []) = .ok (.mk (cx.getD n.toNat []) ((WC cx.length).set n.toNat 1) []) := by simp [Qq, Q9, WE]
theorem tell_num : Qq s cx (.mk 1 n nl1 gty nl2 []) = .ok (.mk [0] (WC cx.length) []) := by simp [Qq, Q9, WE]
theorem Kz {op n : Int} {i : Nat} {c : Int} (h : op = 4 ∨ op = 6 ∨ op = 7 ∨ op = 9 ∨ op = 11) : QK s op n i c = 0 := by
 rcases h with rfl | rfl | rfl | rfl | rfl <;> simp [QK, Jc]
theorem fo_sh {op n : Int} {w f : Int} {l : List Int} (hw : Jc op 0 = (w, f)) (hw0 : 0 ≤ w) (ho : op = 5 ∨ op = 8 ∨ op = 12) {q : Prop} [Decidable q] (hq : (QG (hd l)).1 = w ↔ q) : QK s op n 0 (hd l) = if q then (if s.le 1 n = true then 0 else 8) else f := by
 unfold QK
 rw [hw]
 by_cases h : q
 ·rw [if_neg (by simp [hq.2 h]), if_pos h]
  cases g : s.le 1 n <;> simp [ho]
 ·have : (QG (hd l)).1 ≠ w := fun e => h (hq.1 e)
  rw [if_pos ⟨hw0, this⟩, if_neg h]
theorem Zp1 (hA : Qq s cx a = .ok x) : Qq s cx (.mk 4 n nl1 gty nl2 [a, b]) = match Qq s cx b with
  | .bad f p => .bad f (1 :: p)
  | .ok y => Zr (1 :: (x.ty ++ y.ty)) (Ji s x.needs y.needs) [x, y] := by
 cases hB : Qq s cx b with
 | bad f p => simp [Qq, Q9, QB, Qt, hA, hB, Kz]
 | ok y =>
  by_cases q : (1 :: (x.ty ++ y.ty)).length ≤ 40
  ·simp [Qq, Q9, QB, Qt, hA, hB, Kz, WE, ndP, tyP, Yj, Zr, q]
   simp at q
   simp [q]
  ·simp [Qq, Q9, QB, Qt, hA, hB, Kz, WE, ndP, tyP, Yj, Zr, q]
   simp at q
   simp [Nat.not_le.2 q]
theorem ZpZ (hA : Qq s cx a = .ok x) : Qq s cx (.mk 6 n nl1 gty nl2 [a]) = Zr (2 :: (x.ty ++ gty)) x.needs [x] := by
 by_cases q : (2 :: (x.ty ++ gty)).length ≤ 40
 ·simp [Qq, Q9, QB, Qt, hA, Kz, WE, ndP, tyP, Yj, Zr, q]
  simp at q
  simp [q]
 ·simp [Qq, Q9, QB, Qt, hA, Kz, WE, ndP, tyP, Yj, Zr, q]
  simp at q
  simp [Nat.not_le.2 q]
theorem ZoU (hA : Qq s cx a = .ok x) : Qq s cx (.mk 7 n nl1 gty nl2 [a]) = Zr (2 :: (gty ++ x.ty)) x.needs [x] := by
 by_cases q : (2 :: (gty ++ x.ty)).length ≤ 40
 ·simp [Qq, Q9, QB, Qt, hA, Kz, WE, ndP, tyP, Yj, Zr, q]
  simp at q
  simp [q]
 ·simp [Qq, Q9, QB, Qt, hA, Kz, WE, ndP, tyP, Yj, Zr, q]
  simp at q
  simp [Nat.not_le.2 q]
theorem Zmn (hA : Qq s (gty :: cx) a = .ok x) : Qq s cx (.mk 9 n nl1 gty nl2 [a]) = if WT s (x.needs.take 1) n = true then Zr ((3 + n) :: (gty ++ x.ty)) (x.needs.drop 1) [x] else .bad 9 [] := by
 by_cases u : WT s (x.needs.take 1) n = true
 ·rw [if_pos u]
  by_cases q : ((3 + n) :: (gty ++ x.ty)).length ≤ 40
  ·simp [Qq, Q9, QB, Qt, hA, Kz, WE, ndP, tyP, usP, u, Yj, Zr, q]
   simp at q
   simp [q]
  ·simp [Qq, Q9, QB, Qt, hA, Kz, WE, ndP, tyP, usP, u, Yj, Zr, q]
   simp at q
   simp [Nat.not_le.2 q]
 ·rw [if_neg u]
  simp [Qq, Q9, QB, Qt, hA, Kz, WE, ndP, tyP, usP, u]
theorem tell_box (hA : Qq s cx a = .ok x) : Qq s cx (.mk 11 n nl1 gty nl2 [a]) = Zr ((19 + n) :: x.ty) (WQ s n x.needs) [x] := by
 by_cases q : ((19 + n) :: x.ty).length ≤ 40
 ·simp [Qq, Q9, QB, Qt, hA, Kz, WE, ndP, tyP, Yj, Zr, q]
  simp at q
  simp [q]
 ·simp [Qq, Q9, QB, Qt, hA, Kz, WE, ndP, tyP, Yj, Zr, q]
  simp at q
  simp [Nat.not_le.2 q]
theorem tell_app (hA : Qq s cx a = .ok x) (hx : okL s.size x.ty = true) : Qq s cx (.mk 10 n nl1 gty nl2 [a, b]) = if QL (hd x.ty) = true then (match Qq s cx b with
  | .bad f p => .bad f (1 :: p)
  | .ok y => if y.ty = QI x.ty then .ok (.mk (Wv x.ty) (Ji s x.needs (WQ s (QG (hd x.ty)).2 y.needs)) [x, y]) else .bad 3 []) else .bad 6 [] := by
 have fo : QK s 10 n 0 (hd x.ty) = if QL (hd x.ty) = true then 0 else 6 := by
  obtain ⟨_, _, _, d, _⟩ := Zj4 hx
  by_cases q : QL (hd x.ty) = true
  ·simp [QK, Jc, q, d.2 q]
  ·have : ¬ (QG (hd x.ty)).1 = 3 := fun h => q (d.1 h)
   simp [QK, Jc, q, this]
 by_cases q : QL (hd x.ty) = true
 ·rw [if_pos q]
  rw [if_pos q] at fo
  cases hB : Qq s cx b with
  | bad f p => simp [Qq, Q9, QB, Qt, hA, hB, fo]
  | ok y =>
   by_cases e : y.ty = QI x.ty
   ·simp [Qq, Q9, QB, Qt, hA, hB, fo, Zac, first, tyP, e, WE, ndP]
   ·simp [Qq, Q9, QB, Qt, hA, hB, fo, Zac, first, tyP, e]
 ·rw [if_neg q]
  rw [if_neg q] at fo
  simp [Qq, Q9, QB, Qt, hA, fo]
theorem ZnX (hA : Qq s cx a = .ok x) (hx : okL s.size x.ty = true) : Qq s cx (.mk 5 n nl1 gty nl2 [a, b]) = if hd x.ty = 1 then (if s.le 1 n = true then (match Qq s (Wv x.ty :: QI x.ty :: cx) b with
  | .bad f p => .bad f (1 :: p)
  | .ok y => if WT s (y.needs.take 2) n = true then .ok (.mk y.ty (Ji s (WQ s n x.needs) (y.needs.drop 2)) [x, y]) else .bad 9 []) else .bad 8 []) else .bad 4 [] := by
 have fo := fo_sh (s := s) (op := 5) (n := n) (w := 1) (f := 4) (l := x.ty) rfl (by omega) (by simp) (Zj4 hx).2.1
 by_cases q : hd x.ty = 1
 ·rw [if_pos q] at fo ⊢
  by_cases l : s.le 1 n = true
  ·rw [if_pos l] at fo ⊢
   cases hB : Qq s (Wv x.ty :: QI x.ty :: cx) b with
   | bad f p => simp [Qq, Q9, QB, Qt, hA, hB, fo, first, tyP]
   | ok y =>
    by_cases u : WT s (y.needs.take 2) n = true
    ·simp [Qq, Q9, QB, Qt, hA, hB, fo, Zac, first, tyP, WE, ndP, usP, u]
    ·simp [Qq, Q9, QB, Qt, hA, hB, fo, Zac, first, tyP, WE, ndP, usP, u]
  ·rw [if_neg l] at fo ⊢
   simp [Qq, Q9, QB, Qt, hA, fo]
 ·rw [if_neg q] at fo ⊢
  simp [Qq, Q9, QB, Qt, hA, fo]
theorem Zp3 (hA : Qq s cx a = .ok x) (hx : okL s.size x.ty = true) : Qq s cx (.mk 12 n nl1 gty nl2 [a, b]) = if W0 (hd x.ty) = true then (if s.le 1 n = true then (match Qq s (QI x.ty :: cx) b with
  | .bad f p => .bad f (1 :: p)
  | .ok y => if WT s (y.needs.take 1) (s.tm n (QG (hd x.ty)).2) = true then .ok (.mk y.ty (Ji s (WQ s n x.needs) (y.needs.drop 1)) [x, y]) else .bad 9 []) else .bad 8 []) else .bad 7 [] := by
 have fo := fo_sh (s := s) (op := 12) (n := n) (w := 4) (f := 7) (l := x.ty) rfl (by omega) (by simp) (Zj4 hx).2.2.2.2
 by_cases q : W0 (hd x.ty) = true
 ·rw [if_pos q] at fo ⊢
  by_cases l : s.le 1 n = true
  ·rw [if_pos l] at fo ⊢
   cases hB : Qq s (QI x.ty :: cx) b with
   | bad f p => simp [Qq, Q9, QB, Qt, hA, hB, fo, first, tyP]
   | ok y =>
    by_cases u : WT s (y.needs.take 1) (s.tm n (QG (hd x.ty)).2) = true
    ·simp [Qq, Q9, QB, Qt, hA, hB, fo, Zac, first, tyP, WE, ndP, usP, u]
    ·simp [Qq, Q9, QB, Qt, hA, hB, fo, Zac, first, tyP, WE, ndP, usP, u]
  ·rw [if_neg l] at fo ⊢
   simp [Qq, Q9, QB, Qt, hA, fo]
 ·rw [if_neg q] at fo ⊢
  simp [Qq, Q9, QB, Qt, hA, fo]
theorem Zp9 (hA : Qq s cx a = .ok x) (hx : okL s.size x.ty = true) : Qq s cx (.mk 8 n nl1 gty nl2 [a, b, c]) = if hd x.ty = 2 then (if s.le 1 n = true then (match Qq s (QI x.ty :: cx) b with
  | .bad f p => .bad f (1 :: p)
  | .ok y => match Qq s (Wv x.ty :: cx) c with
   | .bad f p => .bad f (2 :: p)
   | .ok z => if y.ty = z.ty then (if WT s (y.needs.take 1) n = true ∧ WT s (z.needs.take 1) n = true then .ok (.mk y.ty (Ji s (WQ s n x.needs) (Jb s (y.needs.drop 1) (z.needs.drop 1))) [x, y, z]) else .bad 9 []) else .bad 3 []) else .bad 8 []) else .bad 5 [] := by
 have fo := fo_sh (s := s) (op := 8) (n := n) (w := 2) (f := 5) (l := x.ty) rfl (by omega) (by simp) (Zj4 hx).2.2.1
 by_cases q : hd x.ty = 2
 ·rw [if_pos q] at fo ⊢
  by_cases l : s.le 1 n = true
  ·rw [if_pos l] at fo ⊢
   cases hB : Qq s (QI x.ty :: cx) b with
   | bad f p => simp [Qq, Q9, QB, Qt, hA, hB, fo, first, tyP]
   | ok y =>
    cases hC : Qq s (Wv x.ty :: cx) c with
    | bad f p => simp [Qq, Q9, QB, Qt, hA, hB, hC, fo, Zac, first, tyP]
    | ok z =>
     by_cases e : y.ty = z.ty
     ·by_cases u : WT s (y.needs.take 1) n = true ∧ WT s (z.needs.take 1) n = true
      ·simp [Qq, Q9, QB, Qt, hA, hB, hC, fo, Zac, first, tyP, WE, ndP, usP, u, e]
      ·simp [Qq, Q9, QB, Qt, hA, hB, hC, fo, Zac, first, tyP, WE, ndP, usP, u, e]
     ·simp [Qq, Q9, QB, Qt, hA, hB, hC, fo, Zac, first, tyP, WE, ndP, usP, e]
  ·rw [if_neg l] at fo ⊢
   simp [Qq, Q9, QB, Qt, hA, fo]
 ·rw [if_neg q] at fo ⊢
  simp [Qq, Q9, QB, Qt, hA, fo]
end
end Go.Proofs.YtclfngbealdbgaaGreat
namespace Go.Proofs.YtclfngbealdbgaaGreat
open Go Go.TL
open Go.Proofs.YtclfngbealdbgaaGreat.Ty
set_option linter.unusedSimpArgs false
set_option linter.unusedVariables false
set_option maxRecDepth 20000
set_option maxHeartbeats 4000000
theorem one_of {s : GSys} (hs : s.sys = true) {a : Int} (ha : s.G a) : s.pl 0 a = a ∧ s.tm 1 a = a := by
 unfold GSys.sys at hs
 rw [Bool.and_eq_true, YX] at hs
 have h := hs.2 a.toNat (by have := ha.1; have := ha.2; omega)
 unfold GSys.sysB at h
 rw [Bool.and_eq_true] at h
 have h := h.1
 unfold GSys.one at h
 simp only [Bool.and_eq_true, Qd] at h
 have e1 : ((a.toNat : Nat) : Int) = a := by have := ha.1; omega
 rw [e1] at h
 exact ⟨h.1.1.1.1.1, h.1.1.1.1.2⟩
theorem VG {s : GSys} (hs : s.sys = true) : ∀ (a b : List Int), (∀ u ∈ b, s.G u) → ZdY s a 1 b = Ji s a b
 | [], b, _ => by simp [ZdY, Ji]
 | x :: a, [], _ => by simp [ZdY, Ji]
 | x :: a, y :: b, h => by
  have := VG hs a b fun u hu => h u (by simp [hu])
  simp only [ZdY, Ji, List.zipWith_cons_cons] at this ⊢
  rw [this, (one_of hs (h y (by simp))).2]
theorem Zcg {s : GSys} (hs : s.sys = true) (g : Int) : ∀ (a : List Int), ZdY s (WC a.length) g a = WQ s g a
 | [] => by simp [ZdY, WQ]
 | x :: a => by
  have := Zcg hs g a
  simp only [ZdY, WQ, WC, List.length_cons, List.replicate_succ, List.zipWith_cons_cons, List.map_cons] at this ⊢
  rw [this, (one_of hs (GSys.Gtm (GSys.sys_of hs) g x)).1]
theorem Wy {s : GSys} {cx : List (List Int)} {g : GTerm} (h : g.size ≤ 1000000) : (Qq s cx g).fine := by
 cases e : Qq s cx g with
 | ok x => exact trivial
 | bad f p => exact ⟨Y5 g cx f p e, by have := K0 g cx f p e; omega⟩
abbrev aLV (x : TT) (n4 : Bool) : LV := .agg [L false x.ty, L false x.needs, N 0, .sl false n4 1 []]
section
variable {s : GSys} (hsy : s.sys = true) (nlc : Bool) (ctx : Wk) (hcl : ctx.length ≤ 100000)
include hsy hcl
theorem ZiX (n : Int) (nl1 : Bool) (gty : List Int) (nl2 : Bool) (a b : GTerm) (x : TT) (n4 : Bool) (hxg : x.good s ctx.length) (hA : Qq s (ctx.map Prod.snd) a = .ok x) (h0 : hd x.ty = 0) (hbs : b.size ≤ 1000000)
  (hb : Qe Tryz.prog Wl [s.lv, LC nlc ctx, b.lv] (Qq s (ctx.map Prod.snd) b).told) (hbg : ∀ y, Qq s (ctx.map Prod.snd) b = .ok y → y.good s ctx.length) :
  Qe Tryz.prog Zw [s.lv, LC nlc ctx, (GTerm.mk 2 n nl1 gty nl2 [a, b]).lv, aLV x n4] (Qq s (ctx.map Prod.snd) (GTerm.mk 2 n nl1 gty nl2 [a, b])).told := by
 have t := GSys.sys_of hsy
 have T := tell_add (n := n) (nl1 := nl1) (nl2 := nl2) (gty := gty) hA hxg.1 h0 (fun y h => (hbg y h).1)
 refine Qe.of_codeOf Zar QA (by simp) (VF _ fun f p h => Y5 _ _ f p h) ?_
 have of := XL s 2 n nl1 gty nl2 [a, b] 1 (by simp) nlc ctx _ (Wy hbs) hb
 simp only [GTerm.lv, GTerm.cells] at of
 simp (disch := omega) [JM, Qw, Qs, GTerm.cells]
 refine Qi (Qe.low of) (by simp) ?_
 rintro r ⟨hr, lo⟩
 rw [T]
 cases hB : Qq s (ctx.map Prod.snd) b with
 | bad f p =>
  rw [hB] at hr
  simp only [ofR] at hr
  obtain ⟨hf, u1, u2, u4, n4', rfl⟩ := hr
  have hf0 : eqB f 0 = false := by rw [Qc]; exact hf
  simp (disch := omega) [Qw, Qs, hf0]
  exact ⟨hf, false, false, false, n4', by simp⟩
 | ok y =>
  have hyg := hbg y hB
  rw [hB] at hr
  simp only [ofR] at hr
  obtain ⟨u1, u2, u4, n4', rfl⟩ := hr
  have hz : eqB 0 0 = true := by rw [Qd]
  have hy := X5 hyg.1
  have hyi : QN 1 (L false y.ty) 0 = some (.rp [N (hd y.ty)]) := ZL hy.2.2.2.1
  by_cases q : hd y.ty = 0
  ·have hn := okL_none hyg.1 (by rw [q]; decide)
   rw [q] at hn
   have hq0 : eqB (hd y.ty) 0 = true := by rw [Qd]; exact q
   simp (disch := omega) [Qw, Qs, hz, hyi, hq0]
   refine Qa (YZ t false false x.needs 1 (GSys.G1 t) y.needs (by rw [hxg.2.1]; omega) (by rw [hxg.2.1, hyg.2.1]) hxg.2.2 hyg.2.2) (by simp) ?_
   rw [VG hsy _ _ hyg.2.2]
   simp (disch := omega) [q, hn]
   exact ⟨false, true, true, true, by simp⟩
  ·have hq0 : eqB (hd y.ty) 0 = false := by rw [Qc]; exact q
   simp (disch := omega) [Qw, Qs, hz, hyi, hq0]
   refine Qi (Qe.low (Xc 2 (by omega))) (by simp) ?_
   rintro r ⟨⟨h3, v1, v2, v4, m4, rfl⟩, lo⟩
   simp (disch := omega) [q]
   exact ⟨by omega, v1, v2, v4, m4, by simp⟩
theorem ZkX (n : Int) (nl1 : Bool) (gty : List Int) (nl2 : Bool) (a b c : GTerm) (x : TT) (n4 : Bool) (hxg : x.good s ctx.length) (hA : Qq s (ctx.map Prod.snd) a = .ok x) (h0 : hd x.ty = 0) (hbs : b.size ≤ 1000000) (hcs : c.size ≤ 1000000)
  (hb : Qe Tryz.prog Wl [s.lv, LC nlc ctx, b.lv] (Qq s (ctx.map Prod.snd) b).told) (hbg : ∀ y, Qq s (ctx.map Prod.snd) b = .ok y → y.good s ctx.length)
  (hc : Qe Tryz.prog Wl [s.lv, LC nlc ctx, c.lv] (Qq s (ctx.map Prod.snd) c).told) (hcg : ∀ y, Qq s (ctx.map Prod.snd) c = .ok y → y.good s ctx.length) :
  Qe Tryz.prog Zw [s.lv, LC nlc ctx, (GTerm.mk 3 n nl1 gty nl2 [a, b, c]).lv, aLV x n4] (Qq s (ctx.map Prod.snd) (GTerm.mk 3 n nl1 gty nl2 [a, b, c])).told := by
 have t := GSys.sys_of hsy
 have T := tell_if (n := n) (nl1 := nl1) (nl2 := nl2) (gty := gty) (b := b) (c := c) hA hxg.1 h0
 refine Qe.of_codeOf Zar QA (by simp) (VF _ fun f p h => Y5 _ _ f p h) ?_
 have of := XL s 3 n nl1 gty nl2 [a, b, c] 1 (by simp) nlc ctx _ (Wy hbs) hb
 have of2 := XL s 3 n nl1 gty nl2 [a, b, c] 2 (by simp) nlc ctx _ (Wy hcs) hc
 simp only [GTerm.lv, GTerm.cells] at of of2
 have hz : eqB 0 0 = true := by rw [Qd]
 have e32 : eqB 3 2 = false := by rw [Qc]; omega
 simp (disch := omega) [JM, Qw, Qs, GTerm.cells]
 refine Qi (Qe.low of) (by simp) ?_
 rintro r ⟨hr, lo⟩
 rw [T]
 cases hB : Qq s (ctx.map Prod.snd) b with
 | bad f p =>
  rw [hB] at hr
  simp only [ofR] at hr
  obtain ⟨hf, u1, u2, u4, n4', rfl⟩ := hr
  have hf0 : eqB f 0 = false := by rw [Qc]; exact hf
  simp (disch := omega) [Qw, Qs, hf0]
  exact ⟨hf, false, false, false, n4', by simp⟩
 | ok y =>
  have hyg := hbg y hB
  rw [hB] at hr
  simp only [ofR] at hr
  obtain ⟨u1, u2, u4, n4', rfl⟩ := hr
  simp (disch := omega) [Qw, Qs, hz, e32]
  refine Qi (Qe.low of2) (by simp) ?_
  rintro r ⟨hr, lo⟩
  cases hC : Qq s (ctx.map Prod.snd) c with
  | bad f p =>
   rw [hC] at hr
   simp only [ofR] at hr
   obtain ⟨hf, v1, v2, v4, m4', rfl⟩ := hr
   have hf0 : eqB f 0 = false := by rw [Qc]; exact hf
   simp (disch := omega) [Qw, Qs, hf0]
   exact ⟨hf, false, false, false, m4', by simp⟩
  | ok z =>
   have hzg := hcg z hC
   rw [hC] at hr
   simp only [ofR] at hr
   obtain ⟨v1, v2, v4, m4', rfl⟩ := hr
   simp (disch := omega) [Qw, Qs, hz]
   have ly := QF hyg.1
   have sm := KU false false y.ty z.ty (by omega)
   refine Qa sm (by simp) ?_
   cases he : (y.ty == z.ty)
   ·have he' : y.ty ≠ z.ty := by simpa using he
    simp (disch := omega)
    refine Qi (Qe.low (Xc 3 (by omega))) (by simp) ?_
    rintro r ⟨⟨h3, w1, w2, w4, k4, rfl⟩, lo⟩
    simp (disch := omega) [he']
    exact ⟨by omega, w1, w2, w4, k4, by simp⟩
   ·have he' : y.ty = z.ty := by simpa using he
    simp (disch := omega)
    have jn := Zka t false false y.needs z.needs (by rw [hyg.2.1]; omega) (by rw [hyg.2.1, hzg.2.1]) hyg.2.2 hzg.2.2
    refine Qa jn (by simp) ?_
    have jl := ZcB (s := s) hyg.2.1 hzg.2.1
    have jg : ∀ u ∈ Jb s y.needs z.needs, s.G u := fun u hu => ZkY hsy u hu hyg.2.2 hzg.2.2
    simp (disch := omega)
    have sm := YZ t false false x.needs 1 (GSys.G1 t) (Jb s y.needs z.needs) (by rw [hxg.2.1]; omega) (by rw [hxg.2.1, jl]) hxg.2.2 jg
    refine Qa sm (by simp) ?_
    rw [VG hsy _ _ jg]
    simp (disch := omega) [he']
    exact ⟨false, true, true, true, by simp [he']⟩
end
end Go.Proofs.YtclfngbealdbgaaGreat
namespace Go.Proofs.YtclfngbealdbgaaGreat
open Go Go.TL
open Go.Proofs.YtclfngbealdbgaaGreat.Ty
set_option linter.unusedSimpArgs false
set_option linter.unusedVariables false
set_option maxRecDepth 20000
set_option maxHeartbeats 4000000
theorem used1 {s : GSys} {l : List Int} {g : Int} (h : 1 ≤ l.length) : WT s (l.take 1) g = s.le (l.getD 0 0) g := by
 cases l with
 | nil => simp at h
 | cons a l => simp [WT]
theorem used2 {s : GSys} {l : List Int} {g : Int} (h : 2 ≤ l.length) : WT s (l.take 2) g = (s.le (l.getD 0 0) g && s.le (l.getD 1 0) g) := by
 match l, h with
 | [], h => simp at h
 | [_], h => simp at h
 | a :: b :: l, _ => simp [WT]
theorem Zcj {s : GSys} {l : List Int} {i : Nat} (h : ∀ u ∈ l, s.G u) (hi : i < l.length) : s.G (l.getD i 0) := by
 rw [List.getD_eq_getElem?_getD, List.getElem?_eq_getElem hi]; exact h _ (List.getElem_mem _)
theorem Zg1 {l : List Int} {i : Nat} (hi : i < l.length) : QN 1 (L false l) (i : Int) = some (.rp [N (l.getD i 0)]) := by
 have := W9 l false false i (by omega) (by omega)
 simpa using this
section
variable {s : GSys} (hsy : s.sys = true) (nlc : Bool) (ctx : Wk) (hcl : ctx.length ≤ 100000)
include hsy hcl
theorem ZiR (n : Int) (nl1 : Bool) (gty : List Int) (nl2 : Bool) (a b : GTerm) (x : TT) (n4 : Bool) (hn : s.G n) (hxg : x.good s ctx.length) (hA : Qq s (ctx.map Prod.snd) a = .ok x) (hbs : b.size ≤ 1000000)
  (hb : hd x.ty = 1 → Qe Tryz.prog Wl [s.lv, LC false ((false, Wv x.ty) :: (false, QI x.ty) :: ctx), b.lv] (Qq s (Wv x.ty :: QI x.ty :: ctx.map Prod.snd) b).told)
  (hbg : hd x.ty = 1 → ∀ y, Qq s (Wv x.ty :: QI x.ty :: ctx.map Prod.snd) b = .ok y → y.good s (ctx.length + 2)) :
  Qe Tryz.prog Zt [s.lv, LC nlc ctx, (GTerm.mk 5 n nl1 gty nl2 [a, b]).lv, aLV x n4] (Qq s (ctx.map Prod.snd) (GTerm.mk 5 n nl1 gty nl2 [a, b])).told := by
 have t := GSys.sys_of hsy
 have T := ZnX (n := n) (nl1 := nl1) (nl2 := nl2) (gty := gty) (b := b) hA hxg.1
 refine Qe.of_codeOf K4 QA (by simp) (VF _ fun f p h => Y5 _ _ f p h) ?_
 rw [T]
 have hx := X5 hxg.1
 have hxi : QN 1 (L false x.ty) 0 = some (.rp [N (hd x.ty)]) := ZL hx.2.2.2.1
 have e55 : eqB 5 5 = true := by rw [Qd]
 have e58 : eqB 5 8 = false := by rw [Qc]; omega
 have e512 : eqB 5 12 = false := by rw [Qc]; omega
 have hz : eqB 0 0 = true := by rw [Qd]
 by_cases q : hd x.ty = 1
 ·have hq : eqB (hd x.ty) 1 = true := by rw [Qd]; exact q
  have hk : Wr (hd x.ty) = some 2 := by rw [q]; exact Xo.1
  simp (disch := omega) [X0, Qw, Qs, GTerm.cells, hxi, hq, e55, e58, e512]
  refine Qa (XK t (GSys.G1 t) hn) (by simp) ?_
  rw [if_pos q]
  cases hl : s.le 1 n
  ·simp (disch := omega)
   refine Qi (Qe.low (Xc 8 (by omega))) (by simp) ?_
   rintro r ⟨⟨h3, w1, w2, w4, k4, rfl⟩, lo⟩
   simp (disch := omega)
   exact ⟨by omega, w1, w2, w4, k4, by simp⟩
  ·have p0 := XH hxg.1 0 (.inr hk)
   have p1 := XH hxg.1 1 (.inr hk)
   simp (disch := omega)
   refine Qa p0 (by simp) ?_
   simp (disch := omega) [Ql]
   refine Qa p1 (by simp) ?_
   simp (disch := omega) [Ql]
   refine Qa p0 (by simp) ?_
   simp (disch := omega) [Ql]
   have w := YD nlc false ctx [(false, Wv x.ty), (false, QI x.ty)] (by omega) (by simp)
   simp only [List.map_cons, List.map_nil, List.cons_append, List.nil_append] at w
   refine Qa w (by simp) ?_
   have of := XL s 5 n nl1 gty nl2 [a, b] 1 (by simp) false ((false, Wv x.ty) :: (false, QI x.ty) :: ctx) _ (Wy hbs) (hb q)
   simp only [GTerm.lv, GTerm.cells, List.map_cons] at of
   simp (disch := omega) [Ql]
   refine Qi (Qe.low of) (by simp) ?_
   rintro r ⟨hr, lo⟩
   cases hB : Qq s (Wv x.ty :: QI x.ty :: ctx.map Prod.snd) b with
   | bad f p =>
    rw [hB] at hr
    simp only [ofR] at hr
    obtain ⟨hf, u1, u2, u4, n4', rfl⟩ := hr
    have hf0 : eqB f 0 = false := by rw [Qc]; exact hf
    simp (disch := omega) [Qw, Qs, hf0]
    exact ⟨hf, false, false, false, n4', by simp⟩
   | ok y =>
    have hyg := hbg q y hB
    rw [hB] at hr
    simp only [ofR] at hr
    obtain ⟨u1, u2, u4, n4', rfl⟩ := hr
    have hyl := hyg.2.1
    have c2 : ZS 1 (L false y.needs) (some 2) none none = some (L false (y.needs.drop 2)) := YV (k := 2) (by omega)
    have i0 : QN 1 (L false y.needs) 0 = some (.rp [N (y.needs.getD 0 0)]) := Zg1 (i := 0) (by omega)
    have i1 : QN 1 (L false y.needs) 1 = some (.rp [N (y.needs.getD 1 0)]) := Zg1 (i := 1) (by omega)
    have g0 := Zcj hyg.2.2 (show 0 < y.needs.length by omega)
    have g1 := Zcj hyg.2.2 (show 1 < y.needs.length by omega)
    have cp := ZC false (y.needs.drop 2) (by simp; omega)
    have dl : (y.needs.drop 2).length = ctx.length := by simp; omega
    have dg : ∀ u ∈ y.needs.drop 2, s.G u := fun u hu => hyg.2.2 u (List.mem_of_mem_drop hu)
    have us := used2 (s := s) (l := y.needs) (g := n) (by omega)
    generalize y.needs.getD 0 0 = y0 at *
    generalize y.needs.getD 1 0 = y1 at *
    obtain ⟨yr, hyr⟩ : ∃ yr, yr = y.needs.drop 2 := ⟨_, rfl⟩
    rw [← hyr] at c2 cp dl dg
    simp (disch := omega) [Qw, Qs, hz, c2]
    refine Qa cp (by simp) ?_
    simp (disch := omega) [e512, e55, i1]
    refine Qa (XK t g1 hn) (by simp) ?_
    cases hu1 : s.le y1 n
    ·simp (disch := omega) [i0]
     refine Qi (Qe.low (Xc 9 (by omega))) (by simp) ?_
     rintro r ⟨⟨h3, w1, w2, w4, k4, rfl⟩, lo⟩
     simp (disch := omega) [us, hu1]
     exact ⟨by omega, w1, w2, w4, k4, by simp⟩
    ·simp (disch := omega) [i0]
     refine Qa (XK t g0 hn) (by simp) ?_
     cases hu0 : s.le y0 n
     ·simp (disch := omega)
      refine Qi (Qe.low (Xc 9 (by omega))) (by simp) ?_
      rintro r ⟨⟨h3, w1, w2, w4, k4, rfl⟩, lo⟩
      simp (disch := omega) [us, hu1, hu0]
      exact ⟨by omega, w1, w2, w4, k4, by simp⟩
     ·have zr := KT ctx.length (by omega)
      have sc := YZ t false false (WC ctx.length) n hn x.needs (by simp [WC]; omega) (by rw [hxg.2.1]; simp [WC]) (Zad t _).2 hxg.2.2
      have e1 := Zcg hsy n x.needs
      rw [hxg.2.1] at e1
      rw [e1] at sc
      have so := X7 t (g := n) hxg.2.1
      have s2 := YZ t false false (WQ s n x.needs) 1 (GSys.G1 t) yr (by rw [so.1]; omega) (by rw [so.1, dl]) so.2 dg
      rw [VG hsy _ _ dg] at s2
      simp (disch := omega)
      refine Qa zr (by simp) ?_
      simp (disch := omega)
      refine Qa sc (by simp) ?_
      simp (disch := omega)
      refine Qa s2 (by simp) ?_
      simp (disch := omega) [us, hu1, hu0]
      exact ⟨false, true, true, true, by simp [hyr]⟩
 ·have hq : eqB (hd x.ty) 1 = false := by rw [Qc]; exact q
  rw [if_neg q]
  simp (disch := omega) [X0, Qw, Qs, GTerm.cells, hxi, hq, e55, e58, e512]
  refine Qi (Qe.low (Xc 4 (by omega))) (by simp) ?_
  rintro r ⟨⟨h3, w1, w2, w4, k4, rfl⟩, lo⟩
  simp (disch := omega)
  exact ⟨by omega, w1, w2, w4, k4, by simp⟩
theorem Zk9 (n : Int) (nl1 : Bool) (gty : List Int) (nl2 : Bool) (a b : GTerm) (x : TT) (n4 : Bool) (hn : s.G n) (hxg : x.good s ctx.length) (hA : Qq s (ctx.map Prod.snd) a = .ok x) (hbs : b.size ≤ 1000000)
  (hb : W0 (hd x.ty) = true → Qe Tryz.prog Wl [s.lv, LC false ((false, QI x.ty) :: ctx), b.lv] (Qq s (QI x.ty :: ctx.map Prod.snd) b).told)
  (hbg : W0 (hd x.ty) = true → ∀ y, Qq s (QI x.ty :: ctx.map Prod.snd) b = .ok y → y.good s (ctx.length + 1)) :
  Qe Tryz.prog Zt [s.lv, LC nlc ctx, (GTerm.mk 12 n nl1 gty nl2 [a, b]).lv, aLV x n4] (Qq s (ctx.map Prod.snd) (GTerm.mk 12 n nl1 gty nl2 [a, b])).told := by
 have t := GSys.sys_of hsy
 have T := Zp3 (n := n) (nl1 := nl1) (nl2 := nl2) (gty := gty) (b := b) hA hxg.1
 refine Qe.of_codeOf K4 QA (by simp) (VF _ fun f p h => Y5 _ _ f p h) ?_
 rw [T]
 have hx := X5 hxg.1
 have hxi : QN 1 (L false x.ty) 0 = some (.rp [N (hd x.ty)]) := ZL hx.2.2.2.1
 have e55 : eqB 12 5 = false := by rw [Qc]; omega
 have e58 : eqB 12 8 = false := by rw [Qc]; omega
 have e512 : eqB 12 12 = true := by rw [Qd]
 have hz : eqB 0 0 = true := by rw [Qd]
 by_cases q : W0 (hd x.ty) = true
 ·have hk : Wr (hd x.ty) = some 1 := ZcD q
  have hsg : (QG (hd x.ty)).2 = W2 (hd x.ty) := (KV hx.2.1 hx.2.2.1).2.2.2.2.2 (.inr q)
  have hgc := KX hx.1 (.inr q)
  have hgG : s.G (W2 (hd x.ty)) := hgc
  rw [hsg]
  simp (disch := omega) [X0, Qw, Qs, GTerm.cells, hxi, e55, e58, e512]
  refine Qa (ZkW (hd x.ty)) (by simp) ?_
  simp (disch := omega) [q]
  refine Qa (XK t (GSys.G1 t) hn) (by simp) ?_
  cases hl : s.le 1 n
  ·simp (disch := omega)
   refine Qi (Qe.low (Xc 8 (by omega))) (by simp) ?_
   rintro r ⟨⟨h3, w1, w2, w4, k4, rfl⟩, lo⟩
   simp (disch := omega)
   exact ⟨by omega, w1, w2, w4, k4, by simp⟩
  ·have p0 := XH hxg.1 0 (.inl hk)
   simp (disch := omega)
   refine Qa p0 (by simp) ?_
   simp (disch := omega) [Ql, e55]
   have w := YD nlc false ctx [(false, QI x.ty)] (by omega) (by simp)
   simp only [List.map_cons, List.map_nil, List.cons_append, List.nil_append] at w
   refine Qa w (by simp) ?_
   have of := XL s 12 n nl1 gty nl2 [a, b] 1 (by simp) false ((false, QI x.ty) :: ctx) _ (Wy hbs) (hb q)
   simp only [GTerm.lv, GTerm.cells, List.map_cons] at of
   simp (disch := omega) [Ql]
   refine Qi (Qe.low of) (by simp) ?_
   rintro r ⟨hr, lo⟩
   cases hB : Qq s (QI x.ty :: ctx.map Prod.snd) b with
   | bad f p =>
    rw [hB] at hr
    simp only [ofR] at hr
    obtain ⟨hf, u1, u2, u4, n4', rfl⟩ := hr
    have hf0 : eqB f 0 = false := by rw [Qc]; exact hf
    simp (disch := omega) [Qw, Qs, hf0]
    exact ⟨hf, false, false, false, n4', by simp⟩
   | ok y =>
    have hyg := hbg q y hB
    rw [hB] at hr
    simp only [ofR] at hr
    obtain ⟨u1, u2, u4, n4', rfl⟩ := hr
    have hyl := hyg.2.1
    have c2 : ZS 1 (L false y.needs) (some 1) none none = some (L false (y.needs.drop 1)) := YV (k := 1) (by omega)
    have i0 : QN 1 (L false y.needs) 0 = some (.rp [N (y.needs.getD 0 0)]) := Zg1 (i := 0) (by omega)
    have g0 := Zcj hyg.2.2 (show 0 < y.needs.length by omega)
    have cp := ZC false (y.needs.drop 1) (by simp; omega)
    have dl : (y.needs.drop 1).length = ctx.length := by simp; omega
    have dg : ∀ u ∈ y.needs.drop 1, s.G u := fun u hu => hyg.2.2 u (List.mem_of_mem_drop hu)
    have us := used1 (s := s) (l := y.needs) (g := s.tm n (W2 (hd x.ty))) (by omega)
    generalize y.needs.getD 0 0 = y0 at *
    obtain ⟨yr, hyr⟩ : ∃ yr, yr = y.needs.drop 1 := ⟨_, rfl⟩
    rw [← hyr] at c2 cp dl dg
    simp (disch := omega) [Qw, Qs, hz, c2]
    refine Qa cp (by simp) ?_
    simp (disch := omega) [e512]
    refine Qa (Zce (hd x.ty) (by unfold I64; omega) hx.2.1) (by simp) ?_
    simp (disch := omega)
    refine Qa (Zas t hn hgG) (by simp) ?_
    simp (disch := omega) [i0]
    refine Qa (XK t g0 (GSys.Gtm t _ _)) (by simp) ?_
    cases hu0 : s.le y0 (s.tm n (W2 (hd x.ty)))
    ·simp (disch := omega)
     refine Qi (Qe.low (Xc 9 (by omega))) (by simp) ?_
     rintro r ⟨⟨h3, w1, w2, w4, k4, rfl⟩, lo⟩
     simp (disch := omega) [us, hu0]
     exact ⟨by omega, w1, w2, w4, k4, by simp⟩
    ·have zr := KT ctx.length (by omega)
     have sc := YZ t false false (WC ctx.length) n hn x.needs (by simp [WC]; omega) (by rw [hxg.2.1]; simp [WC]) (Zad t _).2 hxg.2.2
     have e1 := Zcg hsy n x.needs
     rw [hxg.2.1] at e1
     rw [e1] at sc
     have so := X7 t (g := n) hxg.2.1
     have s2 := YZ t false false (WQ s n x.needs) 1 (GSys.G1 t) yr (by rw [so.1]; omega) (by rw [so.1, dl]) so.2 dg
     rw [VG hsy _ _ dg] at s2
     simp (disch := omega)
     refine Qa zr (by simp) ?_
     simp (disch := omega)
     refine Qa sc (by simp) ?_
     simp (disch := omega)
     refine Qa s2 (by simp) ?_
     simp (disch := omega) [us, hu0]
     exact ⟨false, true, true, true, by simp [hyr]⟩
 ·have q' : W0 (hd x.ty) = false := by simpa using q
  rw [if_neg q]
  simp (disch := omega) [X0, Qw, Qs, GTerm.cells, hxi, e55, e58, e512]
  refine Qa (ZkW (hd x.ty)) (by simp) ?_
  simp (disch := omega) [q']
  refine Qi (Qe.low (Xc 7 (by omega))) (by simp) ?_
  rintro r ⟨⟨h3, w1, w2, w4, k4, rfl⟩, lo⟩
  simp (disch := omega)
  exact ⟨by omega, w1, w2, w4, k4, by simp⟩
theorem ZlG (n : Int) (nl1 : Bool) (gty : List Int) (nl2 : Bool) (a b c : GTerm) (x : TT) (n4 : Bool) (hn : s.G n) (hxg : x.good s ctx.length) (hA : Qq s (ctx.map Prod.snd) a = .ok x) (hbs : b.size ≤ 1000000) (hcs : c.size ≤ 1000000)
  (hb : hd x.ty = 2 → Qe Tryz.prog Wl [s.lv, LC false ((false, QI x.ty) :: ctx), b.lv] (Qq s (QI x.ty :: ctx.map Prod.snd) b).told)
  (hbg : hd x.ty = 2 → ∀ y, Qq s (QI x.ty :: ctx.map Prod.snd) b = .ok y → y.good s (ctx.length + 1))
  (hc : hd x.ty = 2 → Qe Tryz.prog Wl [s.lv, LC false ((false, Wv x.ty) :: ctx), c.lv] (Qq s (Wv x.ty :: ctx.map Prod.snd) c).told)
  (hcg : hd x.ty = 2 → ∀ y, Qq s (Wv x.ty :: ctx.map Prod.snd) c = .ok y → y.good s (ctx.length + 1)) :
  Qe Tryz.prog Zt [s.lv, LC nlc ctx, (GTerm.mk 8 n nl1 gty nl2 [a, b, c]).lv, aLV x n4] (Qq s (ctx.map Prod.snd) (GTerm.mk 8 n nl1 gty nl2 [a, b, c])).told := by
 have t := GSys.sys_of hsy
 have T := Zp9 (n := n) (nl1 := nl1) (nl2 := nl2) (gty := gty) (b := b) (c := c) hA hxg.1
 refine Qe.of_codeOf K4 QA (by simp) (VF _ fun f p h => Y5 _ _ f p h) ?_
 rw [T]
 have hx := X5 hxg.1
 have hxi : QN 1 (L false x.ty) 0 = some (.rp [N (hd x.ty)]) := ZL hx.2.2.2.1
 have e55 : eqB 8 5 = false := by rw [Qc]; omega
 have e58 : eqB 8 8 = true := by rw [Qd]
 have e512 : eqB 8 12 = false := by rw [Qc]; omega
 have hz : eqB 0 0 = true := by rw [Qd]
 by_cases q : hd x.ty = 2
 ·have hq : eqB (hd x.ty) 2 = true := by rw [Qd]; exact q
  have hk : Wr (hd x.ty) = some 2 := by rw [q]; exact Xo.2
  simp (disch := omega) [X0, Qw, Qs, GTerm.cells, hxi, hq, e55, e58, e512]
  refine Qa (XK t (GSys.G1 t) hn) (by simp) ?_
  rw [if_pos q]
  cases hl : s.le 1 n
  ·simp (disch := omega)
   refine Qi (Qe.low (Xc 8 (by omega))) (by simp) ?_
   rintro r ⟨⟨h3, w1, w2, w4, k4, rfl⟩, lo⟩
   simp (disch := omega)
   exact ⟨by omega, w1, w2, w4, k4, by simp⟩
  ·have p0 := XH hxg.1 0 (.inr hk)
   have p1 := XH hxg.1 1 (.inr hk)
   simp (disch := omega)
   refine Qa p0 (by simp) ?_
   simp (disch := omega) [Ql, e55]
   have w := YD nlc false ctx [(false, QI x.ty)] (by omega) (by simp)
   have w2 := YD nlc false ctx [(false, Wv x.ty)] (by omega) (by simp)
   simp only [List.map_cons, List.map_nil, List.cons_append, List.nil_append] at w w2
   refine Qa w (by simp) ?_
   have of := XL s 8 n nl1 gty nl2 [a, b, c] 1 (by simp) false ((false, QI x.ty) :: ctx) _ (Wy hbs) (hb q)
   have of2 := XL s 8 n nl1 gty nl2 [a, b, c] 2 (by simp) false ((false, Wv x.ty) :: ctx) _ (Wy hcs) (hc q)
   simp only [GTerm.lv, GTerm.cells, List.map_cons] at of of2
   simp (disch := omega) [Ql]
   refine Qi (Qe.low of) (by simp) ?_
   rintro r ⟨hr, lo⟩
   cases hB : Qq s (QI x.ty :: ctx.map Prod.snd) b with
   | bad f p =>
    rw [hB] at hr
    simp only [ofR] at hr
    obtain ⟨hf, u1, u2, u4, n4', rfl⟩ := hr
    have hf0 : eqB f 0 = false := by rw [Qc]; exact hf
    simp (disch := omega) [Qw, Qs, hf0]
    exact ⟨hf, false, false, false, n4', by simp⟩
   | ok y =>
    have hyg := hbg q y hB
    rw [hB] at hr
    simp only [ofR] at hr
    obtain ⟨u1, u2, u4, n4', rfl⟩ := hr
    have hyl := hyg.2.1
    have c2 : ZS 1 (L false y.needs) (some 1) none none = some (L false (y.needs.drop 1)) := YV (k := 1) (by omega)
    have i0 : QN 1 (L false y.needs) 0 = some (.rp [N (y.needs.getD 0 0)]) := Zg1 (i := 0) (by omega)
    have g0 := Zcj hyg.2.2 (show 0 < y.needs.length by omega)
    have cp := ZC false (y.needs.drop 1) (by simp; omega)
    have dl : (y.needs.drop 1).length = ctx.length := by simp; omega
    have dg : ∀ u ∈ y.needs.drop 1, s.G u := fun u hu => hyg.2.2 u (List.mem_of_mem_drop hu)
    have us := used1 (s := s) (l := y.needs) (g := n) (by omega)
    generalize y.needs.getD 0 0 = y0 at *
    obtain ⟨yr, hyr⟩ : ∃ yr, yr = y.needs.drop 1 := ⟨_, rfl⟩
    rw [← hyr] at c2 cp dl dg
    simp (disch := omega) [Qw, Qs, hz, c2]
    refine Qa cp (by simp) ?_
    simp (disch := omega) [e512, e55, e58]
    refine Qa p1 (by simp) ?_
    simp (disch := omega) [Ql]
    refine Qa w2 (by simp) ?_
    simp (disch := omega) [Ql]
    refine Qi (Qe.low of2) (by simp) ?_
    rintro r ⟨hr, lo⟩
    cases hC : Qq s (Wv x.ty :: ctx.map Prod.snd) c with
    | bad f p =>
     rw [hC] at hr
     simp only [ofR] at hr
     obtain ⟨hf, v1, v2, v4, m4', rfl⟩ := hr
     have hf0 : eqB f 0 = false := by rw [Qc]; exact hf
     simp (disch := omega) [Qw, Qs, hf0]
     exact ⟨hf, false, false, false, m4', by simp⟩
    | ok z =>
     have hzg := hcg q z hC
     rw [hC] at hr
     simp only [ofR] at hr
     obtain ⟨v1, v2, v4, m4', rfl⟩ := hr
     have hzl := hzg.2.1
     have d2 : ZS 1 (L false z.needs) (some 1) none none = some (L false (z.needs.drop 1)) := YV (k := 1) (by omega)
     have j0 : QN 1 (L false z.needs) 0 = some (.rp [N (z.needs.getD 0 0)]) := Zg1 (i := 0) (by omega)
     have k0 := Zcj hzg.2.2 (show 0 < z.needs.length by omega)
     have el : (z.needs.drop 1).length = ctx.length := by simp; omega
     have eg : ∀ u ∈ z.needs.drop 1, s.G u := fun u hu => hzg.2.2 u (List.mem_of_mem_drop hu)
     have vs := used1 (s := s) (l := z.needs) (g := n) (by omega)
     generalize z.needs.getD 0 0 = z0 at *
     obtain ⟨zr, hzr⟩ : ∃ zr, zr = z.needs.drop 1 := ⟨_, rfl⟩
     rw [← hzr] at d2 el eg
     have ly := QF hyg.1
     simp (disch := omega) [Qw, Qs, hz]
     have sm := KU false false y.ty z.ty (by omega)
     refine Qa sm (by simp) ?_
     cases he : (y.ty == z.ty)
     ·have he' : y.ty ≠ z.ty := by simpa using he
      simp (disch := omega)
      refine Qi (Qe.low (Xc 3 (by omega))) (by simp) ?_
      rintro r ⟨⟨h3, w1, w2, w4, k4, rfl⟩, lo⟩
      simp (disch := omega) [he']
      exact ⟨by omega, w1, w2, w4, k4, by simp⟩
     ·have he' : y.ty = z.ty := by simpa using he
      simp (disch := omega) [j0]
      refine Qa (XK t k0 hn) (by simp) ?_
      simp (disch := omega) [d2]
      have jn := Zka t false false yr zr (by omega) (by omega) dg eg
      refine Qa jn (by simp) ?_
      have jl := ZcB (s := s) dl el
      have jg : ∀ u ∈ Jb s yr zr, s.G u := fun u hu => ZkY hsy u hu dg eg
      cases hv0 : s.le z0 n
      ·simp (disch := omega)
       refine Qi (Qe.low (Xc 9 (by omega))) (by simp) ?_
       rintro r ⟨⟨h3, w1, w2, w4, k4, rfl⟩, lo⟩
       simp (disch := omega) [us, vs, hv0, he']
       exact ⟨by omega, w1, w2, w4, k4, by simp⟩
      ·simp (disch := omega) [i0]
       refine Qa (XK t g0 hn) (by simp) ?_
       cases hu0 : s.le y0 n
       ·simp (disch := omega)
        refine Qi (Qe.low (Xc 9 (by omega))) (by simp) ?_
        rintro r ⟨⟨h3, w1, w2, w4, k4, rfl⟩, lo⟩
        simp (disch := omega) [us, vs, hu0, hv0, he']
        exact ⟨by omega, w1, w2, w4, k4, by simp⟩
       ·have zz := KT ctx.length (by omega)
        have sc := YZ t false false (WC ctx.length) n hn x.needs (by simp [WC]; omega) (by rw [hxg.2.1]; simp [WC]) (Zad t _).2 hxg.2.2
        have e1 := Zcg hsy n x.needs
        rw [hxg.2.1] at e1
        rw [e1] at sc
        have so := X7 t (g := n) hxg.2.1
        have s2 := YZ t false false (WQ s n x.needs) 1 (GSys.G1 t) (Jb s yr zr) (by rw [so.1]; omega) (by rw [so.1, jl]) so.2 jg
        rw [VG hsy _ _ jg] at s2
        simp (disch := omega)
        refine Qa zz (by simp) ?_
        simp (disch := omega)
        refine Qa sc (by simp) ?_
        simp (disch := omega)
        refine Qa s2 (by simp) ?_
        simp (disch := omega) [us, vs, hu0, hv0, he']
        exact ⟨false, true, true, true, by simp [hyr, hzr, he']⟩
 ·have hq : eqB (hd x.ty) 2 = false := by rw [Qc]; exact q
  rw [if_neg q]
  simp (disch := omega) [X0, Qw, Qs, GTerm.cells, hxi, hq, e55, e58, e512]
  refine Qi (Qe.low (Xc 5 (by omega))) (by simp) ?_
  rintro r ⟨⟨h3, w1, w2, w4, k4, rfl⟩, lo⟩
  simp (disch := omega)
  exact ⟨by omega, w1, w2, w4, k4, by simp⟩
end
end Go.Proofs.YtclfngbealdbgaaGreat
namespace Go.Proofs.YtclfngbealdbgaaGreat
open Go Go.TL
open Go.Proofs.YtclfngbealdbgaaGreat.Ty
set_option linter.unusedSimpArgs false
set_option linter.unusedVariables false
set_option maxRecDepth 20000
set_option maxHeartbeats 4000000
theorem kids0 {ks : List GTerm} (h : (ks.length : Int) = 0) : ks = [] := by cases ks with
 | nil => rfl
 | cons a l => simp at h; omega
theorem kids1 {ks : List GTerm} (h : (ks.length : Int) = 1) : ∃ a, ks = [a] := by
 match ks, h with
 | [a], _ => exact ⟨a, rfl⟩
 | [], h => simp at h
 | _ :: _ :: _, h => simp at h; omega
theorem Zm2 {ks : List GTerm} (h : (ks.length : Int) = 2) : ∃ a b, ks = [a, b] := by
 match ks, h with
 | [a, b], _ => exact ⟨a, b, rfl⟩
 | [], h => simp at h
 | [_], h => simp at h
 | _ :: _ :: _ :: _, h => simp at h; omega
theorem kids3 {ks : List GTerm} (h : (ks.length : Int) = 3) : ∃ a b c, ks = [a, b, c] := by
 match ks, h with
 | [a, b, c], _ => exact ⟨a, b, c, rfl⟩
 | [], h => simp at h
 | [_], h => simp at h
 | [_, _], h => simp at h
 | _ :: _ :: _ :: _ :: _, h => simp at h; omega
theorem Zni {s : GSys} {cx : List (List Int)} {op n : Int} {nl1 nl2 : Bool} {gty : List Int} {a : GTerm} {ks : List GTerm} {x : TT} (h : Qq s (QB op gty 0 [] ++ cx) a = .ok x) (h2 : QK s op n 0 (hd x.ty) ≠ 0) :
  Qq s cx (.mk op n nl1 gty nl2 (a :: ks)) = .bad (QK s op n 0 (hd x.ty)) [] := by
 have h' : Qq s (QB op gty 0 (first []) ++ cx) a = .ok x := h
 simp [Qq, Q9, h', h2]
theorem V0 {ty nd : List Int} {ks : List TT} {r : LV} (h : (Zir ty nd).told r) : (Zr ty nd ks).told r := by
 unfold Zir at h
 unfold Zr
 split at h
 ·rename_i q; rw [if_pos q]; exact h
 ·rename_i q; rw [if_neg q]; exact h
theorem Zhq {s : GSys} (g : Int) : ∀ (a b : List Int), ZdY s a g b = Ji s a (WQ s g b)
 | [], b => by simp [ZdY, Ji]
 | x :: a, [] => by simp [ZdY, Ji, WQ]
 | x :: a, y :: b => by
  have := Zhq (s := s) g a b
  simp only [ZdY, Ji, WQ, List.zipWith_cons_cons, List.map_cons] at this ⊢
  rw [this]
structure KidT (s : GSys) (cx : Wk) (k : GTerm) : Prop where
 tell : ∀ nl, Qe Tryz.prog Wl [s.lv, LC nl cx, k.lv] (Qq s (cx.map Prod.snd) k).told
 good : ∀ y, Qq s (cx.map Prod.snd) k = .ok y → y.good s cx.length
 small : k.size ≤ 1000000
theorem ZcA {s : GSys} (hsy : s.sys = true) (d : Nat) : ∀ (g : GTerm) (nlc : Bool) (ctx : Wk), g.size ≤ d → g.wf → g.fl → (∀ c ∈ ctx, okL s.size c.2 = true) → (∀ c ∈ ctx, c.1 = false) → ctx.length + 2 * g.size ≤ 100000 → Xr ctx.length s.size true g = true →
  Qe Tryz.prog Wl [s.lv, LC nlc ctx, g.lv] (Qq s (ctx.map Prod.snd) g).told := by
 induction d with
 | zero => intro g _ _ h; have := g.size_pos; omega
 | succ d ih =>
  rintro ⟨op, n, nl1, gty, nl2, ks⟩ nlc ctx hsz hw hfl hc hcf hlen hform
  have t := GSys.sys_of hsy
  have h16 := t.hi
  simp only [Xr, Bool.and_eq_true] at hform
  obtain ⟨hnode, hforms⟩ := hform
  have no := Ze8 hnode
  simp only [GTerm.wf] at hw
  obtain ⟨wop, wn, wty, wk, wks⟩ := hw
  simp only [GTerm.fl] at hfl
  obtain ⟨fl1, flk⟩ := hfl
  simp only [GTerm.size] at hsz hlen
  obtain ⟨many, hvar, hgr, hty, o1, o2⟩ := no
  have kid : ∀ (i : Nat) (hi : i < ks.length) (more : Wk), more.length = (Qt op i).toNat → (∀ c ∈ more, okL s.size c.2 = true) → (∀ c ∈ more, c.1 = false) → KidT s (more ++ ctx) ks[i] := by
   intro i hi more hml hmo hmf
   have ha := Zv op i
   have hf := Zht hforms i hi
   simp only [Nat.zero_add] at hf
   have hks := Zd hi
   have e : (((more ++ ctx).length : Nat) : Int) = ctx.length + Qt op i := by rw [List.length_append]; omega
   have hok : ∀ c ∈ more ++ ctx, okL s.size c.2 = true := fun c h => (List.mem_append.1 h).elim (hmo c) (hc c)
   have hfl' : ∀ c ∈ more ++ ctx, c.1 = false := fun c h => (List.mem_append.1 h).elim (hmf c) (hcf c)
   refine ⟨fun nl => ih ks[i] nl (more ++ ctx) (by omega) ((ZaR.1 wks) _ (List.getElem_mem hi)) ((VI.1 flk) _ (List.getElem_mem hi)) hok hfl' (by rw [List.length_append]; omega) (by rw [e]; exact hf), fun y hy => ?_, by omega⟩
   have := JT t ks[i] ((more ++ ctx).map Prod.snd) y (fun l hl => by
    obtain ⟨c, h1, rfl⟩ := List.mem_map.1 hl
    exact hok c h1) (by rw [List.length_map, e]; exact hf) hy
   rw [List.length_map] at this
   exact this
  have hops : op = 0 ∨ op = 1 ∨ op = 2 ∨ op = 3 ∨ op = 4 ∨ op = 5 ∨ op = 6 ∨ op = 7 ∨ op = 8 ∨ op = 9 ∨ op = 10 ∨ op = 11 ∨ op = 12 := by omega
  have hz : eqB 0 0 = true := by rw [Qd]
  have hm : ctx.length ≤ 100000 := by omega
  refine Qe.of_codeOf Zjs QA (by simp) (VF _ fun f p h => Y5 _ _ f p h) ?_
  rcases hops with e | e | e | e | e | e | e | e | e | e | e | e | e
  all_goals subst e
  all_goals simp [YG] at many
  ·
   obtain rfl : ks = [] := by first | exact many | exact kids0 (by omega)
   obtain ⟨v0, v1⟩ := hvar rfl
   obtain ⟨v, rfl⟩ : ∃ v : Nat, n = v := ⟨n.toNat, by omega⟩
   have hv : v < ctx.length := by omega
   have hx := KI ctx nlc v hv
   have hxo := hc _ (List.getElem_mem hv)
   have hxf := hcf _ (List.getElem_mem hv)
   have hget : (ctx.map Prod.snd).getD v [] = ctx[v].2 := by simp [List.getD_eq_getElem?_getD, hv]
   generalize ctx[v] = c at hx hxo hxf hget
   obtain ⟨cf, cl⟩ := c
   simp only at hxo hxf hget
   subst hxf
   have hlen2 := QF hxo
   rw [tell_var, show ((v : Int)).toNat = v by omega, hget, List.length_map]
   simp (disch := omega) [WD, Qw, Qs, GTerm.cells, hz]
   refine ZnK (KT ctx.length (by omega)) (by simp only [Ym, Zcs]; exact ⟨_, [], rfl, rfl, rfl⟩) (by rintro r rfl; exact whole_sc (fun n : Int => Value.int .i64 n) true false _ (.inr ⟨rfl, rfl⟩)) ?_
   rintro tz y bs rfl hth
   rcases (th_sc (fun n : Int => Value.int .i64 n)).1 hth with ⟨h0, _, _⟩ | ⟨_, hne, slack, cap, ⟨hcap, hsl⟩, rfl, rfl⟩
   ·exfalso
    have h9 := congrArg List.length h0
    rw [show (WC ctx.length).length = ctx.length by simp [WC]] at h9
    have h9 : ctx.length = 0 := h9
    omega
   have hzl : (WC ctx.length).length = ctx.length := by simp [WC]
   clear hth
   have hst := ZlY (WC ctx.length) (List.replicate slack .dead) v 1 (by omega)
   have hsp := Zgg (WC ctx.length) (List.replicate slack .dead) v 1 (by omega)
   simp (disch := omega) [hx, ZlU (show v < (WC ctx.length).length by omega)]
   refine ⟨by omega, ?_⟩
   rw [frz_at (xs := List.take v ((WC ctx.length).map N ++ List.replicate slack .dead) ++ N 1 :: List.drop (v + 1) ((WC ctx.length).map N ++ List.replicate slack .dead)) (by simp) (by simp; omega) hcap, hst]
   generalize (WC ctx.length).set v 1 = zz
   simp (disch := omega) [hx]
   refine Qa (ZC false cl (by omega)) (by simp) ?_
   simp (disch := omega)
   exact ⟨true, true, true, true, by simp⟩
  ·
   obtain rfl : ks = [] := by first | exact many | exact kids0 (by omega)
   have e10 : eqB 1 0 = false := by rw [Qc]; omega
   have e11 : eqB 1 1 = true := by rw [Qd]
   rw [tell_num]
   simp (disch := omega) [WD, Qw, Qs, GTerm.cells, e10, e11, Ql]
   refine Qa (KT ctx.length (by omega)) (by simp) ?_
   simp (disch := omega)
   exact ⟨true, true, true, true, by simp⟩
  ·obtain ⟨a, b, rfl⟩ := Zm2 (by omega)
   have ka := kid 0 (by simp) [] (by simp [Qt]) (by simp) (by simp)
   simp only [List.nil_append, List.getElem_cons_zero] at ka
   have kb := kid 1 (by simp) [] (by simp [Qt]) (by simp) (by simp)
   simp only [List.nil_append, List.getElem_cons_succ, List.getElem_cons_zero] at kb
   have E : ∀ k : Int, k ≠ 2 → eqB 2 k = false := fun k h => by rw [Qc]; omega
   have E2 : eqB 2 2 = true := by rw [Qd]
   have a0 : QB 2 gty 0 [] ++ ctx.map Prod.snd = ctx.map Prod.snd := by simp [QB, Qt]
   have of := XL s 2 n nl1 gty nl2 [a, b] 0 (by simp) nlc ctx _ (Wy ka.small) (ka.tell nlc)
   simp only [GTerm.lv, GTerm.cells] at of
   simp (disch := omega) [WD, Qw, Qs, GTerm.cells, E, E2]
   refine Qi (Qe.low of) (by simp) ?_
   rintro r ⟨hr, lo⟩
   cases hA : Qq s (ctx.map Prod.snd) a with
   | bad f p =>
    rw [hA] at hr
    simp only [ofR] at hr
    obtain ⟨hf, u1, u2, u4, n4', rfl⟩ := hr
    have hf0 : eqB f 0 = false := by rw [Qc]; exact hf
    rw [X6 (by rw [a0]; exact hA)]
    simp (disch := omega) [Qw, Qs, hf0]
    exact ⟨hf, false, false, false, n4', by simp⟩
   | ok x =>
    have hxg := ka.good x hA
    rw [hA] at hr
    simp only [ofR] at hr
    obtain ⟨u1, u2, u4, n4', rfl⟩ := hr
    have hx := X5 hxg.1
    have lx := QF hxg.1
    have hxi : QN 1 (L false x.ty) 0 = some (.rp [N (hd x.ty)]) := ZL hx.2.2.2.1
    by_cases q : hd x.ty = 0
    ·have hq : eqB (hd x.ty) 0 = true := by rw [Qd]; exact q
     simp (disch := omega) [Qw, Qs, hz, hxi, hq, E, E2]
     have tk := ZiX hsy nlc ctx hm n nl1 gty nl2 a b x n4' hxg hA q kb.small (kb.tell nlc) kb.good
     simp only [GTerm.lv, GTerm.cells] at tk
     refine Qi (Qe.low tk) (by simp) ?_
     rintro r ⟨hr, lo⟩
     cases hT : Qq s (ctx.map Prod.snd) (GTerm.mk 2 n nl1 gty nl2 [a, b]) with
     | ok z =>
      rw [hT] at hr
      obtain ⟨v1, v2, v4, m4, rfl⟩ := hr
      simp (disch := omega)
      exact ⟨v1, v2, v4, m4, by simp⟩
     | bad f p =>
      rw [hT] at hr
      obtain ⟨hf, v1, v2, v4, m4, rfl⟩ := hr
      simp (disch := omega)
      exact ⟨hf, v1, v2, v4, m4, by simp⟩
    ·have hq : eqB (hd x.ty) 0 = false := by rw [Qc]; exact q
     have fo := fo_add (n := n) (i := 0) hxg.1
     rw [if_neg q] at fo
     rw [Zni (by rw [a0]; exact hA) (by rw [fo]; omega), fo]
     simp (disch := omega) [Qw, Qs, hz, hxi, hq, E, E2]
     refine Qi (Qe.low (Xc 2 (by omega))) (by simp) ?_
     rintro r ⟨⟨h3, w1, w2, w4, k4, rfl⟩, lo⟩
     simp (disch := omega)
     exact ⟨by omega, w1, w2, w4, k4, by simp⟩
  ·obtain ⟨a, b, c, rfl⟩ := kids3 (by omega)
   have ka := kid 0 (by simp) [] (by simp [Qt]) (by simp) (by simp)
   simp only [List.nil_append, List.getElem_cons_zero] at ka
   have kb := kid 1 (by simp) [] (by simp [Qt]) (by simp) (by simp)
   simp only [List.nil_append, List.getElem_cons_succ, List.getElem_cons_zero] at kb
   have kc := kid 2 (by simp) [] (by simp [Qt]) (by simp) (by simp)
   simp only [List.nil_append, List.getElem_cons_succ, List.getElem_cons_zero] at kc
   have E : ∀ k : Int, k ≠ 3 → eqB 3 k = false := fun k h => by rw [Qc]; omega
   have E2 : eqB 3 3 = true := by rw [Qd]
   have a0 : QB 3 gty 0 [] ++ ctx.map Prod.snd = ctx.map Prod.snd := by simp [QB, Qt]
   have of := XL s 3 n nl1 gty nl2 [a, b, c] 0 (by simp) nlc ctx _ (Wy ka.small) (ka.tell nlc)
   simp only [GTerm.lv, GTerm.cells] at of
   simp (disch := omega) [WD, Qw, Qs, GTerm.cells, E, E2]
   refine Qi (Qe.low of) (by simp) ?_
   rintro r ⟨hr, lo⟩
   cases hA : Qq s (ctx.map Prod.snd) a with
   | bad f p =>
    rw [hA] at hr
    simp only [ofR] at hr
    obtain ⟨hf, u1, u2, u4, n4', rfl⟩ := hr
    have hf0 : eqB f 0 = false := by rw [Qc]; exact hf
    rw [X6 (by rw [a0]; exact hA)]
    simp (disch := omega) [Qw, Qs, hf0]
    exact ⟨hf, false, false, false, n4', by simp⟩
   | ok x =>
    have hxg := ka.good x hA
    rw [hA] at hr
    simp only [ofR] at hr
    obtain ⟨u1, u2, u4, n4', rfl⟩ := hr
    have hx := X5 hxg.1
    have lx := QF hxg.1
    have hxi : QN 1 (L false x.ty) 0 = some (.rp [N (hd x.ty)]) := ZL hx.2.2.2.1
    by_cases q : hd x.ty = 0
    ·have hq : eqB (hd x.ty) 0 = true := by rw [Qd]; exact q
     simp (disch := omega) [Qw, Qs, hz, hxi, hq, E, E2]
     have tk := ZkX hsy nlc ctx hm n nl1 gty nl2 a b c x n4' hxg hA q kb.small kc.small (kb.tell nlc) kb.good (kc.tell nlc) kc.good
     simp only [GTerm.lv, GTerm.cells] at tk
     refine Qi (Qe.low tk) (by simp) ?_
     rintro r ⟨hr, lo⟩
     cases hT : Qq s (ctx.map Prod.snd) (GTerm.mk 3 n nl1 gty nl2 [a, b, c]) with
     | ok z =>
      rw [hT] at hr
      obtain ⟨v1, v2, v4, m4, rfl⟩ := hr
      simp (disch := omega)
      exact ⟨v1, v2, v4, m4, by simp⟩
     | bad f p =>
      rw [hT] at hr
      obtain ⟨hf, v1, v2, v4, m4, rfl⟩ := hr
      simp (disch := omega)
      exact ⟨hf, v1, v2, v4, m4, by simp⟩
    ·have hq : eqB (hd x.ty) 0 = false := by rw [Qc]; exact q
     have fo := fo_if0 (n := n) hxg.1
     rw [if_neg q] at fo
     rw [Zni (by rw [a0]; exact hA) (by rw [fo]; omega), fo]
     simp (disch := omega) [Qw, Qs, hz, hxi, hq, E, E2]
     refine Qi (Qe.low (Xc 2 (by omega))) (by simp) ?_
     rintro r ⟨⟨h3, w1, w2, w4, k4, rfl⟩, lo⟩
     simp (disch := omega)
     exact ⟨by omega, w1, w2, w4, k4, by simp⟩
  ·obtain ⟨a, b, rfl⟩ := Zm2 (by omega)
   have ka := kid 0 (by simp) [] (by simp [Qt]) (by simp) (by simp)
   simp only [List.nil_append, List.getElem_cons_zero] at ka
   have kb := kid 1 (by simp) [] (by simp [Qt]) (by simp) (by simp)
   simp only [List.nil_append, List.getElem_cons_succ, List.getElem_cons_zero] at kb
   have E : ∀ k : Int, k ≠ 4 → eqB 4 k = false := fun k h => by rw [Qc]; omega
   have E2 : eqB 4 4 = true := by rw [Qd]
   have a0 : QB 4 gty 0 [] ++ ctx.map Prod.snd = ctx.map Prod.snd := by simp [QB, Qt]
   have of := XL s 4 n nl1 gty nl2 [a, b] 0 (by simp) nlc ctx _ (Wy ka.small) (ka.tell nlc)
   simp only [GTerm.lv, GTerm.cells] at of
   simp (disch := omega) [WD, Qw, Qs, GTerm.cells, E, E2]
   refine Qi (Qe.low of) (by simp) ?_
   rintro r ⟨hr, lo⟩
   cases hA : Qq s (ctx.map Prod.snd) a with
   | bad f p =>
    rw [hA] at hr
    simp only [ofR] at hr
    obtain ⟨hf, u1, u2, u4, n4', rfl⟩ := hr
    have hf0 : eqB f 0 = false := by rw [Qc]; exact hf
    rw [X6 (by rw [a0]; exact hA)]
    simp (disch := omega) [Qw, Qs, hf0]
    exact ⟨hf, false, false, false, n4', by simp⟩
   | ok x =>
    have hxg := ka.good x hA
    rw [hA] at hr
    simp only [ofR] at hr
    obtain ⟨u1, u2, u4, n4', rfl⟩ := hr
    have hx := X5 hxg.1
    have lx := QF hxg.1
    have hxi : QN 1 (L false x.ty) 0 = some (.rp [N (hd x.ty)]) := ZL hx.2.2.2.1
    simp (disch := omega) [Qw, Qs, hz, hxi, E, E2]
    rw [Zp1 hA]
    have of2 := XL s 4 n nl1 gty nl2 [a, b] 1 (by simp) nlc ctx _ (Wy kb.small) (kb.tell nlc)
    simp only [GTerm.lv, GTerm.cells] at of2
    refine Qi (Qe.low of2) (by simp) ?_
    rintro r ⟨hr, lo⟩
    cases hB : Qq s (ctx.map Prod.snd) b with
    | bad f p =>
     rw [hB] at hr
     simp only [ofR] at hr
     obtain ⟨hf, v1, v2, v4, m4', rfl⟩ := hr
     have hf0 : eqB f 0 = false := by rw [Qc]; exact hf
     simp (disch := omega) [Qw, Qs, hf0]
     exact ⟨hf, false, false, false, m4', by simp⟩
    | ok y =>
     have hyg := kb.good y hB
     rw [hB] at hr
     simp only [ofR] at hr
     obtain ⟨v1, v2, v4, m4', rfl⟩ := hr
     have ly := QF hyg.1
     have s1 := YZ t false false x.needs 1 (GSys.G1 t) y.needs (by rw [hxg.2.1]; omega) (by rw [hxg.2.1, hyg.2.1]) hxg.2.2 hyg.2.2
     rw [VG hsy _ _ hyg.2.2] at s1
     obtain ⟨z, hzz⟩ : ∃ z, z = 1 :: (x.ty ++ y.ty) := ⟨_, rfl⟩
     have gl := YR 1 false false false x.ty y.ty (by omega) (by omega)
     dsimp only
     rw [← hzz] at gl ⊢
     simp (disch := omega) [Qw, Qs, hz, Ql]
     refine Qa gl (by simp) ?_
     simp (disch := omega)
     refine Qa s1 (by simp) ?_
     simp (disch := omega)
     have dn := Zag z (Ji s x.needs y.needs)
     refine Qi (Qe.low dn) (by simp) ?_
     rintro r ⟨hr, lo⟩
     have hl := V0 (ks := [x, y]) hr
     unfold Zr at hl ⊢
     by_cases q9 : z.length ≤ 40
     ·rw [if_pos q9] at hl ⊢
      obtain ⟨v1, v2, v4, m4, rfl⟩ := hl
      simp (disch := omega)
      exact ⟨v1, v2, v4, m4, by simp⟩
     ·rw [if_neg q9] at hl ⊢
      obtain ⟨hf, v1, v2, v4, m4, rfl⟩ := hl
      simp (disch := omega)
      exact ⟨hf, v1, v2, v4, m4, by simp⟩
  ·obtain ⟨a, b, rfl⟩ := Zm2 (by omega)
   have ka := kid 0 (by simp) [] (by simp [Qt]) (by simp) (by simp)
   simp only [List.nil_append, List.getElem_cons_zero] at ka
   have E : ∀ k : Int, k ≠ 5 → eqB 5 k = false := fun k h => by rw [Qc]; omega
   have E2 : eqB 5 5 = true := by rw [Qd]
   have a0 : QB 5 gty 0 [] ++ ctx.map Prod.snd = ctx.map Prod.snd := by simp [QB, Qt]
   have of := XL s 5 n nl1 gty nl2 [a, b] 0 (by simp) nlc ctx _ (Wy ka.small) (ka.tell nlc)
   simp only [GTerm.lv, GTerm.cells] at of
   simp (disch := omega) [WD, Qw, Qs, GTerm.cells, E, E2]
   refine Qi (Qe.low of) (by simp) ?_
   rintro r ⟨hr, lo⟩
   cases hA : Qq s (ctx.map Prod.snd) a with
   | bad f p =>
    rw [hA] at hr
    simp only [ofR] at hr
    obtain ⟨hf, u1, u2, u4, n4', rfl⟩ := hr
    have hf0 : eqB f 0 = false := by rw [Qc]; exact hf
    rw [X6 (by rw [a0]; exact hA)]
    simp (disch := omega) [Qw, Qs, hf0]
    exact ⟨hf, false, false, false, n4', by simp⟩
   | ok x =>
    have hxg := ka.good x hA
    rw [hA] at hr
    simp only [ofR] at hr
    obtain ⟨u1, u2, u4, n4', rfl⟩ := hr
    have hx := X5 hxg.1
    have lx := QF hxg.1
    have hxi : QN 1 (L false x.ty) 0 = some (.rp [N (hd x.ty)]) := ZL hx.2.2.2.1
    have kb : hd x.ty = 1 → KidT s ([(false, Wv x.ty), (false, QI x.ty)] ++ ctx) b := fun q => by
     have two := Jo hxg.1 (by rw [q]; exact Xo.1)
     have := kid 1 (by simp) [(false, Wv x.ty), (false, QI x.ty)] (by simp [Qt]) (by simp [two.2.1, two.2.2]) (by simp)
     simpa using this
    have hgn := hgr (by simp [JD, Qd])
    simp (disch := omega) [Qw, Qs, hz, hxi, E, E2]
    have tk := ZiR hsy nlc ctx hm n nl1 gty nl2 a b x n4' hgn hxg hA (by have := Zd (ks := [a, b]) (i := 1) (by simp); simp at this; omega) (fun q => (kb q).tell false) (fun q y hy => (kb q).good y hy)
    simp only [GTerm.lv, GTerm.cells] at tk
    refine Qi (Qe.low tk) (by simp) ?_
    rintro r ⟨hr, lo⟩
    cases hT : Qq s (ctx.map Prod.snd) (GTerm.mk 5 n nl1 gty nl2 [a, b]) with
    | ok z =>
     rw [hT] at hr
     obtain ⟨v1, v2, v4, m4, rfl⟩ := hr
     simp (disch := omega)
     exact ⟨v1, v2, v4, m4, by simp⟩
    | bad f p =>
     rw [hT] at hr
     obtain ⟨hf, v1, v2, v4, m4, rfl⟩ := hr
     simp (disch := omega)
     exact ⟨hf, v1, v2, v4, m4, by simp⟩
  ·obtain ⟨a, rfl⟩ := kids1 (by omega)
   have ka := kid 0 (by simp) [] (by simp [Qt]) (by simp) (by simp)
   simp only [List.nil_append, List.getElem_cons_zero] at ka
   have E : ∀ k : Int, k ≠ 6 → eqB 6 k = false := fun k h => by rw [Qc]; omega
   have E2 : eqB 6 6 = true := by rw [Qd]
   have a0 : QB 6 gty 0 [] ++ ctx.map Prod.snd = ctx.map Prod.snd := by simp [QB, Qt]
   have of := XL s 6 n nl1 gty nl2 [a] 0 (by simp) nlc ctx _ (Wy ka.small) (ka.tell nlc)
   simp only [GTerm.lv, GTerm.cells] at of
   simp (disch := omega) [WD, Qw, Qs, GTerm.cells, E, E2]
   refine Qi (Qe.low of) (by simp) ?_
   rintro r ⟨hr, lo⟩
   cases hA : Qq s (ctx.map Prod.snd) a with
   | bad f p =>
    rw [hA] at hr
    simp only [ofR] at hr
    obtain ⟨hf, u1, u2, u4, n4', rfl⟩ := hr
    have hf0 : eqB f 0 = false := by rw [Qc]; exact hf
    rw [X6 (by rw [a0]; exact hA)]
    simp (disch := omega) [Qw, Qs, hf0]
    exact ⟨hf, false, false, false, n4', by simp⟩
   | ok x =>
    have hxg := ka.good x hA
    rw [hA] at hr
    simp only [ofR] at hr
    obtain ⟨u1, u2, u4, n4', rfl⟩ := hr
    have hx := X5 hxg.1
    have lx := QF hxg.1
    have hxi : QN 1 (L false x.ty) 0 = some (.rp [N (hd x.ty)]) := ZL hx.2.2.2.1
    have hgt := hty (by simp [Xw, Qd])
    have lg := QF hgt
    rw [ZpZ hA]
    obtain ⟨z, hzz⟩ : ∃ z, z = 2 :: (x.ty ++ gty) := ⟨_, rfl⟩
    have gl := YR 2 false false nl1 x.ty gty (by omega) (by omega)
    rw [← hzz] at gl ⊢
    simp (disch := omega) [Qw, Qs, hz, hxi, E, E2, Ql]
    refine Qa gl (by simp) ?_
    simp (disch := omega)
    have dn := Zag z x.needs
    refine Qi (Qe.low dn) (by simp) ?_
    rintro r ⟨hr, lo⟩
    have hl := V0 (ks := [x]) hr
    unfold Zr at hl ⊢
    by_cases q9 : z.length ≤ 40
    ·rw [if_pos q9] at hl ⊢
     obtain ⟨v1, v2, v4, m4, rfl⟩ := hl
     simp (disch := omega)
     exact ⟨v1, v2, v4, m4, by simp⟩
    ·rw [if_neg q9] at hl ⊢
     obtain ⟨hf, v1, v2, v4, m4, rfl⟩ := hl
     simp (disch := omega)
     exact ⟨hf, v1, v2, v4, m4, by simp⟩
  ·obtain ⟨a, rfl⟩ := kids1 (by omega)
   have ka := kid 0 (by simp) [] (by simp [Qt]) (by simp) (by simp)
   simp only [List.nil_append, List.getElem_cons_zero] at ka
   have E : ∀ k : Int, k ≠ 7 → eqB 7 k = false := fun k h => by rw [Qc]; omega
   have E2 : eqB 7 7 = true := by rw [Qd]
   have a0 : QB 7 gty 0 [] ++ ctx.map Prod.snd = ctx.map Prod.snd := by simp [QB, Qt]
   have of := XL s 7 n nl1 gty nl2 [a] 0 (by simp) nlc ctx _ (Wy ka.small) (ka.tell nlc)
   simp only [GTerm.lv, GTerm.cells] at of
   simp (disch := omega) [WD, Qw, Qs, GTerm.cells, E, E2]
   refine Qi (Qe.low of) (by simp) ?_
   rintro r ⟨hr, lo⟩
   cases hA : Qq s (ctx.map Prod.snd) a with
   | bad f p =>
    rw [hA] at hr
    simp only [ofR] at hr
    obtain ⟨hf, u1, u2, u4, n4', rfl⟩ := hr
    have hf0 : eqB f 0 = false := by rw [Qc]; exact hf
    rw [X6 (by rw [a0]; exact hA)]
    simp (disch := omega) [Qw, Qs, hf0]
    exact ⟨hf, false, false, false, n4', by simp⟩
   | ok x =>
    have hxg := ka.good x hA
    rw [hA] at hr
    simp only [ofR] at hr
    obtain ⟨u1, u2, u4, n4', rfl⟩ := hr
    have hx := X5 hxg.1
    have lx := QF hxg.1
    have hxi : QN 1 (L false x.ty) 0 = some (.rp [N (hd x.ty)]) := ZL hx.2.2.2.1
    have hgt := hty (by simp [Xw, Qd])
    have lg := QF hgt
    rw [ZoU hA]
    obtain ⟨z, hzz⟩ : ∃ z, z = 2 :: (gty ++ x.ty) := ⟨_, rfl⟩
    have gl := YR 2 false nl1 false gty x.ty (by omega) (by omega)
    rw [← hzz] at gl ⊢
    simp (disch := omega) [Qw, Qs, hz, hxi, E, E2, Ql]
    refine Qa gl (by simp) ?_
    simp (disch := omega)
    have dn := Zag z x.needs
    refine Qi (Qe.low dn) (by simp) ?_
    rintro r ⟨hr, lo⟩
    have hl := V0 (ks := [x]) hr
    unfold Zr at hl ⊢
    by_cases q9 : z.length ≤ 40
    ·rw [if_pos q9] at hl ⊢
     obtain ⟨v1, v2, v4, m4, rfl⟩ := hl
     simp (disch := omega)
     exact ⟨v1, v2, v4, m4, by simp⟩
    ·rw [if_neg q9] at hl ⊢
     obtain ⟨hf, v1, v2, v4, m4, rfl⟩ := hl
     simp (disch := omega)
     exact ⟨hf, v1, v2, v4, m4, by simp⟩
  ·obtain ⟨a, b, c, rfl⟩ := kids3 (by omega)
   have ka := kid 0 (by simp) [] (by simp [Qt]) (by simp) (by simp)
   simp only [List.nil_append, List.getElem_cons_zero] at ka
   have E : ∀ k : Int, k ≠ 8 → eqB 8 k = false := fun k h => by rw [Qc]; omega
   have E2 : eqB 8 8 = true := by rw [Qd]
   have a0 : QB 8 gty 0 [] ++ ctx.map Prod.snd = ctx.map Prod.snd := by simp [QB, Qt]
   have of := XL s 8 n nl1 gty nl2 [a, b, c] 0 (by simp) nlc ctx _ (Wy ka.small) (ka.tell nlc)
   simp only [GTerm.lv, GTerm.cells] at of
   simp (disch := omega) [WD, Qw, Qs, GTerm.cells, E, E2]
   refine Qi (Qe.low of) (by simp) ?_
   rintro r ⟨hr, lo⟩
   cases hA : Qq s (ctx.map Prod.snd) a with
   | bad f p =>
    rw [hA] at hr
    simp only [ofR] at hr
    obtain ⟨hf, u1, u2, u4, n4', rfl⟩ := hr
    have hf0 : eqB f 0 = false := by rw [Qc]; exact hf
    rw [X6 (by rw [a0]; exact hA)]
    simp (disch := omega) [Qw, Qs, hf0]
    exact ⟨hf, false, false, false, n4', by simp⟩
   | ok x =>
    have hxg := ka.good x hA
    rw [hA] at hr
    simp only [ofR] at hr
    obtain ⟨u1, u2, u4, n4', rfl⟩ := hr
    have hx := X5 hxg.1
    have lx := QF hxg.1
    have hxi : QN 1 (L false x.ty) 0 = some (.rp [N (hd x.ty)]) := ZL hx.2.2.2.1
    have kb : hd x.ty = 2 → KidT s ([(false, QI x.ty)] ++ ctx) b := fun q => by
     have two := Jo hxg.1 (by rw [q]; exact Xo.2)
     have := kid 1 (by simp) [(false, QI x.ty)] (by simp [Qt]) (by simp [two.2.1, two.2.2]) (by simp)
     simpa using this
    have kc : hd x.ty = 2 → KidT s ([(false, Wv x.ty)] ++ ctx) c := fun q => by
     have two := Jo hxg.1 (by rw [q]; exact Xo.2)
     have := kid 2 (by simp) [(false, Wv x.ty)] (by simp [Qt]) (by simp [two.2.1, two.2.2]) (by simp)
     simpa using this
    have hgn := hgr (by simp [JD, Qd])
    simp (disch := omega) [Qw, Qs, hz, hxi, E, E2]
    have tk := ZlG hsy nlc ctx hm n nl1 gty nl2 a b c x n4' hgn hxg hA (by have := Zd (ks := [a, b, c]) (i := 1) (by simp); simp at this; omega) (by have := Zd (ks := [a, b, c]) (i := 2) (by simp); simp at this; omega) (fun q => (kb q).tell false) (fun q y hy => (kb q).good y hy) (fun q => (kc q).tell false) (fun q y hy => (kc q).good y hy)
    simp only [GTerm.lv, GTerm.cells] at tk
    refine Qi (Qe.low tk) (by simp) ?_
    rintro r ⟨hr, lo⟩
    cases hT : Qq s (ctx.map Prod.snd) (GTerm.mk 8 n nl1 gty nl2 [a, b, c]) with
    | ok z =>
     rw [hT] at hr
     obtain ⟨v1, v2, v4, m4, rfl⟩ := hr
     simp (disch := omega)
     exact ⟨v1, v2, v4, m4, by simp⟩
    | bad f p =>
     rw [hT] at hr
     obtain ⟨hf, v1, v2, v4, m4, rfl⟩ := hr
     simp (disch := omega)
     exact ⟨hf, v1, v2, v4, m4, by simp⟩
  ·obtain ⟨a, rfl⟩ := kids1 (by omega)
   have hgt := hty (by simp [Xw, Qd])
   have lg := QF hgt
   have hn1 : nl1 = false := by
    cases hn : nl1 with
    | false => rfl
    | true => have := fl1 hn; subst this; simp at lg
   subst hn1
   have hgn := hgr (by simp [JD, Qd])
   have ka : KidT s ([(false, gty)] ++ ctx) a := by
    have := kid 0 (by simp) [(false, gty)] (by simp [Qt]) (by simp [hgt]) (by simp)
    simpa using this
   have E : ∀ k : Int, k ≠ 9 → eqB 9 k = false := fun k h => by rw [Qc]; omega
   have E2 : eqB 9 9 = true := by rw [Qd]
   have a0 : QB 9 gty 0 [] ++ ctx.map Prod.snd = gty :: ctx.map Prod.snd := by simp [QB]
   have of := XL s 9 n false gty nl2 [a] 0 (by simp) false ((false, gty) :: ctx) _ (Wy ka.small) (ka.tell false)
   have w := YD nlc false ctx [(false, gty)] (by omega) (by simp)
   simp only [GTerm.lv, GTerm.cells, List.map_cons, List.map_nil, List.cons_append, List.nil_append] at of w
   simp (disch := omega) [WD, Qw, Qs, GTerm.cells, E, E2, Ql]
   refine Qa w (by simp) ?_
   simp (disch := omega) [E, E2]
   refine Qi (Qe.low of) (by simp) ?_
   rintro r ⟨hr, lo⟩
   cases hA : Qq s (gty :: ctx.map Prod.snd) a with
   | bad f p =>
    rw [hA] at hr
    simp only [ofR] at hr
    obtain ⟨hf, u1, u2, u4, n4', rfl⟩ := hr
    have hf0 : eqB f 0 = false := by rw [Qc]; exact hf
    rw [X6 (by rw [a0]; exact hA)]
    simp (disch := omega) [Qw, Qs, hf0]
    exact ⟨hf, false, false, false, n4', by simp⟩
   | ok x =>
    have hxg := ka.good x hA
    rw [hA] at hr
    simp only [ofR] at hr
    obtain ⟨u1, u2, u4, n4', rfl⟩ := hr
    have lx := QF hxg.1
    have hxl : x.needs.length = ctx.length + 1 := by have := hxg.2.1; simpa using this
    have c2 : ZS 1 (L false x.needs) (some 1) none none = some (L false (x.needs.drop 1)) := YV (k := 1) (by omega)
    have i0 : QN 1 (L false x.needs) 0 = some (.rp [N (x.needs.getD 0 0)]) := Zg1 (i := 0) (by omega)
    have g0 := Zcj hxg.2.2 (show 0 < x.needs.length by omega)
    have cp := ZC false (x.needs.drop 1) (by simp; omega)
    have us := used1 (s := s) (l := x.needs) (g := n) (by omega)
    rw [Zmn hA, us]
    generalize x.needs.getD 0 0 = y0 at *
    obtain ⟨yr, hyr⟩ : ∃ yr, yr = x.needs.drop 1 := ⟨_, rfl⟩
    rw [← hyr] at c2 cp ⊢
    obtain ⟨z, hzz⟩ : ∃ z, z = (3 + n) :: (gty ++ x.ty) := ⟨_, rfl⟩
    have gl := YR (3 + n) false false false gty x.ty (by omega) (by omega)
    rw [← hzz] at gl ⊢
    have wr : IntKind.i64.wrap (3 + n) = 3 + n := Qf (by have := hgn.1; have := hgn.2; omega)
    simp (disch := omega) [Qw, Qs, hz, E, E2, i0]
    refine Qa (XK t g0 hgn) (by simp) ?_
    cases hu : s.le y0 n
    ·simp (disch := omega)
     refine Qi (Qe.low (Xc 9 (by omega))) (by simp) ?_
     rintro r ⟨⟨h3, w1, w2, w4, k4, rfl⟩, lo⟩
     simp (disch := omega)
     exact ⟨by omega, w1, w2, w4, k4, by simp⟩
    ·simp (disch := omega) [Ql, wr, c2]
     refine Qa gl (by simp) ?_
     simp (disch := omega) [c2]
     refine Qa cp (by simp) ?_
     simp (disch := omega)
     have dn := Zag z yr
     refine Qi (Qe.low dn) (by simp) ?_
     rintro r ⟨hr, lo⟩
     have hl := V0 (ks := [x]) hr
     unfold Zr at hl ⊢
     by_cases q9 : z.length ≤ 40
     ·rw [if_pos q9] at hl ⊢
      obtain ⟨v1, v2, v4, m4, rfl⟩ := hl
      simp (disch := omega)
      exact ⟨v1, v2, v4, m4, by simp⟩
     ·rw [if_neg q9] at hl ⊢
      obtain ⟨hf, v1, v2, v4, m4, rfl⟩ := hl
      simp (disch := omega)
      exact ⟨hf, v1, v2, v4, m4, by simp⟩
  ·obtain ⟨a, b, rfl⟩ := Zm2 (by omega)
   have ka := kid 0 (by simp) [] (by simp [Qt]) (by simp) (by simp)
   simp only [List.nil_append, List.getElem_cons_zero] at ka
   have kb := kid 1 (by simp) [] (by simp [Qt]) (by simp) (by simp)
   simp only [List.nil_append, List.getElem_cons_succ, List.getElem_cons_zero] at kb
   have E : ∀ k : Int, k ≠ 10 → eqB 10 k = false := fun k h => by rw [Qc]; omega
   have E2 : eqB 10 10 = true := by rw [Qd]
   have a0 : QB 10 gty 0 [] ++ ctx.map Prod.snd = ctx.map Prod.snd := by simp [QB, Qt]
   have of := XL s 10 n nl1 gty nl2 [a, b] 0 (by simp) nlc ctx _ (Wy ka.small) (ka.tell nlc)
   simp only [GTerm.lv, GTerm.cells] at of
   simp (disch := omega) [WD, Qw, Qs, GTerm.cells, E, E2]
   refine Qi (Qe.low of) (by simp) ?_
   rintro r ⟨hr, lo⟩
   cases hA : Qq s (ctx.map Prod.snd) a with
   | bad f p =>
    rw [hA] at hr
    simp only [ofR] at hr
    obtain ⟨hf, u1, u2, u4, n4', rfl⟩ := hr
    have hf0 : eqB f 0 = false := by rw [Qc]; exact hf
    rw [X6 (by rw [a0]; exact hA)]
    simp (disch := omega) [Qw, Qs, hf0]
    exact ⟨hf, false, false, false, n4', by simp⟩
   | ok x =>
    have hxg := ka.good x hA
    rw [hA] at hr
    simp only [ofR] at hr
    obtain ⟨u1, u2, u4, n4', rfl⟩ := hr
    have hx := X5 hxg.1
    have lx := QF hxg.1
    have hxi : QN 1 (L false x.ty) 0 = some (.rp [N (hd x.ty)]) := ZL hx.2.2.2.1
    rw [tell_app hA hxg.1]
    simp (disch := omega) [Qw, Qs, hz, hxi, E, E2]
    refine Qa (ZmA (hd x.ty)) (by simp) ?_
    cases q : QL (hd x.ty)
    ·simp (disch := omega)
     refine Qi (Qe.low (Xc 6 (by omega))) (by simp) ?_
     rintro r ⟨⟨h3, w1, w2, w4, k4, rfl⟩, lo⟩
     simp (disch := omega)
     exact ⟨by omega, w1, w2, w4, k4, by simp⟩
    ·simp (disch := omega)
     have of2 := XL s 10 n nl1 gty nl2 [a, b] 1 (by simp) nlc ctx _ (Wy kb.small) (kb.tell nlc)
     simp only [GTerm.lv, GTerm.cells] at of2
     refine Qi (Qe.low of2) (by simp) ?_
     rintro r ⟨hr, lo⟩
     cases hB : Qq s (ctx.map Prod.snd) b with
     | bad f p =>
      rw [hB] at hr
      simp only [ofR] at hr
      obtain ⟨hf, v1, v2, v4, m4', rfl⟩ := hr
      have hf0 : eqB f 0 = false := by rw [Qc]; exact hf
      simp (disch := omega) [Qw, Qs, hf0]
      exact ⟨hf, false, false, false, m4', by simp⟩
     | ok y =>
      have hyg := kb.good y hB
      rw [hB] at hr
      simp only [ofR] at hr
      obtain ⟨v1, v2, v4, m4', rfl⟩ := hr
      have ly := QF hyg.1
      have s1 := YZ t false false x.needs 1 (GSys.G1 t) y.needs (by rw [hxg.2.1]; omega) (by rw [hxg.2.1, hyg.2.1]) hxg.2.2 hyg.2.2
      rw [VG hsy _ _ hyg.2.2] at s1
      have hk := Jv q
      have p0 := XH hxg.1 0 (.inr hk)
      have p1 := XH hxg.1 1 (.inr hk)
      have hsg : (QG (hd x.ty)).2 = W2 (hd x.ty) := (KV hx.2.1 hx.2.2.1).2.2.2.2.2 (.inl q)
      have hgG : s.G (W2 (hd x.ty)) := KX hx.1 (.inl q)
      simp (disch := omega) [Qw, Qs, hz, Ql]
      refine Qa p0 (by simp) ?_
      simp (disch := omega)
      refine Qa (KU false false y.ty (QI x.ty) (by omega)) (by simp) ?_
      cases he : (y.ty == QI x.ty)
      ·have he' : y.ty ≠ QI x.ty := by simpa using he
       simp (disch := omega)
       refine Qi (Qe.low (Xc 3 (by omega))) (by simp) ?_
       rintro r ⟨⟨h3, w1, w2, w4, k4, rfl⟩, lo⟩
       simp (disch := omega) [he']
       exact ⟨by omega, w1, w2, w4, k4, by simp⟩
      ·have he' : y.ty = QI x.ty := by simpa using he
       simp (disch := omega)
       refine Qa p1 (by simp) ?_
       simp (disch := omega) [hxi]
       refine Qa (Zce (hd x.ty) (by unfold I64; omega) hx.2.1) (by simp) ?_
       simp (disch := omega)
       have s3 := YZ t false false x.needs (W2 (hd x.ty)) hgG y.needs (by rw [hxg.2.1]; omega) (by rw [hxg.2.1, hyg.2.1]) hxg.2.2 hyg.2.2
       rw [Zhq] at s3
       refine Qa s3 (by simp) ?_
       simp (disch := omega) [he', hsg]
       exact ⟨true, true, true, true, by simp⟩
  ·obtain ⟨a, rfl⟩ := kids1 (by omega)
   have ka := kid 0 (by simp) [] (by simp [Qt]) (by simp) (by simp)
   simp only [List.nil_append, List.getElem_cons_zero] at ka
   have E : ∀ k : Int, k ≠ 11 → eqB 11 k = false := fun k h => by rw [Qc]; omega
   have E2 : eqB 11 11 = true := by rw [Qd]
   have a0 : QB 11 gty 0 [] ++ ctx.map Prod.snd = ctx.map Prod.snd := by simp [QB, Qt]
   have of := XL s 11 n nl1 gty nl2 [a] 0 (by simp) nlc ctx _ (Wy ka.small) (ka.tell nlc)
   simp only [GTerm.lv, GTerm.cells] at of
   simp (disch := omega) [WD, Qw, Qs, GTerm.cells, E, E2]
   refine Qi (Qe.low of) (by simp) ?_
   rintro r ⟨hr, lo⟩
   cases hA : Qq s (ctx.map Prod.snd) a with
   | bad f p =>
    rw [hA] at hr
    simp only [ofR] at hr
    obtain ⟨hf, u1, u2, u4, n4', rfl⟩ := hr
    have hf0 : eqB f 0 = false := by rw [Qc]; exact hf
    rw [X6 (by rw [a0]; exact hA)]
    simp (disch := omega) [Qw, Qs, hf0]
    exact ⟨hf, false, false, false, n4', by simp⟩
   | ok x =>
    have hxg := ka.good x hA
    rw [hA] at hr
    simp only [ofR] at hr
    obtain ⟨u1, u2, u4, n4', rfl⟩ := hr
    have hx := X5 hxg.1
    have lx := QF hxg.1
    have hxi : QN 1 (L false x.ty) 0 = some (.rp [N (hd x.ty)]) := ZL hx.2.2.2.1
    have hgn := hgr (by simp [JD, Qd])
    rw [tell_box hA]
    obtain ⟨z, hzz⟩ : ∃ z, z = (19 + n) :: x.ty := ⟨_, rfl⟩
    have gl := Zd5 (19 + n) false false x.ty (by omega)
    rw [← hzz] at gl ⊢
    have zr := KT ctx.length (by omega)
    have sc := YZ t false false (WC ctx.length) n hgn x.needs (by simp [WC]; omega) (by rw [hxg.2.1]; simp [WC]) (Zad t _).2 hxg.2.2
    have e1 := Zcg hsy n x.needs
    rw [hxg.2.1] at e1
    rw [e1] at sc
    have wr : IntKind.i64.wrap (19 + n) = 19 + n := Qf (by have := hgn.1; have := hgn.2; omega)
    simp (disch := omega) [Qw, Qs, hz, hxi, E, E2, Ql, wr]
    refine Qa gl (by simp) ?_
    simp (disch := omega)
    refine Qa zr (by simp) ?_
    simp (disch := omega)
    refine Qa sc (by simp) ?_
    simp (disch := omega)
    have dn := Zag z (WQ s n x.needs)
    refine Qi (Qe.low dn) (by simp) ?_
    rintro r ⟨hr, lo⟩
    have hl := V0 (ks := [x]) hr
    unfold Zr at hl ⊢
    by_cases q9 : z.length ≤ 40
    ·rw [if_pos q9] at hl ⊢
     obtain ⟨v1, v2, v4, m4, rfl⟩ := hl
     simp (disch := omega)
     exact ⟨v1, v2, v4, m4, by simp⟩
    ·rw [if_neg q9] at hl ⊢
     obtain ⟨hf, v1, v2, v4, m4, rfl⟩ := hl
     simp (disch := omega)
     exact ⟨hf, v1, v2, v4, m4, by simp⟩
  ·obtain ⟨a, b, rfl⟩ := Zm2 (by omega)
   have ka := kid 0 (by simp) [] (by simp [Qt]) (by simp) (by simp)
   simp only [List.nil_append, List.getElem_cons_zero] at ka
   have E : ∀ k : Int, k ≠ 12 → eqB 12 k = false := fun k h => by rw [Qc]; omega
   have E2 : eqB 12 12 = true := by rw [Qd]
   have a0 : QB 12 gty 0 [] ++ ctx.map Prod.snd = ctx.map Prod.snd := by simp [QB, Qt]
   have of := XL s 12 n nl1 gty nl2 [a, b] 0 (by simp) nlc ctx _ (Wy ka.small) (ka.tell nlc)
   simp only [GTerm.lv, GTerm.cells] at of
   simp (disch := omega) [WD, Qw, Qs, GTerm.cells, E, E2]
   refine Qi (Qe.low of) (by simp) ?_
   rintro r ⟨hr, lo⟩
   cases hA : Qq s (ctx.map Prod.snd) a with
   | bad f p =>
    rw [hA] at hr
    simp only [ofR] at hr
    obtain ⟨hf, u1, u2, u4, n4', rfl⟩ := hr
    have hf0 : eqB f 0 = false := by rw [Qc]; exact hf
    rw [X6 (by rw [a0]; exact hA)]
    simp (disch := omega) [Qw, Qs, hf0]
    exact ⟨hf, false, false, false, n4', by simp⟩
   | ok x =>
    have hxg := ka.good x hA
    rw [hA] at hr
    simp only [ofR] at hr
    obtain ⟨u1, u2, u4, n4', rfl⟩ := hr
    have hx := X5 hxg.1
    have lx := QF hxg.1
    have hxi : QN 1 (L false x.ty) 0 = some (.rp [N (hd x.ty)]) := ZL hx.2.2.2.1
    have kb : W0 (hd x.ty) = true → KidT s ([(false, QI x.ty)] ++ ctx) b := fun q => by
     have two := ZgR hxg.1 (ZcD q)
     have := kid 1 (by simp) [(false, QI x.ty)] (by simp [Qt]) (by simp [two.2.2]) (by simp)
     simpa using this
    have hgn := hgr (by simp [JD, Qd])
    simp (disch := omega) [Qw, Qs, hz, hxi, E, E2]
    have tk := Zk9 hsy nlc ctx hm n nl1 gty nl2 a b x n4' hgn hxg hA (by have := Zd (ks := [a, b]) (i := 1) (by simp); simp at this; omega) (fun q => (kb q).tell false) (fun q y hy => (kb q).good y hy)
    simp only [GTerm.lv, GTerm.cells] at tk
    refine Qi (Qe.low tk) (by simp) ?_
    rintro r ⟨hr, lo⟩
    cases hT : Qq s (ctx.map Prod.snd) (GTerm.mk 12 n nl1 gty nl2 [a, b]) with
    | ok z =>
     rw [hT] at hr
     obtain ⟨v1, v2, v4, m4, rfl⟩ := hr
     simp (disch := omega)
     exact ⟨v1, v2, v4, m4, by simp⟩
    | bad f p =>
     rw [hT] at hr
     obtain ⟨hf, v1, v2, v4, m4, rfl⟩ := hr
     simp (disch := omega)
     exact ⟨hf, v1, v2, v4, m4, by simp⟩
end Go.Proofs.YtclfngbealdbgaaGreat
namespace Go.Proofs.YtclfngbealdbgaaGreat
open Go Go.TL
open Go.Proofs.YtclfngbealdbgaaGreat.Ty
set_option linter.unusedSimpArgs false
set_option linter.unusedVariables false
set_option maxRecDepth 20000
set_option maxHeartbeats 4000000
theorem Zja {s : GSys} (hsw : s.wf) (g : GTerm) (hw : g.wf) (n : Int) (hn : I64 n) : Qe Tryz.prog VO [s.lv, g.lv, N n] (· = B (s.sys && g.termB s.size n)) := by
 refine Qe.of_codeOf ZjV QA (by simp) ⟨_, rfl, by simp⟩ ?_
 simp (disch := omega) [Zc1, Qw, Qs]
 refine Qa (Z0 s hsw) (by simp) ?_
 cases hs : s.sys
 ·simp (disch := omega)
 ·have t := GSys.sys_of hs
  have h2 := t.lo; have h16 := t.hi
  simp (disch := omega)
  refine Qa (Zdc n 0 8) (by simp) ?_
  cases hr : QO n 0 8
  ·simp (disch := omega) [GTerm.termB, hr]
  ·rw [QM] at hr
   have hr' : QO n 0 8 = true := by rw [QM]; exact hr
   have hl := ZcG g.size g (by omega) hw 400 (by omega) (by omega)
   have h2' : leB 0 (JC g.size 400) = decide (g.size ≤ 400) := by
    rw [Bool.eq_iff_iff]
    simp only [Qh, Qg, Qm, Qj, Qd, Qc, Bool.not_true, Bool.not_false, JC, decide_eq_true_eq]
    split <;> omega
   simp (disch := omega)
   refine Qa hl (by simp) ?_
   by_cases hsz : g.size ≤ 400
   ·have hI : I64 s.size := ⟨by omega, by omega⟩
    have hf := Zko s.size true hI g.size g (by omega) hw n (by omega) (by omega)
    simp (disch := omega) [h2', hsz]
    refine Qa hf (by simp) ?_
    simp (disch := omega) [GTerm.termB, hr', hsz]
   ·simp (disch := omega) [h2', hsz, GTerm.termB]
theorem ZoD {s : GSys} {ctx : Wk} {g : GTerm} (a : Arg s ctx g) (nlc : Bool) : Qe Tryz.prog KZ [s.lv, LC nlc ctx, g.lv] (· = B (inB s ctx g)) := by
 refine Qe.of_codeOf Zhy QA (by simp) ⟨_, rfl, by simp⟩ ?_
 simp (disch := omega) [Zcc, Qw, Qs]
 refine Qa (Z0 s a.sw) (by simp) ?_
 cases hs : s.sys
 ·simp (disch := omega) [inB, hs]
 ·have t := GSys.sys_of hs
  simp (disch := omega)
  refine Qa (ZlJ s t nlc ctx a.cw) (by simp) ?_
  cases hc : ZdP s.size ctx
  ·simp (disch := omega) [inB, hs, hc]
  ·simp (disch := omega)
   have it := Zja a.sw g a.gw ctx.length (Zkj a.cw)
   rw [hs] at it
   refine Qa it (by simp) ?_
   simp (disch := omega) [inB, hs, hc]
def Zl2 (x : Option TT) (r : LV) : Prop := match x with
 | some x => ∃ u1 u2, r = .tup [OU u1 false x.ty, OU u2 false x.needs, B true]
 | none => ∃ u1 u2, r = .tup [.sl u1 true 1 [], .sl u2 true 1 [], B false]
theorem ZcV {s : GSys} {ctx : Wk} {g : GTerm} (a : Arg s ctx g) (nlc : Bool) : Qe Tryz.prog J9 [s.lv, LC nlc ctx, g.lv] (Zl2 (XX s ctx g)) := by
 refine Qe.of_codeOf ZjX QA (by simp) ?_ ?_
 ·cases h : XX s ctx g with
  | some x => exact ⟨.tup [OU true false x.ty, OU true false x.needs, B true], ⟨true, true, rfl⟩, by simp⟩
  | none => exact ⟨.tup [.sl false true 1 [], .sl false true 1 [], B false], ⟨false, false, rfl⟩, by simp⟩
 simp (disch := omega) [Zc5, Qw, Qs]
 refine Qa (ZoD a nlc) (by simp) ?_
 cases hin : inB s ctx g
 ·have hx : XX s ctx g = none := by simp [XX, hin]
  rw [hx]
  simp (disch := omega) [Zl2]
 ·have hin' := hin
  unfold inB at hin'
  simp only [Bool.and_eq_true] at hin'
  obtain ⟨hs, hc, ht⟩ := hin'
  obtain ⟨f1, f2, f3⟩ := a.flags hc
  unfold GTerm.termB at ht
  simp only [Bool.and_eq_true, decide_eq_true_eq] at ht
  have tl := ZcA hs g.size g nlc ctx (Nat.le_refl _) a.gw a.gf f1 f2 (by omega) ht.2.2
  simp (disch := omega)
  refine Qi (Qe.low tl) (by simp) ?_
  rintro r ⟨hr, lo⟩
  cases hT : Qq s (ctx.map Prod.snd) g with
  | ok x =>
   have hx : XX s ctx g = some x := by simp [XX, hin, hT]
   rw [hT] at hr
   obtain ⟨u1, u2, u4, n4, rfl⟩ := hr
   have hz : eqB 0 0 = true := by rw [Qd]
   rw [hx]
   simp (disch := omega) [Qw, Qs, hz, Zl2]
  | bad f p =>
   have hx : XX s ctx g = none := by simp [XX, hin, hT]
   rw [hT] at hr
   obtain ⟨hf, u1, u2, u4, n4, rfl⟩ := hr
   have hf0 : eqB f 0 = false := by rw [Qc]; exact hf
   rw [hx]
   simp (disch := omega) [Qw, Qs, hf0, Zl2]
end Go.Proofs.YtclfngbealdbgaaGreat
namespace Go.Proofs.YtclfngbealdbgaaGreat
open Go Go.TL
open Go.Proofs.YtclfngbealdbgaaGreat.Ty
set_option linter.unusedSimpArgs false
set_option linter.unusedVariables false
set_option maxRecDepth 20000
set_option maxHeartbeats 4000000
def K7 (s : GSys) (nd bs : List Int) (i : Nat) : Bool := QO (bs.getD i 0) 0 (s.size - 1) && s.le (nd.getD i 0) (bs.getD i 0)
def Kh (s : GSys) (ctx : Wk) (bs : List Int) (g : GTerm) (ty : List Int) : Bool := match XX s ctx g with
 | some x => x.ty == ty && (eqB bs.length ctx.length && XZ (K7 s x.needs bs) bs.length)
 | none => false
theorem Zo0 {s : GSys} {ctx : Wk} {g : GTerm} (a : Arg s ctx g) (nlc n1 n2 : Bool) (bs ty : List Int) (hb : Lok bs) (ht : Lok ty) : Qe Tryz.prog VB [s.lv, LC nlc ctx, L n1 bs, g.lv, L n2 ty] (· = B (Kh s ctx bs g ty)) := by
 have hbl := hb.1
 have hcl := a.cw.1
 refine Qe.of_codeOf ZnC QA (by simp) ⟨_, rfl, by simp⟩ ?_
 simp (disch := omega) [Zgd, Qw, Qs]
 refine Qi (Qe.low (Zcx a nlc)) (by simp) ?_
 rintro r ⟨hr, lo⟩
 cases hx : XX s ctx g with
 | none =>
  rw [hx] at hr
  subst hr
  simp (disch := omega) [Kh, hx]
 | some x =>
  rw [hx] at hr
  subst hr
  obtain ⟨hg, hs, hc, htm, hc8, _⟩ := Zu a hx
  have t := GSys.sys_of hs
  have h2 := t.lo; have h16 := t.hi
  have hty := QF hg.1
  have hnl := hg.2.1
  have hnG := hg.2.2
  have ef : Kh s ctx bs g ty = (x.ty == ty && (eqB bs.length ctx.length && XZ (K7 s x.needs bs) bs.length)) := by simp [Kh, hx]
  rw [ef]
  obtain ⟨xty, xnd, xks⟩ := x
  simp only [TT.ty_mk, TT.needs_mk] at hty hnl hnG ⊢
  simp (disch := omega)
  refine Qa (Zim false n2 xty ty (by omega)) (by simp) ?_
  cases he : (xty == ty)
  ·simp (disch := omega)
  ·simp (disch := omega)
   by_cases hl : bs.length = ctx.length
   ·have hl0 : eqB (bs.length : Int) ctx.length = true := by rw [Qd]; omega
    simp (disch := omega) [hl0]
    refine Xm bs.length 0 (fun i t h => t 41 = N i ∧ XZ (K7 s xnd bs) i = true ∧ h = [none, none]) (by simp) (by omega) ?_
    rintro i t1 hh hf hi ⟨e41, hj, rfl⟩
    (have e5 := hf 5 (by kernel_rfl); have e12 := hf 12 (by kernel_rfl); have e39 := hf 39 (by kernel_rfl); have e40 := hf 40 (by kernel_rfl); clear hf; simp [] at e5 e12 e39 e40)
    simp (disch := omega) [e5, e12, e39, e40, e41]
    by_cases h6 : i < bs.length
    ·have hb6 : ltB (i : Int) bs.length = true := by rw [Qh]; omega
     have hI : I64 s.size := ⟨by omega, by omega⟩
     have hbi : QN 1 (OU false n1 bs) (i : Int) = some (.rp [N (bs.getD i 0)]) := by
      have := W9 bs false n1 i (by omega) (by omega)
      simpa using this
     have hni : QN 1 (L false xnd) (i : Int) = some (.rp [N (xnd.getD i 0)]) := Zg1 (by omega)
     have hng : s.G (xnd.getD i 0) := Zcj hnG (by omega)
     have hfa : K7 s xnd bs i = (QO (bs.getD i 0) 0 (s.size - 1) && s.le (xnd.getD i 0) (bs.getD i 0)) := rfl
     generalize bs.getD i 0 = b at *
     generalize xnd.getD i 0 = u at *
     simp (disch := omega) [e5, e12, e39, e40, e41, hb6, hbi]
     refine Qa (Zlb s hI (by omega) b) (by simp) ?_
     cases hw : QO b 0 (s.size - 1)
     ·simp (disch := omega) [e5, e12, e39, e40, e41]
      have := Xb (p := K7 s xnd bs) h6 (by rw [hfa, hw]; rfl)
      simp [this]
     ·have hbG : s.G b := by rw [QM] at hw; exact ⟨by omega, by omega⟩
      simp (disch := omega) [e5, e12, e39, e40, e41, hni]
      refine Qa (Ju t hng hbG) (by simp) ?_
      cases hle : s.le u b
      ·simp (disch := omega) [e5, e12, e39, e40, e41]
       have := Xb (p := K7 s xnd bs) h6 (by rw [hfa, hw, hle]; rfl)
       simp [this]
      ·simp (disch := omega) [e5, e12, e39, e40, e41, Qf]
       exact ⟨h6, by rw [Wq, hj, hfa, hw, hle]; rfl⟩
    ·have hb6 : ltB (i : Int) bs.length = false := by rw [Qg]; omega
     simp (disch := omega) [hb6]
     rw [show bs.length = i by omega, hj]
   ·have hl0 : eqB (bs.length : Int) ctx.length = false := by rw [Qc]; omega
    simp (disch := omega) [hl0]
end Go.Proofs.YtclfngbealdbgaaGreat
namespace Go.Proofs.YtclfngbealdbgaaGreat
open Go Go.TL
open Go.Proofs.YtclfngbealdbgaaGreat.Ty
set_option linter.unusedSimpArgs false
set_option linter.unusedVariables false
set_option maxRecDepth 20000
set_option maxHeartbeats 4000000
theorem ZnV {s : GSys} (t : s.Tab) (n1 n2 : Bool) (nd bs : List Int) (hnl : nd.length ≤ 1000000) (hnG : ∀ u ∈ nd, s.G u) (hb : Lok bs) :
  Qe Tryz.prog Vs [s.lv, L n1 nd, L n2 bs] (· = B (eqB bs.length nd.length && XZ (K7 s nd bs) bs.length)) := by
 have hbl := hb.1
 have h2 := t.lo; have h16 := t.hi
 refine Qe.of_codeOf ZhI QA (by simp) ⟨_, rfl, by simp⟩ ?_
 by_cases hl : bs.length = nd.length
 ·have hl0 : eqB (nd.length : Int) bs.length = true := by rw [Qd]; omega
  have hl1 : eqB (bs.length : Int) nd.length = true := by rw [Qd]; omega
  rw [hl1, Bool.true_and]
  simp (disch := omega) [K3, Qw, Qs, hl0]
  refine Xm nd.length 0 (fun i t h => t 7 = N i ∧ XZ (K7 s nd bs) i = true ∧ h = [none]) (by simp) (by omega) ?_
  rintro i t1 hh hf hi ⟨e7, hj, rfl⟩
  (have e1 := hf 1 (by kernel_rfl); have e2 := hf 2 (by kernel_rfl); have e3 := hf 3 (by kernel_rfl); clear hf; simp [] at e1 e2 e3)
  simp (disch := omega) [e1, e2, e3, e7]
  by_cases h6 : i < nd.length
  ·have hb6 : ltB (i : Int) nd.length = true := by rw [Qh]; omega
   have hbi : QN 1 (OU false n2 bs) (i : Int) = some (.rp [N (bs.getD i 0)]) := by
    have := W9 bs false n2 i (by omega) (by omega)
    simpa using this
   have hni : QN 1 (OU false n1 nd) (i : Int) = some (.rp [N (nd.getD i 0)]) := by
    have := W9 nd false n1 i (by omega) (by omega)
    simpa using this
   have hng : s.G (nd.getD i 0) := Zcj hnG (by omega)
   have hfa : K7 s nd bs i = (QO (bs.getD i 0) 0 (s.size - 1) && s.le (nd.getD i 0) (bs.getD i 0)) := rfl
   generalize bs.getD i 0 = b at *
   generalize nd.getD i 0 = u at *
   simp (disch := omega) [e1, e2, e3, e7, hb6, hbi, Qf]
   refine Qa (Zdc b 0 (s.size - 1)) (by simp) ?_
   cases hw : QO b 0 (s.size - 1)
   ·simp (disch := omega) [e1, e2, e3, e7]
    have := Xb (p := K7 s nd bs) (show i < bs.length by omega) (by rw [hfa, hw]; rfl)
    simp [this]
   ·have hbG : s.G b := by rw [QM] at hw; exact ⟨by omega, by omega⟩
    simp (disch := omega) [e1, e2, e3, e7, hni, hbi]
    refine Qa (XK t hng hbG) (by simp) ?_
    cases hle : s.le u b
    ·simp (disch := omega) [e1, e2, e3, e7]
     have := Xb (p := K7 s nd bs) (show i < bs.length by omega) (by rw [hfa, hw, hle]; rfl)
     simp [this]
    ·simp (disch := omega) [e1, e2, e3, e7, Qf]
     exact ⟨h6, by rw [Wq, hj, hfa, hw, hle]; rfl⟩
  ·have hb6 : ltB (i : Int) nd.length = false := by rw [Qg]; omega
   simp (disch := omega) [hb6]
   rw [show bs.length = i by omega, hj]
 ·have hl0 : eqB (nd.length : Int) bs.length = false := by rw [Qc]; omega
  have hl1 : eqB (bs.length : Int) nd.length = false := by rw [Qc]; omega
  rw [hl1]
  simp (disch := omega) [K3, Qw, Qs, hl0]
theorem Znb {s : GSys} {ctx : Wk} {g : GTerm} (a : Arg s ctx g) (nlc n1 n2 : Bool) (bs ty : List Int) (hb : Lok bs) (ht : Lok ty) : Qe Tryz.prog Zco [s.lv, LC nlc ctx, L n1 bs, g.lv, L n2 ty] (· = B (Kh s ctx bs g ty)) := by
 refine Qe.of_codeOf ZnN QA (by simp) ⟨_, rfl, by simp⟩ ?_
 simp (disch := omega) [ZfZ, Qw, Qs]
 refine Qi (Qe.low (ZcV a nlc)) (by simp) ?_
 rintro r ⟨hr, lo⟩
 cases hx : XX s ctx g with
 | none =>
  rw [hx] at hr
  obtain ⟨u1, u2, rfl⟩ := hr
  simp (disch := omega) [Kh, hx]
 | some x =>
  rw [hx] at hr
  obtain ⟨u1, u2, rfl⟩ := hr
  obtain ⟨hg, hs, hc, htm, hc8, _⟩ := Zu a hx
  have t := GSys.sys_of hs
  have hty := QF hg.1
  have hnl := hg.2.1
  have hnG := hg.2.2
  have ef : Kh s ctx bs g ty = (x.ty == ty && (eqB bs.length ctx.length && XZ (K7 s x.needs bs) bs.length)) := by simp [Kh, hx]
  rw [ef]
  have bw := ZnV t false n1 x.needs bs (by omega) hnG hb
  rw [hnl] at bw
  obtain ⟨xty, xnd, xks⟩ := x
  simp only [TT.ty_mk, TT.needs_mk] at hty hnl hnG bw ⊢
  simp (disch := omega)
  refine Qa (KU false n2 xty ty (by omega)) (by simp) ?_
  cases he : (xty == ty)
  ·simp (disch := omega)
  ·simp (disch := omega)
   refine Qa bw (by simp) ?_
   simp (disch := omega)
end Go.Proofs.YtclfngbealdbgaaGreat
namespace Go.Proofs.YtclfngbealdbgaaGreat
open Go Go.TL
open Go.Proofs.YtclfngbealdbgaaGreat.Ty
set_option linter.unusedSimpArgs false
attribute [local simp low] Xe
attribute [local simp] Zd6 ZdR ZdS ZdH Zd3 ZdX
end Go.Proofs.YtclfngbealdbgaaGreat
namespace Go.Proofs.YtclfngbealdbgaaGreat
open Go Go.TL
open Go.Proofs.YtclfngbealdbgaaGreat.Ty
set_option linter.unusedSimpArgs false
set_option linter.unusedVariables false
set_option linter.unusedSectionVars false
set_option maxRecDepth 20000
set_option maxHeartbeats 4000000
abbrev OF (l : List Int) : LV := .sl (!l.isEmpty) l.isEmpty 1 (l.map fun n => [N n])
theorem b4 : W0 4 = false ∧ QL 4 = true := by decide
end Go.Proofs.YtclfngbealdbgaaGreat
namespace Go.Proofs.YtclfngbealdbgaaGreat
open Go Go.TL
open Go.Proofs.YtclfngbealdbgaaGreat.Ty
set_option linter.unusedSimpArgs false
set_option linter.unusedVariables false
set_option linter.unusedSectionVars false
set_option maxRecDepth 20000
set_option maxHeartbeats 4000000
mutual
def GTerm.ownC : GTerm → List LV
 | .mk op n _ ty _ ks => [N op, N n, OF ty, .sl (!ks.isEmpty) ks.isEmpty 4 (Zbn ks)]
def Zbn : List GTerm → List (List LV)
 | [] => []
 | k :: ks => k.ownC :: Zbn ks
end
mutual
def GTerm.nm : GTerm → GTerm
 | .mk op n _ ty _ ks => .mk op n ty.isEmpty ty ks.isEmpty (nms ks)
def nms : List GTerm → List GTerm
 | [] => []
 | k :: ks => k.nm :: nms ks
end
theorem Zmv : ∀ ks : List GTerm, Zbn ks = ks.map GTerm.ownC
 | [] => by simp [Zbn]
 | k :: ks => by simp [Zbn, Zmv ks]
theorem Zow : ∀ ks : List GTerm, nms ks = ks.map GTerm.nm
 | [] => by simp [nms]
 | k :: ks => by simp [nms, Zow ks]
@[simp] theorem ownCs_length (ks : List GTerm) : (Zbn ks).length = ks.length := by simp [Zmv]
@[simp] theorem Zh6 (ks : List GTerm) : (nms ks).length = ks.length := by simp [Zow]
theorem ZcF (ks : List GTerm) : (nms ks).isEmpty = ks.isEmpty := by cases ks <;> simp [nms]
@[simp] theorem ownC_length (t : GTerm) : t.ownC.length = 4 := by cases t; simp [GTerm.ownC]
@[simp] theorem take_ownC (t : GTerm) : t.ownC.take 4 = t.ownC := List.take_of_length_le (by simp)
@[simp] theorem alive_ownC (t : GTerm) : Wu t.ownC = true := by cases t; simp [GTerm.ownC]
mutual
theorem ZhY : ∀ t : GTerm, shareAll t.ownC = t.nm.cells
 | .mk op n nl1 ty nl2 ks => by
  simp only [GTerm.ownC, GTerm.nm, GTerm.cells, shareAll, share, Zcu ks]
  congr 3
  simp
theorem Zcu : ∀ ks : List GTerm, Qu (Zbn ks) = Wg (nms ks)
 | [] => by simp [Zbn, nms, Wg, Qu]
 | k :: ks => by simp only [Zbn, nms, Wg, Qu, ZhY k, Zcu ks]
end
attribute [simp] ZhY Zcu
mutual
theorem Zmf (k : Nat) : ∀ t : GTerm, QD k t.ownC
 | .mk op n nl1 ty nl2 ks => by
  have := Zfi k ks
  simp [GTerm.ownC, this]
theorem Zfi (k : Nat) : ∀ ks : List GTerm, Ws k (Zbn ks)
 | [] => by simp [Zbn]
 | t :: ks => by simp [Zbn, Zmf k t, Zfi k ks]
end
attribute [simp] Zmf Zfi
mutual
theorem ZaP : ∀ a : GTerm, a.nm.size = a.size
 | .mk op n nl1 ty nl2 ks => by simp [GTerm.nm, GTerm.size, Zj2 ks]
theorem Zj2 : ∀ a : List GTerm, XI (nms a) = XI a
 | [] => by simp [nms, XI]
 | a :: a' => by simp [nms, XI, ZaP a, Zj2 a']
end
mutual
theorem wf_nm : ∀ a : GTerm, a.wf → a.nm.wf
 | .mk op n nl1 ty nl2 ks, h => by
  simp only [GTerm.wf, GTerm.nm] at *
  exact ⟨h.1, h.2.1, h.2.2.1, by rw [Zh6]; exact h.2.2.2.1, Zpz ks h.2.2.2.2⟩
theorem Zpz : ∀ a : List GTerm, wfs a → wfs (nms a)
 | [], _ => by simp [nms, wfs]
 | a :: a', h => by
  simp only [wfs, nms] at *
  exact ⟨wf_nm a h.1, Zpz a' h.2⟩
end
mutual
theorem Zaz {nv size : Int} {closed : Bool} : ∀ a : GTerm, Xr nv size closed a.nm = Xr nv size closed a
 | .mk op n nl1 ty nl2 ks => by simp [GTerm.nm, Xr, Zm1 ks]
theorem Zm1 {nv size : Int} {closed : Bool} {op : Int} {k : Nat} : ∀ a : List GTerm, Xj nv size closed op k (nms a) = Xj nv size closed op k a
 | [] => by simp [nms, Xj]
 | a :: a' => by simp [nms, Xj, Zaz a, Zm1 a']
end
end Go.Proofs.YtclfngbealdbgaaGreat
namespace Go.TL
mutual
def nz : LV → LV
 | .sc v => .sc v
 | .sl u nl sz xs => if nl && xs.isEmpty then .sl false true 0 [] else .sl u nl sz (Zdv xs)
 | .ha l sz off n cap => .ha l sz off n cap
 | .raw sz => .raw sz
 | .ptr l o => .ptr l o
 | .rp xs => .rp (ZU xs)
 | .fn f caps => .fn f (ZU caps)
 | .fnm f first => .fnm f (ZU first)
 | .agg xs => .agg (ZU xs)
 | .tup xs => .tup (ZU xs)
 | .dead => .dead
 | .both u t => .both u (nz t)
def ZU : List LV → List LV
 | [] => []
 | x :: xs => nz x :: ZU xs
def Zdv : List (List LV) → List (List LV)
 | [] => []
 | x :: xs => ZU x :: Zdv xs
end
theorem Zel : ∀ xs : List LV, (ZU xs).length = xs.length
 | [] => rfl
 | _ :: xs => by simp only [ZU, List.length_cons, Zel xs]
theorem Zes : ∀ xs : List (List LV), (Zdv xs).length = xs.length
 | [] => rfl
 | _ :: xs => by simp only [Zdv, List.length_cons, Zes xs]
theorem ZpK : ∀ xs : List (List LV), Zdv xs = [] ↔ xs = []
 | [] => by simp [Zdv]
 | _ :: xs => by simp [Zdv]
mutual
theorem Zg8 (A : GM) (μ : List Nat) : ∀ (x : LV) (v : Value) (O : List Own), Rep A μ (nz x) v O ↔ Rep A μ x v O
 | .sc u, v, O => by simp only [nz]
 | .sl u nl sz xs, v, O => by
  by_cases h : (nl && xs.isEmpty) = true
  ·have h' := h
   simp only [Bool.and_eq_true, List.isEmpty_iff] at h'
   obtain ⟨rfl, rfl⟩ := h'
   simp only [nz, h, if_true, Rep, Bool.true_eq_false, false_and, or_false]
  ·simp only [nz, if_neg h, Rep, Zes, ZpK, Zku A μ xs]
 | .ha l sz off n cap, v, O => by simp only [nz]
 | .raw sz, v, O => by simp only [nz]
 | .ptr l o, v, O => by simp only [nz]
 | .rp xs, v, O => by simp only [nz, Rep, Zby A μ xs]
 | .fn f caps, v, O => by simp only [nz, Rep, Z7 A μ caps]
 | .fnm f first, v, O => by simp only [nz, Rep, Z7 A μ first]
 | .agg xs, v, O => by simp only [nz, Rep, Z7 A μ xs]
 | .tup xs, v, O => by simp only [nz, Rep, Z7 A μ xs]
 | .dead, v, O => by simp only [nz]
 | .both u t, v, O => by simp only [nz, Rep, Zg8 A μ t]
theorem Zku (A : GM) (μ : List Nat) : ∀ (xs : List (List LV)) (sz b off : Nat) (O : List Own), Qx A μ (Zdv xs) sz b off O ↔ Qx A μ xs sz b off O
 | [], sz, b, off, O => by simp only [Zdv]
 | x :: xs, sz, b, off, O => by simp only [Zdv, Qx, Zel, Zby A μ x, Zku A μ xs]
theorem Zby (A : GM) (μ : List Nat) : ∀ (xs : List LV) (b off : Nat) (O : List Own), Qv A μ (ZU xs) b off O ↔ Qv A μ xs b off O
 | [], b, off, O => by simp only [ZU]
 | x :: xs, b, off, O => by simp only [ZU, Qv, Zg8 A μ x, Zby A μ xs]
theorem Z7 (A : GM) (μ : List Nat) : ∀ (xs : List LV) (vs : List Value) (O : List Own), Qb A μ (ZU xs) vs O ↔ Qb A μ xs vs O
 | [], vs, O => by simp only [ZU]
 | x :: xs, vs, O => by simp only [ZU, Qb, Zg8 A μ x, Z7 A μ xs]
end
theorem Q7.nz {P : Program} {f : FuncId} {args args' : List LV} {h : List Box} {R : LV → List Box → Prop} (c : Q7 P f args' h R) (e : ZU args = ZU args') : Q7 P f args h R := by
 obtain ⟨h1, h2, h3⟩ := c
 refine ⟨h1, h2, fun w A μ OH vals Oa hv hi => h3 w A μ OH vals Oa ?_ hi⟩
 rw [← Z7, ← e, Z7]
 exact hv
theorem Qe.nz {P : Program} {f : FuncId} {args args' : List LV} {R : LV → Prop} (c : Qe P f args' R) (e : ZU args = ZU args') : Qe P f args R := Q7.nz c e
theorem Q7.nzR {P : Program} {f : FuncId} {args : List LV} {h : List Box} {R R' : LV → List Box → Prop} (c : Q7 P f args h R) (hr : ∀ r h', R r h' → ∃ r', Go.TL.nz r' = Go.TL.nz r ∧ R' r' h') : Q7 P f args h R' := by
 obtain ⟨h1, ⟨r, h', hR⟩, h2⟩ := c
 obtain ⟨r', _, hR'⟩ := hr r h' hR
 refine ⟨h1, ⟨r', h', hR'⟩, fun w A μ OH vals Oa hv hi => (h2 w A μ OH vals Oa hv hi).mono fun e w' he => ?_⟩
 obtain ⟨v, r, h', B, ν, OH', O', g1, g2, g3, g4⟩ := he
 obtain ⟨r', he', hR'⟩ := hr r h' g2
 exact ⟨v, r', h', B, ν, OH', O', g1, hR', (by rw [← Zg8, he', Zg8]; exact g3), g4⟩
def idxT (sz : Nat) (v : LV) (i : Int) : Option LV :=
 match v with
 | .sl _ _ sz' xs => if sz' = sz ∧ 0 ≤ i ∧ i < xs.length then some (.rp (xs.getD i.toNat [])) else none
 | _ => none
@[simp] theorem step_indexT {s : St} {d sz : Nat} {x i : X} : step (.indexT d sz x i) s = ((intOf (get s.t i)).bind (idxT sz (get s.t x))).map ((s.give x).put d) := by
 simp only [step]
 cases hi : intOf (get s.t i) with
 | none => cases get s.t x <;> simp
 | some i => cases get s.t x <;> simp [idxT] <;> (try split) <;> simp_all
@[simp] theorem step_loadT {s : St} {d sz : Nat} {ag : Bool} {x : X} : step (.loadT d ag sz x) s = (rdLV ag sz (get s.t x)).map ((s.give x).put d) := by
 simp only [step, rdLV]
 cases get s.t x <;> simp
 split
 ·split <;> simp_all
 ·simp_all
@[simp] theorem idxT_sl {u nl : Bool} {sz : Nat} {xs : List (List LV)} {i : Int} (h : 0 ≤ i ∧ i < xs.length) : idxT sz (.sl u nl sz xs) i = some (.rp (xs.getD i.toNat [])) := by
 simp [idxT, h.1, h.2]
end Go.TL
namespace Go.Proofs.YtclfngbealdbgaaGreat
open Go Go.TL
open Go.Proofs.YtclfngbealdbgaaGreat.Ty
set_option linter.unusedSimpArgs false
set_option linter.unusedVariables false
set_option linter.unusedSectionVars false
set_option maxRecDepth 20000
set_option maxHeartbeats 4000000
theorem Qe.nzR {P : Program} {f : FuncId} {args : List LV} {R R' : LV → Prop} (c : Qe P f args R) (hr : ∀ r, R r → ∃ r', Go.TL.nz r' = Go.TL.nz r ∧ R' r' ∧ Low 0 r') : Qe P f args R' :=
 Q7.nzR c fun r h' h => by obtain ⟨r', h1, h2, h3⟩ := hr r h.1; exact ⟨r', h1, h2, h3⟩
theorem Zfp {P : Program} {a b c : C} {Q : Exit → St → Prop} {s : St} : wpC P (.seq a (.seq b c)) Q s ↔ wpC P (.seq (.seq a b) c) Q s := by
 have e : YB (wpC P b (YB (wpC P c Q) Q)) Q = YB (wpC P b (YB (wpC P c Q) Q)) (YB (wpC P c Q) Q) := by
  funext e s; cases e <;> rfl
 show wpC P a (YB (wpC P b (YB (wpC P c Q) Q)) Q) s ↔ wpC P a (YB (wpC P b (YB (wpC P c Q) Q)) (YB (wpC P c Q) Q)) s
 rw [e]
end Go.Proofs.YtclfngbealdbgaaGreat
namespace Go.Proofs.YtclfngbealdbgaaGreat
open Go Go.TL
open Go.Proofs.YtclfngbealdbgaaGreat.Ty
set_option linter.unusedSimpArgs false
set_option linter.unusedVariables false
set_option linter.unusedSectionVars false
set_option maxRecDepth 20000
set_option maxHeartbeats 4000000
end Go.Proofs.YtclfngbealdbgaaGreat
namespace Go.Proofs.YtclfngbealdbgaaGreat
open Go Go.TL
open Go.Proofs.YtclfngbealdbgaaGreat.Ty
set_option linter.unusedSimpArgs false
set_option linter.unusedVariables false
set_option linter.unusedSectionVars false
set_option maxRecDepth 20000
set_option maxHeartbeats 4000000
theorem len4 {cs : List LV} (h : cs.length = 4) : ∃ a b c d, cs = [a, b, c, d] := by
 match cs, h with
 | [a, b, c, d], _ => exact ⟨a, b, c, d, rfl⟩
end Go.Proofs.YtclfngbealdbgaaGreat
namespace Go.Proofs.YtclfngbealdbgaaGreat
open Go Go.TL
open Go.Proofs.YtclfngbealdbgaaGreat.Ty
set_option linter.unusedSimpArgs false
set_option linter.unusedVariables false
set_option linter.unusedSectionVars false
set_option maxRecDepth 20000
set_option maxHeartbeats 4000000
theorem Ze6 (a : List GTerm) (k : GTerm) : nms (a ++ [k]) = nms a ++ [k.nm] := by simp [Zow]
theorem Zf2 (a : List GTerm) (k : GTerm) : Wg (a ++ [k]) = Wg a ++ [k.cells] := by simp [Zcz]
theorem Zcy {a b : List GTerm} (h : nms a = nms b) : a.length = b.length := by
 have := congrArg List.length h
 simpa using this
end Go.Proofs.YtclfngbealdbgaaGreat
namespace Go.Proofs.YtclfngbealdbgaaGreat
open Go Go.TL
open Go.Proofs.YtclfngbealdbgaaGreat.Ty
set_option linter.unusedSimpArgs false
set_option linter.unusedVariables false
set_option linter.unusedSectionVars false
set_option maxRecDepth 20000
set_option maxHeartbeats 4000000
end Go.Proofs.YtclfngbealdbgaaGreat
namespace Go.Proofs.YtclfngbealdbgaaGreat
open Go Go.TL
open Go.Proofs.YtclfngbealdbgaaGreat.Ty
set_option linter.unusedSimpArgs false
set_option linter.unusedVariables false
set_option linter.unusedSectionVars false
set_option maxRecDepth 20000
set_option maxHeartbeats 4000000
mutual
def shG (bw fr : Int) : GTerm → GTerm
 | .mk op n nl1 ty nl2 ks => .mk op (if op = 0 ∧ fr ≤ n then n + bw else n) nl1 ty nl2 (JR bw fr op 0 ks)
def JR (bw fr op : Int) (k : Nat) : List GTerm → List GTerm
 | [] => []
 | t :: ts => shG bw (fr + Qt op k) t :: JR bw fr op (k + 1) ts
end
theorem Je {bw fr op : Int} : ∀ (ks : List GTerm) (k : Nat), (JR bw fr op k ks).length = ks.length
 | [], _ => by simp [JR]
 | t :: ts, k => by simp [JR, Je ts]
theorem ZnJ {bw fr op : Int} : ∀ (ks : List GTerm) (k i : Nat) (h : i < ks.length), (JR bw fr op k ks)[i]'(by rw [Je]; exact h) = shG bw (fr + Qt op ((k + i : Nat) : Int)) ks[i]
 | [], _, i, h => by simp at h
 | t :: ts, k, 0, h => by simp [JR]
 | t :: ts, k, i + 1, h => by
  simp only [JR, List.getElem_cons_succ]
  rw [ZnJ ts (k + 1) i (by simpa using h), show k + 1 + i = k + (i + 1) by omega]
theorem ZpP {bw fr op : Int} {ks : List GTerm} {i : Nat} (h : i < ks.length) : (JR bw fr op 0 ks).take (i + 1) = (JR bw fr op 0 ks).take i ++ [shG bw (fr + Qt op i) ks[i]] := by
 rw [List.take_succ_eq_append_getElem (by rw [Je]; exact h), ZnJ ks 0 i h]; simp
mutual
theorem Zmj (bw : Int) : ∀ (t : GTerm) (fr : Int), (shG bw fr t).size = t.size
 | .mk op n nl1 ty nl2 ks, fr => by simp [shG, GTerm.size, Zkz bw ks fr op 0]
theorem Zkz (bw : Int) : ∀ (ks : List GTerm) (fr op : Int) (k : Nat), XI (JR bw fr op k ks) = XI ks
 | [], _, _, _ => by simp [JR, XI]
 | t :: ts, fr, op, k => by simp [JR, XI, Zmj bw t, Zkz bw ts]
end
theorem num_sh {nv size bw fr op n : Int} (h0 : 0 ≤ fr) (h1 : fr ≤ nv) (hb : 0 ≤ bw) : ZcM (nv + bw) size true op (if op = 0 ∧ fr ≤ n then n + bw else n) = ZcM nv size true op n := by
 unfold ZcM
 by_cases h : op = 0
 ·subst h
  have e0 : eqB 0 0 = true := by rw [Qd]
  rw [if_pos e0, if_pos e0]
  rw [Bool.eq_iff_iff, QM, QM]
  simp only [true_and]
  split <;> omega
 ·have e0 : eqB op 0 = false := by rw [Qc]; exact h
  have e1 : (if op = 0 ∧ fr ≤ n then n + bw else n) = n := if_neg fun h' => h h'.1
  rw [e1]; simp [e0]
mutual
theorem Zo5 {size bw : Int} (hb : 0 ≤ bw) : ∀ (t : GTerm) (nv fr : Int), 0 ≤ fr → fr ≤ nv → Xr (nv + bw) size true (shG bw fr t) = Xr nv size true t
 | .mk op n nl1 ty nl2 ks, nv, fr, h0, h1 => by
  simp only [shG, Xr, Y0, Je, num_sh h0 h1 hb, ZnA hb ks nv fr op 0 h0 h1]
theorem ZnA {size bw : Int} (hb : 0 ≤ bw) : ∀ (ks : List GTerm) (nv fr op : Int) (k : Nat), 0 ≤ fr → fr ≤ nv → Xj (nv + bw) size true op k (JR bw fr op k ks) = Xj nv size true op k ks
 | [], _, _, _, _, _, _ => by simp [JR, Xj]
 | t :: ts, nv, fr, op, k, h0, h1 => by
  have := Zv op k
  have e := Zo5 (size := size) hb t (nv + Qt op k) (fr + Qt op k) (by omega) (by omega)
  rw [show nv + Qt op k + bw = nv + bw + Qt op k by omega] at e
  simp only [JR, Xj, e, ZnA hb ts nv fr op (k + 1) h0 h1]
end
mutual
def GTerm.sk (nv : Int) : GTerm → Prop
 | .mk op n _ ty _ ks => (I64 op ∧ I64 n ∧ Lok ty ∧ ks.length ≤ 3) ∧ (op = 0 → 0 ≤ n ∧ n ≤ nv - 1 ∧ ks = [] ∧ ty = []) ∧ sks nv op 0 ks
def sks (nv op : Int) (k : Nat) : List GTerm → Prop
 | [] => True
 | t :: ts => t.sk (nv + Qt op k) ∧ sks nv op (k + 1) ts
end
theorem Zpe {nv op : Int} : ∀ {ks : List GTerm} {k : Nat}, sks nv op k ks ↔ ∀ (i : Nat) (h : i < ks.length), (ks[i]).sk (nv + Qt op ((k + i : Nat) : Int))
 | [], k => by simp [sks]
 | t :: ts, k => by
  simp only [sks, Zpe (ks := ts)]
  constructor
  ·rintro ⟨h1, h2⟩ i hi
   cases i with
   | zero => simpa only [Nat.add_zero, List.getElem_cons_zero] using h1
   | succ i =>
    have := h2 i (by simpa using hi)
    rw [show k + 1 + i = k + (i + 1) by omega] at this
    exact this
  ·intro h
   refine ⟨by have := h 0 (by simp); simpa only [Nat.add_zero, List.getElem_cons_zero] using this, fun i hi => ?_⟩
   have := h (i + 1) (by simpa using hi)
   rw [show k + (i + 1) = k + 1 + i by omega] at this
   exact this
mutual
theorem sk_wf : ∀ (g : GTerm) (nv : Int), g.sk nv → g.wf
 | .mk op n nl1 ty nl2 ks, nv, h => by
  simp only [GTerm.sk, GTerm.wf] at h ⊢
  exact ⟨h.1.1, h.1.2.1, h.1.2.2.1, by omega, sks_wf ks nv op 0 h.2.2⟩
theorem sks_wf : ∀ (ks : List GTerm) (nv op : Int) (k : Nat), sks nv op k ks → wfs ks
 | [], _, _, _, _ => by simp [wfs]
 | t :: ts, nv, op, k, h => by
  simp only [sks, wfs] at h ⊢
  exact ⟨sk_wf t _ h.1, sks_wf ts nv op (k + 1) h.2⟩
end
mutual
theorem sk_sh {bw : Int} (hb : 0 ≤ bw ∧ bw ≤ 1000) : ∀ (g : GTerm) (nv fr : Int), 0 ≤ fr → nv + 2 * g.size ≤ 100000000 → g.sk nv → (shG bw fr g).sk (nv + bw)
 | .mk op n nl1 ty nl2 ks, nv, fr, h0, hv, h => by
  simp only [GTerm.sk, shG, GTerm.size] at h hv ⊢
  obtain ⟨⟨q1, q2, q3, q4⟩, q5, q6⟩ := h
  have ih := sks_sh hb ks nv fr op 0 h0 (by omega) q6
  refine ⟨⟨q1, ?_, q3, by rw [Je]; exact q4⟩, fun ho => ?_, ih⟩
  ·split
   ·rename_i hc
    have := q5 hc.1
    unfold I64; omega
   ·exact q2
  ·obtain ⟨r1, r2, r3, r4⟩ := q5 ho
   subst r3
   refine ⟨?_, ?_, by simp [JR], r4⟩ <;> split <;> omega
theorem sks_sh {bw : Int} (hb : 0 ≤ bw ∧ bw ≤ 1000) : ∀ (ks : List GTerm) (nv fr op : Int) (k : Nat), 0 ≤ fr → nv + 2 + 2 * XI ks ≤ 100000000 → sks nv op k ks → sks (nv + bw) op k (JR bw fr op k ks)
 | [], _, _, _, _, _, _, _ => by simp [JR, sks]
 | t :: ts, nv, fr, op, k, h0, hv, h => by
  simp only [sks, JR, XI] at h hv ⊢
  have := Zv op k
  have e := sk_sh hb t (nv + Qt op k) (fr + Qt op k) (by omega) (by omega) h.1
  rw [show nv + Qt op k + bw = nv + bw + Qt op k by omega] at e
  exact ⟨e, sks_sh hb ts nv fr op (k + 1) h0 (by omega) h.2⟩
end
end Go.Proofs.YtclfngbealdbgaaGreat
namespace Go.Proofs.YtclfngbealdbgaaGreat
open Go Go.TL
open Go.Proofs.YtclfngbealdbgaaGreat.Ty
set_option linter.unusedSimpArgs false
set_option linter.unusedVariables false
set_option linter.unusedSectionVars false
set_option maxRecDepth 20000
set_option maxHeartbeats 4000000
end Go.Proofs.YtclfngbealdbgaaGreat
namespace Go.Proofs.YtclfngbealdbgaaGreat
open Go Go.TL
open Go.Proofs.YtclfngbealdbgaaGreat.Ty
set_option linter.unusedSimpArgs false
set_option linter.unusedVariables false
set_option linter.unusedSectionVars false
set_option maxRecDepth 20000
set_option maxHeartbeats 4000000
end Go.Proofs.YtclfngbealdbgaaGreat
namespace Go.Proofs.YtclfngbealdbgaaGreat
open Go Go.TL
open Go.Proofs.YtclfngbealdbgaaGreat.Ty
set_option linter.unusedSimpArgs false
set_option linter.unusedVariables false
set_option linter.unusedSectionVars false
set_option maxRecDepth 20000
set_option maxHeartbeats 4000000
end Go.Proofs.YtclfngbealdbgaaGreat
namespace Go.Proofs.YtclfngbealdbgaaGreat
open Go Go.TL
open Go.Proofs.YtclfngbealdbgaaGreat.Ty
set_option linter.unusedSimpArgs false
set_option linter.unusedVariables false
set_option linter.unusedSectionVars false
set_option maxRecDepth 20000
set_option maxHeartbeats 8000000
end Go.Proofs.YtclfngbealdbgaaGreat
namespace Go.Proofs.YtclfngbealdbgaaGreat
open Go Go.TL
open Go.Proofs.YtclfngbealdbgaaGreat.Ty
set_option linter.unusedSimpArgs false
set_option linter.unusedVariables false
set_option linter.unusedSectionVars false
set_option maxRecDepth 20000
set_option maxHeartbeats 4000000
def KR (Qk : List (List LV)) : LV := if Qk.isEmpty = true then .sl true true 1 [] else .sl true false 4 Qk
theorem KR_app {Qk : List (List LV)} {r : List LV} (h : Qk.length < 1099511627776) : WF 4 (KR Qk) (.sl true false 4 [r]) = some (KR (Qk ++ [r])) := by
 cases Qk with
 | nil => simp [KR, WF, most]
 | cons a l =>
  simp only [KR, List.isEmpty_cons, Bool.false_eq_true, if_false, List.cons_append, WF]
  rw [if_pos ⟨.inl trivial, .inl trivial, .inl trivial, by simp [most] at h ⊢; omega⟩]
  simp
theorem KR_flat (ks : List (List LV)) : (KR ks).flat = true := by unfold KR; split <;> rfl
theorem KR_cells (ks : List (List LV)) : (KR ks).cells = [KR ks] := by unfold KR; split <;> rfl
theorem ZnL (ks : List (List LV)) : (KR ks).alive = true := by unfold KR; split <;> rfl
theorem KR_nz (ks : List (List LV)) : nz (KR ks) = nz (.sl true ks.isEmpty 4 ks) := by
 cases ks with
 | nil => simp [KR, nz]
 | cons a l => simp [KR]
theorem KR_low {ks : List (List LV)} (h : Ws 0 ks) : Low 0 (KR ks) := by unfold KR; split <;> simp [h]
def isTF (g : GTerm) (r : LV) : Prop := ∃ (w : GTerm) (cs : List LV), r = .agg cs ∧ shareAll cs = w.cells ∧ w.nm = g.nm ∧ w.fl
def isTz (g : GTerm) (r : LV) : Prop := ∃ r', nz r' = nz r ∧ isTF g r' ∧ Low 0 r'
theorem isTz_mk {op n : Int} {f1 f2 : Bool} {ty : List Int} {K ws : List GTerm} {Qk : List (List LV)} {T : LV} {nlT : Bool} (h : Qu Qk = Wg ws) (hn : nms ws = nms K) (hT : share T = L nlT ty) (lT : Low 0 T) (lo : Ws 0 Qk) (hf : nlT = false) (hfw : fls ws) : isTz (.mk op n f1 ty f2 K) (.agg [N op, N n, T, KR Qk]) := by
 refine ⟨.agg [N op, N n, T, .sl true Qk.isEmpty 4 Qk], by simp [nz, ZU, KR_nz], ⟨.mk op n nlT ty Qk.isEmpty ws, _, rfl, ?_, ?_, ?_⟩, by simp [lT, lo]⟩
 ·simp only [shareAll, share, hT, h, GTerm.cells]
 ·simp only [GTerm.nm, hn]
  rw [← ZcF ws, hn, ZcF]
 ·simp only [GTerm.fl]
  exact ⟨by subst hf; simp [Zn], hfw⟩
theorem nm_fl : ∀ g : GTerm, g.nm.fl := by
 intro g
 exact go g
where
 go : ∀ g : GTerm, g.nm.fl
  | .mk op n nl1 ty nl2 ks => by
   simp only [GTerm.nm, GTerm.fl]
   exact ⟨by simp [Zn], gos ks⟩
 gos : ∀ ks : List GTerm, fls (nms ks)
  | [] => by simp [nms, fls]
  | k :: ks => by simp only [nms, fls]; exact ⟨go k, gos ks⟩
theorem nm_nm : ∀ g : GTerm, g.nm.nm = g.nm := by
 intro g
 exact go g
where
 go : ∀ g : GTerm, g.nm.nm = g.nm
  | .mk op n nl1 ty nl2 ks => by
   simp only [GTerm.nm, gos ks]
   congr 1
   cases ks <;> simp [nms]
 gos : ∀ ks : List GTerm, nms (nms ks) = nms ks
  | [] => by simp [nms]
  | k :: ks => by simp only [nms, go k, gos ks]
theorem Zpp (g : GTerm) : ∃ r, isTF g r ∧ Low 0 r := ⟨.agg g.nm.cells, ⟨g.nm, _, rfl, by simp, nm_nm g, nm_fl g⟩, by simp⟩
theorem Zpm (g : GTerm) : ∃ r, isTz g r ∧ Low 0 r := by
 obtain ⟨r, h, l⟩ := Zpp g
 exact ⟨r, ⟨r, rfl, h, l⟩, l⟩
theorem Qe.ofTz {P : Program} {f : FuncId} {args : List LV} {g : GTerm} (c : Qe P f args (isTz g)) : Qe P f args (isTF g) := Qe.nzR c fun r h => h
theorem ZfX (bw : Int) (hbw : 0 ≤ bw ∧ bw ≤ 100000) (d : Nat) : ∀ (g : GTerm) (nv fr : Int), g.size ≤ d → g.sk nv → 0 ≤ nv → nv + 2 * g.size ≤ 1000000 → 0 ≤ fr → fr + 2 * g.size ≤ 1000000 →
  Qe Tryz.prog Zp [g.lv, N bw, N fr] (isTF (shG bw fr g)) := by
 induction d with
 | zero => intro g _ _ h; have := g.size_pos; omega
 | succ d ih =>
  rintro ⟨op, n, nl1, gty, nl2, ks⟩ nv fr hd hform hn0 hnv hd0 hdeep
  simp only [GTerm.sk] at hform
  obtain ⟨⟨hop, hn, hty, hk⟩, hvar, hforms⟩ := hform
  simp only [GTerm.size] at hd hnv hdeep
  have hgl := hty.1
  simp only [GTerm.lv, GTerm.cells]
  refine Qe.ofTz (Qe.of_codeOf Zhr QA (by simp) (Zpm _) ?_)
  have CL := ZC nl1 gty (by omega)
  have hSl := Je (bw := bw) (fr := fr) (op := op) ks 0
  simp only [ZbS]
  rw [Zfp, Zfp]
  refine ZcH (fun t h => t 3 = .rp [N op, N n, L nl1 gty, .sl false nl2 4 (Wg ks)] ∧ t 1 = N bw ∧ t 2 = N fr ∧ t 6 = .ptr 1 0 ∧ t 7 = .ptr 2 0 ∧
   h = [none, some [N 0, N 0, .sl true true 1 [], .sl true true 1 []], some [N op, N (if op = 0 ∧ fr ≤ n then n + bw else n), OU true false gty, .sl true true 1 []]]) ?_ ?_
  ·simp (disch := omega) [Qw, Qs]
   refine Qa CL (by simp) ?_
   by_cases h0 : op = 0
   ·subst h0
    have e0 : eqB 0 0 = true := by rw [Qd]
    have hI : I64 (n + bw) := by have := hvar rfl; unfold I64; omega
    by_cases h1 : fr ≤ n
    ·have e1 : leB fr n = true := by rw [Qm]; exact h1
     simp (disch := omega) [e0, e1, h1, Qf, hI]
    ·have e1 : leB fr n = false := by rw [Qj]; omega
     simp (disch := omega) [e0, e1, h1]
   ·have e0 : eqB op 0 = false := by rw [Qc]; exact h0
    simp (disch := omega) [e0, h0]
  ·rintro t1 hh hf1 ⟨a3, a1, a2, a6, a7, rfl⟩
   have eS : shG bw fr (.mk op n nl1 gty nl2 ks) = .mk op (if op = 0 ∧ fr ≤ n then n + bw else n) nl1 gty nl2 (JR bw fr op 0 ks) := by simp [shG]
   rw [eS]
   generalize (if op = 0 ∧ fr ≤ n then n + bw else n) = n' at *
   simp (disch := omega) [a1, a2, a3, a6, a7]
   refine Wb ks.length 0 (fun i t h => t 8 = N i ∧ ∃ Qk ws tl, h = none :: some [N 0, N 0, .sl true true 1 [], .sl true true 1 []] :: some [N op, N n', OU true false gty, KR Qk] :: tl ∧ Qu Qk = Wg ws ∧ Ws 0 Qk ∧ nms ws = nms ((JR bw fr op 0 ks).take i) ∧ fls ws)
    (fun t h => ∃ Qk ws tl, h = none :: some [N 0, N 0, .sl true true 1 [], .sl true true 1 []] :: some [N op, N n', OU true false gty, KR Qk] :: tl ∧ Qu Qk = Wg ws ∧ Ws 0 Qk ∧ nms ws = nms (JR bw fr op 0 ks) ∧ fls ws) ⟨by simp, [], [], [], by simp [KR], by simp [Wg, Qu], by simp, by simp, by simp [fls]⟩ (by omega) ?_ ?_
   ·rintro i t2 hh hf2 hi ⟨e8, Qk, ws, tl, rfl, hsh, hlo, hnm, hfw⟩
    (have e1 := hf2 1 (by kernel_rfl); have e2 := hf2 2 (by kernel_rfl); have e3 := hf2 3 (by kernel_rfl); have e6 := hf2 6 (by kernel_rfl); have e7 := hf2 7 (by kernel_rfl); clear hf2; simp [a1, a2, a3, a6, a7] at e1 e2 e3 e6 e7)
    by_cases h6 : i < ks.length
    ·have hb : ltB (i : Int) ks.length = true := by rw [Qh]; omega
     have hsk := Zd h6
     have hA := Zv op i
     have hkf : (ks[i]).sk (nv + Qt op i) := by have := Zpe.1 hforms i h6; simpa using this
     have recu := ih ks[i] (nv + Qt op i) (fr + Qt op i) (by omega) hkf (by omega) (by omega) (by omega) (by omega)
     have hix := ZhC ks false nl2 i h6
     have hwl : ws.length = i := by
      have := Zcy hnm
      rw [this, List.length_take]; omega
     have hrl : Qk.length = i := by rw [← Xa, hsh, ZcW, hwl]
     have hal := ZnL Qk
     simp (disch := omega) [e1, e2, e3, e6, e7, e8, hb, hix, hal]
     refine Qa (ZkB op i) (by simp) ?_
     simp (disch := omega) [e1, e2, e3, e6, e7, e8, Qf]
     refine Qi (Qe.low recu) (by simp) ?_
     rintro r2 ⟨⟨w, cs, rfl, hcs2, hwn, hwf⟩, lo2⟩
     obtain ⟨c0, c1, c2, c3, rfl⟩ := len4 (cs := cs) (by rw [← WW, hcs2]; simp)
     have ap := KR_app (Qk := Qk) (r := [c0, c1, c2, c3]) (by omega)
     have hfl2 := KR_flat (Qk ++ [[c0, c1, c2, c3]])
     have hce2 := KR_cells (Qk ++ [[c0, c1, c2, c3]])
     simp (disch := omega) [e1, e2, e3, e6, e7, e8, Ql, ap, h6, Qf, hfl2, hce2]
     refine ⟨_, rfl, ws ++ [w], ?_, ?_, ?_, VI.2 fun k hk => ?_⟩
     ·rw [Zf2, ← hsh, ← hcs2]; simp [YU, X9]
     ·simp at lo2; simp [hlo, lo2]
     ·rw [Ze6, hnm, ZpP h6, Ze6, hwn]
     ·rcases List.mem_append.1 hk with hk | hk
      ·exact VI.1 hfw k hk
      ·simp at hk; subst hk; exact hwf
    ·have hb : ltB (i : Int) ks.length = false := by rw [Qg]; omega
     have e := List.take_of_length_le (l := JR bw fr op 0 ks) (i := i) (by omega)
     rw [e] at hnm
     simp (disch := omega) [e3, e8, hb]
     exact ⟨Qk, rfl, ws, hsh, hlo, hnm, hfw⟩
   ·rintro t2 hh hf2 ⟨Qk, ws, tl, rfl, hsh, hlo, hnm, hfw⟩
    (have e6 := hf2 6 (by kernel_rfl); have e7 := hf2 7 (by kernel_rfl); clear hf2; simp [a6, a7] at e6 e7)
    have hal := ZnL Qk
    simp (disch := omega) [e6, e7, hal]
    exact ⟨KR_low hlo, isTz_mk hsh hnm (nlT := false) (by simp) (by simp) hlo rfl hfw⟩
end Go.Proofs.YtclfngbealdbgaaGreat
