/- Part 7 of the proof of the row of the text YtclfngbealdbgaaGreatZRowClosed: texts joined. No conditions. -/
import Derived.Test.YtclfngbealdbgaaGreatZfRowClosed
set_option linter.unusedSimpArgs false
set_option linter.unusedVariables false
set_option linter.unusedSectionVars false
namespace Go.Proofs.YtclfngbealdbgaaGreat
open Go Go.TL
open Go.Proofs.YtclfngbealdbgaaGreat.Ty
set_option linter.unusedSimpArgs false
set_option linter.unusedVariables false
set_option linter.unusedSectionVars false
set_option maxRecDepth 20000
set_option maxHeartbeats 4000000
theorem Wc.nzR {P : Program} {D : Dr} {f : FuncId} {rest : List LV} {Q Q' : LV → Prop} (c : Wc P D f rest Q) (h : ∀ r, Q r → ∃ r', Go.TL.nz r' = Go.TL.nz r ∧ Q' r') : Wc P D f rest Q' :=
 fun h1 h3 ct i k hct hk => Q7.nzR (c h1 h3 ct i k hct hk) fun r h' hr => by
  obtain ⟨i', k', q1, q2, q3⟩ := hr
  obtain ⟨r', e, hq⟩ := h r q2
  exact ⟨r', e, i', k', q1, hq, q3⟩
def Yx (s : GSys) (ctx : Wk) : Prop := (∀ c ∈ ctx, okL s.size c.2 = true) ∧ (∀ c ∈ ctx, c.1 = false)
theorem Yx.app {s : GSys} {f ctx : Wk} (hf : Yx s f) (hc : Yx s ctx) : Yx s (f ++ ctx) :=
 ⟨fun c h => (List.mem_append.1 h).elim (hf.1 c) (hc.1 c), fun c h => (List.mem_append.1 h).elim (hf.2 c) (hc.2 c)⟩
theorem Yx.one {s : GSys} {l : List Int} (h : okL s.size l = true) : Yx s [(false, l)] := ⟨by simpa using h, by simp⟩
theorem Yx.two {s : GSys} {l m : List Int} (h : okL s.size l = true) (h2 : okL s.size m = true) : Yx s [(false, l), (false, m)] := ⟨by simp; exact ⟨h, h2⟩, by simp⟩
structure TmOk (s : GSys) (nv : Nat) (n : Nat) (w : GTerm) : Prop where
 wf : w.wf
 fl : w.fl
 form : Xr nv s.size true w = true
 size : w.size ≤ n
def isD (s : GSys) (nv : Nat) (n : Nat) (r : LV) : Prop := ∃ (w : GTerm) (cs : List LV), r = .agg cs ∧ shareAll cs = w.cells ∧ QD 0 cs ∧ Wu cs = true ∧ TmOk s nv n w
theorem isD.mono {s : GSys} {nv n m : Nat} {r : LV} (h : isD s nv n r) (hm : n ≤ m) : isD s nv m r := by
 obtain ⟨w, cs, h1, h2, h3, h4, h5⟩ := h
 exact ⟨w, cs, h1, h2, h3, h4, h5.wf, h5.fl, h5.form, Nat.le_trans h5.size hm⟩
theorem Kc {s : GSys} (hsy : s.sys = true) {g : GTerm} (nlc : Bool) {ctx : Wk} {n : Nat} (hc : Yx s ctx) (hg : TmOk s ctx.length n g) (hlen : ctx.length + 2 * n ≤ 100000) (i : Nat) (hi : i < ctx.length) :
  Qe Tryz.prog Xi [s.lv, LC nlc ctx, g.lv, N i] (fun r => ∃ m, r = N m ∧ s.G m) := by
 have t := GSys.sys_of hsy
 have hsz := hg.size
 refine Qe.of_codeOf Zmc QA (by simp) ⟨_, ⟨0, rfl, GSys.G0 t⟩, by simp⟩ ?_
 have tl := ZcA hsy g.size g nlc ctx (Nat.le_refl _) hg.wf hg.fl hc.1 hc.2 (by omega) hg.form
 simp (disch := omega) [Zeo, Qw, Qs]
 refine Qi (Qe.low tl) (by simp) ?_
 have hcs : ∀ l ∈ ctx.map Prod.snd, okL s.size l = true := fun l hl => by
  obtain ⟨c, h1, rfl⟩ := List.mem_map.1 hl
  exact hc.1 c h1
 cases hT : Qq s (ctx.map Prod.snd) g with
 | bad f p =>
  rintro r ⟨⟨hf, u1, u2, u4, n4, rfl⟩, lo⟩
  have hf0 : eqB f 0 = false := by rw [Qc]; exact hf
  simp (disch := omega) [hf0, Qs]
  exact GSys.G0 t
 | ok x =>
  rintro r ⟨⟨u1, u2, u4, n4, rfl⟩, lo⟩
  have gd := JT t g (ctx.map Prod.snd) x hcs (by rw [List.length_map]; exact hg.form) hT
  have hl := gd.2.1
  rw [List.length_map] at hl
  have h0 : eqB 0 0 = true := by rw [Qd]
  have hx : QN 1 (.sl false false 1 (x.needs.map fun n => [N n])) (i : Int) = some (.rp [N (x.needs.getD i 0)]) := W9 x.needs false false i (by omega) (by omega)
  have hG : s.G (x.needs.getD i 0) := by
   rw [List.getD_eq_getElem?_getD, List.getElem?_eq_getElem (by omega)]
   exact gd.2.2 _ (List.getElem_mem _)
  generalize x.needs.getD i 0 = m at hx hG
  simp (disch := omega) [h0, Qs, hx]
  exact hG
theorem ZoT {s : GSys} (hsy : s.sys = true) {g : GTerm} (nlc : Bool) {ctx : Wk} {n : Nat} (hc : Yx s ctx) (hg : TmOk s ctx.length n g) (hlen : ctx.length + 2 * n ≤ 100000) :
  Qe Tryz.prog Vc [s.lv, LC nlc ctx, g.lv] (fun r => ∃ u l, r = OU u false l ∧ okL s.size l = true) := by
 have t := GSys.sys_of hsy
 have hsz := hg.size
 have h00 : okL s.size [0] = true := Yh.2 ⟨.nd 0 [], by simp [RT.ok, Wr, oks], by simp [RT.flat, WB], by simp, by simp [okC, QL, W0]⟩
 refine Qe.of_codeOf Zg0 QA (by simp) ⟨_, ⟨true, [0], rfl, h00⟩, by simp⟩ ?_
 have tl := ZcA hsy g.size g nlc ctx (Nat.le_refl _) hg.wf hg.fl hc.1 hc.2 (by omega) hg.form
 simp (disch := omega) [ZbM, Qw, Qs]
 refine Qi (Qe.low tl) (by simp) ?_
 have hcs : ∀ l ∈ ctx.map Prod.snd, okL s.size l = true := fun l hl => by
  obtain ⟨c, h1, rfl⟩ := List.mem_map.1 hl
  exact hc.1 c h1
 cases hT : Qq s (ctx.map Prod.snd) g with
 | bad f p =>
  rintro r ⟨⟨hf, u1, u2, u4, n4, rfl⟩, lo⟩
  have hf0 : eqB f 0 = false := by rw [Qc]; exact hf
  simp (disch := omega) [hf0, Qs, Ql]
  exact ⟨[0], rfl, h00⟩
 | ok x =>
  rintro r ⟨⟨u1, u2, u4, n4, rfl⟩, lo⟩
  have gd := JT t g (ctx.map Prod.snd) x hcs (by rw [List.length_map]; exact hg.form) hT
  have h0 : eqB 0 0 = true := by rw [Qd]
  simp (disch := omega) [h0, Qs]
  exact ⟨_, rfl, gd.1⟩
theorem ZaS (op n : Int) (nl : Bool) (Qk : List (List LV)) (hs : Qu Qk = Qk) (hl : Ws 0 Qk) : Qe Tryz.prog Wz [N op, N n, .sl false nl 4 Qk] (fun r => r = .agg [N op, N n, .sl true true 1 [], .sl false nl 4 Qk]) := by
 refine Qe.of_codeOf Zof QA (by simp [hs]) ⟨_, rfl, by simp [hl]⟩ ?_
 simp (disch := omega) [ZhW, hs, hl]
theorem Zo {size : Int} {data : Bool} {n : Nat} {l : List Int} (h : ZhG size data n l) (hn : n ≤ 40) : okL size l = true := by
 obtain ⟨t, h1, h2, rfl, h4⟩ := h
 refine Yh.2 ⟨t, h1, rfl, by omega, ?_⟩
 clear h4
 exact gr t h2
where
 gr : ∀ (t : RT), RT.gr size data t → ∀ c ∈ t.flat, okC size true c = true
  | .nd c ks, h, x, hx => by
   simp only [RT.gr] at h
   simp only [RT.flat, List.mem_cons] at hx
   rcases hx with rfl | hx
   ·exact h.1
   ·exact grs' ks h.2.2 x hx
 grs' : ∀ (ts : List RT), grs size data ts → ∀ c ∈ WB ts, okC size true c = true
  | [], _, x, hx => by simp [WB] at hx
  | t :: ts, h, x, hx => by
   simp only [grs] at h
   simp only [WB, List.mem_append] at hx
   rcases hx with hx | hx
   ·exact gr t h.1 x hx
   ·exact grs' ts h.2 x hx
section
variable (D : Dr) (ok : D.ok)
include ok
theorem Zal {s : GSys} (t : s.Tab) (g : Int) (hg : s.G g) : Wc Tryz.prog D Yu [s.lv, N g] (fun r => ∃ m, r = N m ∧ s.G m) := by
 refine Wc.of_codeOf Zjp QA (by simp) ⟨_, g, rfl, hg⟩ ?_
 intro h1 h3 ct i k hct hk
 have h2 := t.lo; have h16 := t.hi
 obtain ⟨g0, g1⟩ := hg
 have b1 : ltB g 0 = false := by rw [Qg]; omega
 have b2 : leB s.size g = false := by rw [Qj]; omega
 simp (disch := omega) [Zdn, Qw, Qs, b1, b2]
 refine Wb 3 0 (fun j t h => t 7 = N j ∧ ∃ i' k', XC D i' k' ∧ h = h1 ++ some [ct, N i', N k'] :: (h3 ++ [none])) (fun t h => ∃ i' k', XC D i' k' ∧ h = h1 ++ some [ct, N i', N k'] :: (h3 ++ [none])) ⟨by simp, i, k, hk, rfl⟩ (by omega) ?_ ?_
 ·rintro j t1 hh hf hj ⟨e7, i1, k1, hk1, rfl⟩
  (have e0 := hf 0 (by kernel_rfl); have e2 := hf 2 (by kernel_rfl); have e4 := hf 4 (by kernel_rfl); clear hf; simp [] at e0 e2 e4)
  have once := Y8 D ok 3 (by unfold I64; omega)
  have bel := WP D ok s.size (by unfold I64; omega)
  by_cases h6 : j < 3
  ·have hb : ltB (j : Int) 3 = true := by rw [Qh]; omega
   simp (disch := omega) [e0, e2, e4, e7, hb]
   refine Qp once hct hk1 ?_
   rintro r i2 k2 hk2 ⟨b, rfl⟩
   cases b
   ·simp (disch := omega) [e0, e2, e4, e7, hb]
    exact hk2
   ·simp (disch := omega) [e0, e2, e4, e7, hb]
    refine Qp bel hct hk2 ?_
    rintro r i3 k3 hk3 ⟨m, rfl, hm0, hm1, _⟩
    have hm := hm1 (by omega)
    have le := XK t (a := g) (b := m) ⟨g0, g1⟩ ⟨hm0, hm⟩
    simp (disch := omega) [e0, e2, e4, e7, hb]
    refine Qa le (by simp) ?_
    cases s.le g m
    ·simp (disch := omega) [e0, e2, e4, e7, hb, Qf]
     exact ⟨by omega, hk3⟩
    ·simp (disch := omega) [e0, e2, e4, e7, hb]
     (first | refine WR (.inr rfl) rfl ?_ (by simp) ?_ | refine WA (.inr rfl) rfl ?_ (by simp) ?_)
     ·exact hk3
     ·exact ⟨m, by simp, hm0, hm⟩
  ·have hb : ltB (j : Int) 3 = false := by rw [Qg]; omega
   simp (disch := omega) [e0, e2, e4, e7, hb]
   exact hk1
 ·rintro t1 hh hf ⟨i1, k1, hk1, rfl⟩
  (have e2 := hf 2 (by kernel_rfl); clear hf; simp [] at e2)
  simp (disch := omega) [e2]
  (first | refine WR (.inr rfl) rfl ?_ (by simp) ?_ | refine WA (.inr rfl) rfl ?_ (by simp) ?_)
  ·exact hk1
  ·exact ⟨g, by simp, g0, g1⟩
theorem dBent_ok : Wc Tryz.prog D ZaF [] (fun r => ∃ m, r = N m ∧ I64 m) := by
 refine Wc.of_codeOf Zlz QA (by simp) ⟨_, 0, rfl, by unfold I64; omega⟩ ?_
 intro h1 h3 ct i k hct hk
 have pick := ZlA D ok false [-1, 0, 1, 2, 3, 7, 8, 15, 16, 17, 40, 9223372036854775807, -9223372036854775808] (by simp) (by simp)
 simp (disch := omega) [Zer, Ql]
 refine Qp pick hct hk ?_
 rintro r i1 k1 hk1 ⟨m, rfl, hm⟩
 simp (disch := omega)
 (first | refine WR (.inr rfl) rfl ?_ (by simp) ?_ | refine WA (.inr rfl) rfl ?_ (by simp) ?_)
 ·exact hk1
 ·refine ⟨m, by simp, ?_⟩
  simp only [List.mem_cons, List.not_mem_nil, or_false] at hm
  unfold I64; omega
theorem Zql (s : GSys) (hs : 1 ≤ s.size ∧ s.size ≤ 16) : Wc Tryz.prog D VP [s.lv] (fun r => ∃ m, r = N m ∧ I64 m) := by
 refine Wc.of_codeOf ZiW QA (by simp) ⟨_, 0, rfl, by unfold I64; omega⟩ ?_
 intro h1 h3 ct i k hct hk
 simp (disch := omega) [Zdm, Qw, Qs]
 refine Qp (Y8 D ok 30 (by unfold I64; omega)) hct hk ?_
 rintro r i1 k1 hk1 ⟨b, rfl⟩
 cases b
 ·simp (disch := omega)
  refine Qp (WP D ok s.size (by unfold I64; omega)) hct hk1 ?_
  rintro r i2 k2 hk2 ⟨m, rfl, hm0, hm1, _⟩
  have hm := hm1 (by omega)
  simp (disch := omega)
  (first | refine WR (.inr rfl) rfl ?_ (by simp) ?_ | refine WA (.inr rfl) rfl ?_ (by simp) ?_)
  ·exact hk2
  ·exact ⟨m, by simp, by unfold I64; omega⟩
 ·simp (disch := omega)
  refine Qp (dBent_ok D ok) hct hk1 ?_
  rintro r i2 k2 hk2 ⟨m, rfl, hm⟩
  simp (disch := omega)
  (first | refine WR (.inr rfl) rfl ?_ (by simp) ?_ | refine WA (.inr rfl) rfl ?_ (by simp) ?_)
  ·exact hk2
  ·exact ⟨m, by simp, hm⟩
theorem Zoh (s : GSys) (hs : 1 ≤ s.size ∧ s.size ≤ 16) (n : Nat) (hn : n ≤ 1000) : Wc Tryz.prog D Vb [s.lv, N n] (fun r => ∃ l, r = OU true false l ∧ Lok l ∧ l.length = n) := by
 refine Wc.of_codeOf Zhv QA (by simp) ⟨_, List.replicate n 0, rfl, ⟨by simp; omega, fun x hx => by rw [(List.mem_replicate.1 hx).2]; unfold I64; omega⟩, by simp⟩ ?_
 intro h1 h3 ct i k hct hk
 simp (disch := omega) [Zch, Qw, Qs]
 refine Wb n 0 (fun j t h => t 8 = N j ∧ (∃ l, t 7 = OU true false l ∧ (∀ x ∈ l, I64 x) ∧ l.length = j) ∧ ∃ i' k', XC D i' k' ∧ h = h1 ++ some [ct, N i', N k'] :: (h3 ++ [none]))
  (fun t h => (∃ l, t 7 = OU true false l ∧ (∀ x ∈ l, I64 x) ∧ l.length = n) ∧ ∃ i' k', XC D i' k' ∧ h = h1 ++ some [ct, N i', N k'] :: (h3 ++ [none])) ⟨by simp, ⟨[], by simp [Ql], by simp, by simp⟩, i, k, hk, rfl⟩ (by omega) ?_ ?_
 ·rintro j t1 hh hf hj ⟨e8, ⟨l, e7, hl, hlen⟩, i1, k1, hk1, rfl⟩
  (have e0 := hf 0 (by kernel_rfl); have e2 := hf 2 (by kernel_rfl); have e4 := hf 4 (by kernel_rfl); clear hf; simp [] at e0 e2 e4)
  by_cases h6 : j < n
  ·have hb : ltB (j : Int) n = true := by rw [Qh]; omega
   simp (disch := omega) [e0, e2, e4, e7, e8, hb]
   refine Qp (Zql D ok s hs) hct hk1 ?_
   rintro r i2 k2 hk2 ⟨m, rfl, hm⟩
   have ha : WF 1 (OU true false l) (.sl true false 1 [[N m]]) = some (OU true false (l ++ [m])) := Vr (l := l) (r := [m]) (u := true) (nl := false) (by simp; omega)
   simp (disch := omega) [e0, e2, e4, e7, e8, hb, Ql, ha, Qf]
   refine ⟨by omega, ⟨l ++ [m], by simp, fun x hx => ?_, by simp; omega⟩, hk2⟩
   rcases List.mem_append.1 hx with hx | hx
   ·exact hl x hx
   ·simp at hx; subst hx; exact hm
  ·have hb : ltB (j : Int) n = false := by rw [Qg]; omega
   simp (disch := omega) [e0, e2, e4, e7, e8, hb]
   exact ⟨⟨l, rfl, hl, by omega⟩, hk1⟩
 ·rintro t1 hh hf ⟨⟨l, e7, hl, hlen⟩, i1, k1, hk1, rfl⟩
  clear hf
  simp (disch := omega) [e7]
  (first | refine WR (.inr rfl) rfl ?_ (by simp) ?_ | refine WA (.inr rfl) rfl ?_ (by simp) ?_)
  ·exact hk1
  ·exact ⟨l, by simp, ⟨by omega, hl⟩, hlen⟩
theorem Znt (s : GSys) (hs : 1 ≤ s.size ∧ s.size ≤ 16) (most : Int) (hm : 0 ≤ most ∧ most ≤ 8) (data : Bool) : Wc Tryz.prog D KD [s.lv, N most, B data] (fun r => ∃ ctx : Wk, r = .sl true false 1 (ctx.map fun x => [OU true false x.2]) ∧ Yx s ctx ∧ (ctx.length : Int) ≤ most) := by
 refine Wc.of_codeOf ZgG QA (by simp) ⟨_, [], rfl, by simp [Yx], by simp; omega⟩ ?_
 intro h1 h3 ct i k hct hk
 simp (disch := omega) [Zbj, Qw, Qs, Qf]
 refine Qp (WP D ok (most + 1) (by unfold I64; omega)) hct hk ?_
 rintro r i0 k0 hk0 ⟨m, rfl, hm0, hm1, _⟩
 have hm2 := hm1 (by omega)
 obtain ⟨n, rfl⟩ : ∃ n : Nat, m = n := ⟨m.toNat, by omega⟩
 simp (disch := omega)
 refine Wb n 0 (fun j t h => t 10 = N ((n : Int) - j) ∧ (∃ l : Wk, t 9 = .sl true false 1 (l.map fun x => [OU true false x.2]) ∧ Yx s l ∧ l.length = j) ∧ ∃ i' k', XC D i' k' ∧ h = h1 ++ some [ct, N i', N k'] :: (h3 ++ [none]))
  (fun t h => (∃ l : Wk, t 9 = .sl true false 1 (l.map fun x => [OU true false x.2]) ∧ Yx s l ∧ l.length = n) ∧ ∃ i' k', XC D i' k' ∧ h = h1 ++ some [ct, N i', N k'] :: (h3 ++ [none])) ⟨by simp, ⟨[], by simp [Ql], by simp [Yx], by simp⟩, i0, k0, hk0, rfl⟩ (by omega) ?_ ?_
 ·rintro j t1 hh hf hj ⟨e10, ⟨l, e9, hl, hlen⟩, i1, k1, hk1, rfl⟩
  (have e0 := hf 0 (by kernel_rfl); have e3 := hf 3 (by kernel_rfl); have e5 := hf 5 (by kernel_rfl); clear hf; simp [] at e0 e3 e5)
  by_cases h6 : j < n
  ·have hb : ltB 0 ((n : Int) - j) = true := by rw [Qh]; omega
   simp (disch := omega) [e0, e3, e5, e9, e10, hb]
   refine Qp (Zl D ok s hs data 2 (by omega)) hct hk1 ?_
   rintro r i2 k2 hk2 ⟨ty, rfl, hty⟩
   have hko := Zo hty (by omega)
   have ha : WF 1 (.sl true false 1 (l.map fun x => [OU true false x.2])) (.sl true false 1 [[OU true false ty]]) = some (.sl true false 1 ((l ++ [(false, ty)]).map fun x => [OU true false x.2])) := by
    simp only [WF]
    rw [if_pos ⟨.inl trivial, .inl trivial, .inl trivial, by simp [TL.most]; omega⟩]
    simp
   simp (disch := omega) [e0, e3, e5, e9, e10, hb, Ql, Qf, ha]
   refine ⟨by omega, by omega, ⟨l ++ [(false, ty)], by simp, hl.app (Yx.one hko), by simp; omega⟩, hk2⟩
  ·have hb : ltB 0 ((n : Int) - j) = false := by rw [Qg]; omega
   simp (disch := omega) [e0, e3, e5, e9, e10, hb]
   exact ⟨⟨l, rfl, hl, by omega⟩, hk1⟩
 ·rintro t1 hh hf ⟨⟨l, e9, hl, hlen⟩, i1, k1, hk1, rfl⟩
  clear hf
  simp (disch := omega) [e9]
  (first | refine WR (.inr rfl) rfl ?_ (by simp) ?_ | refine WA (.inr rfl) rfl ?_ (by simp) ?_)
  ·exact hk1
  ·exact ⟨l, by simp, hl, by omega⟩
end
end Go.Proofs.YtclfngbealdbgaaGreat
namespace Go.Proofs.YtclfngbealdbgaaGreat
open Go Go.TL
open Go.Proofs.YtclfngbealdbgaaGreat.Ty
set_option linter.unusedSimpArgs false
set_option linter.unusedVariables false
set_option linter.unusedSectionVars false
set_option maxRecDepth 20000
set_option maxHeartbeats 4000000
def T0 : Nat → Nat
 | 0 => 40
 | d + 1 => 3 * T0 d + 6
def bd (deep : Int) (n : Nat) : Nat := if deep ≤ 0 then n else T0 deep.toNat
theorem T0_ge : ∀ d, 40 ≤ T0 d
 | 0 => by simp [T0]
 | d + 1 => by have := T0_ge d; simp only [T0]; omega
theorem Zll {d e : Nat} (h : d ≤ e) : T0 d ≤ T0 e := by
 induction e with
 | zero => rw [show d = 0 by omega]; exact Nat.le_refl _
 | succ e ih =>
  by_cases h2 : d = e + 1
  ·rw [h2]; exact Nat.le_refl _
  ·have := ih (by omega)
   simp only [T0]; omega
theorem Zkw {deep : Int} {n : Nat} (h : n ≤ 40) : bd deep n ≤ T0 deep.toNat := by
 unfold bd
 split
 ·have := T0_ge deep.toNat; omega
 ·exact Nat.le_refl _
theorem Zpw {deep : Int} (h : 0 < deep) : T0 deep.toNat = 3 * T0 (deep - 1).toNat + 6 := by
 obtain ⟨d, hd⟩ : ∃ d : Nat, deep.toNat = d + 1 := ⟨deep.toNat - 1, by omega⟩
 rw [hd, show (deep - 1).toNat = d by omega]
 rfl
theorem bd_max {deep : Int} {n : Nat} (h : n ≤ 40) (hd : deep ≤ 4) : bd deep n ≤ 3480 := by
 have h1 := Zkw (deep := deep) h
 have h2 := Zll (d := deep.toNat) (e := 4) (by omega)
 have h3 : T0 4 = 3480 := by decide
 omega
theorem bd_two {deep : Int} {a b n : Nat} (h : 1 + a + b ≤ n) (hn : n ≤ 40) : 1 + bd (deep - 1) a + bd (deep - 1) b ≤ bd deep n := by
 by_cases hd : deep ≤ 0
 ·simp only [bd, if_pos hd, if_pos (show deep - 1 ≤ 0 by omega)]; omega
 ·have h1 := Zkw (deep := deep - 1) (n := a) (by omega)
  have h2 := Zkw (deep := deep - 1) (n := b) (by omega)
  have h3 := Zpw (deep := deep) (by omega)
  rw [show bd deep n = T0 deep.toNat by simp [bd, hd]]
  omega
theorem ZlL {deep : Int} {a n : Nat} (h : 1 + a ≤ n) (hn : n ≤ 40) : 1 + bd (deep - 1) a ≤ bd deep n := by
 have h1 := bd_two (deep := deep) (a := a) (b := 0) (by omega) hn
 omega
theorem ZiA {deep : Int} {n : Nat} (h : 1 ≤ n) : 1 ≤ bd deep n := by
 unfold bd
 split
 ·exact h
 ·have := T0_ge deep.toNat; omega
theorem TmOk.k0 {s : GSys} {nv m : Nat} {op n : Int} {nl1 nl2 : Bool} {ty : List Int} (hop : 0 ≤ op ∧ op ≤ 12) (h0 : Y0 nv s.size true op n ty 0 = true) (hI : I64 n) (ht : Lok ty) (f : Zn nl1 ty) (hm : 1 ≤ m) : TmOk s nv m (.mk op n nl1 ty nl2 []) :=
 ⟨by simp only [GTerm.wf, wfs]; exact ⟨by unfold I64; omega, hI, ht, by simp, trivial⟩, by simp only [GTerm.fl, fls]; exact ⟨f, trivial⟩, by simp only [Xr, Xj, List.length_nil, h0, Bool.and_self], by simp only [GTerm.size, XI]; omega⟩
theorem TmOk.k1 {s : GSys} {nv m n1 m1 : Nat} {op n : Int} {nl1 nl2 : Bool} {ty : List Int} {a : GTerm} (hop : 0 ≤ op ∧ op ≤ 12) (h0 : Y0 nv s.size true op n ty 1 = true) (hI : I64 n) (ht : Lok ty) (f : Zn nl1 ty)
  (ha : TmOk s n1 m1 a) (e1 : (n1 : Int) = nv + Qt op 0) (hm : 1 + m1 ≤ m) : TmOk s nv m (.mk op n nl1 ty nl2 [a]) :=
 ⟨by simp only [GTerm.wf, wfs]; exact ⟨by unfold I64; omega, hI, ht, by simp, ha.wf, trivial⟩, by simp only [GTerm.fl, fls]; exact ⟨f, ha.fl, trivial⟩,
  by
   have := ha.form
   rw [e1] at this
   simp only [Xr, Xj, List.length_cons, List.length_nil, h0, Int.natCast_zero, this, Bool.and_self],
  by have := ha.size; simp only [GTerm.size, XI]; omega⟩
theorem TmOk.k2 {s : GSys} {nv m n1 m1 n2 m2 : Nat} {op n : Int} {nl1 nl2 : Bool} {ty : List Int} {a b : GTerm} (hop : 0 ≤ op ∧ op ≤ 12) (h0 : Y0 nv s.size true op n ty 2 = true) (hI : I64 n) (ht : Lok ty) (f : Zn nl1 ty)
  (ha : TmOk s n1 m1 a) (e1 : (n1 : Int) = nv + Qt op 0) (hb : TmOk s n2 m2 b) (e2 : (n2 : Int) = nv + Qt op 1) (hm : 1 + m1 + m2 ≤ m) : TmOk s nv m (.mk op n nl1 ty nl2 [a, b]) :=
 ⟨by simp only [GTerm.wf, wfs]; exact ⟨by unfold I64; omega, hI, ht, by simp, ha.wf, hb.wf, trivial⟩, by simp only [GTerm.fl, fls]; exact ⟨f, ha.fl, hb.fl, trivial⟩,
  by
   have h1 := ha.form
   have h2 := hb.form
   rw [e1] at h1
   rw [e2] at h2
   simp only [Xr, Xj, List.length_cons, List.length_nil, h0, Int.natCast_zero, Nat.zero_add, Int.natCast_one, h1, h2, Bool.and_self],
  by have h1 := ha.size; have h2 := hb.size; simp only [GTerm.size, XI]; omega⟩
theorem TmOk.k3 {s : GSys} {nv m n1 m1 n2 m2 n3 m3 : Nat} {op n : Int} {nl1 nl2 : Bool} {ty : List Int} {a b c : GTerm} (hop : 0 ≤ op ∧ op ≤ 12) (h0 : Y0 nv s.size true op n ty 3 = true) (hI : I64 n) (ht : Lok ty) (f : Zn nl1 ty)
  (ha : TmOk s n1 m1 a) (e1 : (n1 : Int) = nv + Qt op 0) (hb : TmOk s n2 m2 b) (e2 : (n2 : Int) = nv + Qt op 1) (hc : TmOk s n3 m3 c) (e3 : (n3 : Int) = nv + Qt op 2) (hm : 1 + m1 + m2 + m3 ≤ m) : TmOk s nv m (.mk op n nl1 ty nl2 [a, b, c]) :=
 ⟨by simp only [GTerm.wf, wfs]; exact ⟨by unfold I64; omega, hI, ht, by simp, ha.wf, hb.wf, hc.wf, trivial⟩, by simp only [GTerm.fl, fls]; exact ⟨f, ha.fl, hb.fl, hc.fl, trivial⟩,
  by
   have h1 := ha.form
   have h2 := hb.form
   have h3 := hc.form
   rw [e1] at h1
   rw [e2] at h2
   rw [e3] at h3
   simp only [Xr, Xj, List.length_cons, List.length_nil, h0, Int.natCast_zero, Nat.zero_add, Int.natCast_one, h1, h2, show ((1 + 1 : Nat) : Int) = 2 from rfl, h3, Bool.and_self],
  by have h1 := ha.size; have h2 := hb.size; have h3 := hc.size; simp only [GTerm.size, XI]; omega⟩
theorem ZkU {s : GSys} {nv m : Nat} {op n : Int} {T : LV} {nlT u nl : Bool} {ty : List Int} {Qk : List (List LV)} {ks : List GTerm} (hT : share T = L nlT ty) (lT : Low 0 T) (aT : T.alive = true) (hs : Qu Qk = Wg ks) (lr : Ws 0 Qk)
  (h : TmOk s nv m (.mk op n nlT ty nl ks)) : isD s nv m (.agg [N op, N n, T, .sl u nl 4 Qk]) :=
 ⟨.mk op n nlT ty nl ks, _, rfl, by simp only [shareAll, share, hT, hs, GTerm.cells], by simp [lT, lr], by simp [aT], h⟩
theorem Zdx {s : GSys} {nv m : Nat} {op n : Int} {nl : Bool} {ks : List GTerm} (h : TmOk s nv m (.mk op n true [] nl ks)) : isD s nv m (.agg [N op, N n, .sl true true 1 [], .sl false nl 4 (Wg ks)]) :=
 ZkU (nlT := true) (by simp) (by simp) (by simp) (by simp) (by simp) h
theorem ZhU {s : GSys} {nv m : Nat} (h : 1 ≤ m) : ∃ r, isD s nv m r :=
 ⟨_, Zdx (op := 1) (n := 0) (nl := true) (ks := []) (TmOk.k0 (by omega) (by simp [Y0, ZcM, tyB, YG, Xw, QO, eqB, leB]) (by unfold I64; omega) (by simp [Lok]) (by simp [Zn]) h)⟩
theorem ZoY {nv size i : Int} (h : 0 ≤ i ∧ i < nv) : Y0 nv size true 0 i [] 0 = true := by
 have : QO i 0 (nv - 1) = true := by rw [QM]; omega
 simp [Y0, ZcM, tyB, YG, Xw, this, eqB]
theorem ZkC {nv size i : Int} (h : 0 ≤ i ∧ i < 3) : Y0 nv size true 1 i [] 0 = true := by
 have : QO i 0 2 = true := by rw [QM]; omega
 simp [Y0, ZcM, tyB, YG, Xw, this, eqB]
theorem Zhg {nv size op : Int} {k : Nat} (h : op = 2 ∧ k = 2 ∨ op = 3 ∧ k = 3 ∨ op = 4 ∧ k = 2 ∨ op = 10 ∧ k = 2) : Y0 nv size true op 0 [] k = true := by
 rcases h with ⟨rfl, rfl⟩ | ⟨rfl, rfl⟩ | ⟨rfl, rfl⟩ | ⟨rfl, rfl⟩ <;> simp [Y0, ZcM, tyB, YG, Xw, JD, eqB]
theorem Zls {s : GSys} {nv op n : Int} {k : Nat} (hn : s.G n) (h : op = 5 ∧ k = 2 ∨ op = 8 ∧ k = 3 ∨ op = 11 ∧ k = 1 ∨ op = 12 ∧ k = 2) : Y0 nv s.size true op n [] k = true := by
 have h1 : ltB n s.size = true := by rw [Qh]; exact hn.2
 have h2 : leB 0 n = true := by rw [Qm]; exact hn.1
 have h3 : leB (-1) n = true := by rw [Qm]; have := hn.1; omega
 rcases h with ⟨rfl, rfl⟩ | ⟨rfl, rfl⟩ | ⟨rfl, rfl⟩ | ⟨rfl, rfl⟩ <;> simp [Y0, ZcM, tyB, YG, Xw, JD, h1, h2, h3, eqB]
theorem nd_ty {s : GSys} {nv op : Int} {ty : List Int} (ht : okL s.size ty = true) (h : op = 6 ∨ op = 7) : Y0 nv s.size true op 0 ty 1 = true := by
 have e : tyB s.size true op ty = true := by
  unfold tyB
  rw [if_pos (by rcases h with rfl | rfl <;> simp [Xw, eqB])]
  exact ht
 rcases h with rfl | rfl <;> simp [Y0, ZcM, YG, JD, e, eqB]
theorem Zmd {s : GSys} {nv n : Int} {ty : List Int} (hn : s.G n) (ht : okL s.size ty = true) : Y0 nv s.size true 9 n ty 1 = true := by
 have h1 : ltB n s.size = true := by rw [Qh]; exact hn.2
 have h2 : leB 0 n = true := by rw [Qm]; exact hn.1
 have h3 : leB (-1) n = true := by rw [Qm]; have := hn.1; omega
 have e : tyB s.size true 9 ty = true := by
  unfold tyB
  rw [if_pos (by simp [Xw, eqB])]
  exact ht
 simp [Y0, ZcM, YG, JD, e, h1, h2, h3, eqB]
theorem GI {s : GSys} (h16 : s.size ≤ 16) {g : Int} (h : s.G g) : I64 g := by
 have h1 := h.1; have h2 := h.2
 unfold I64; omega
theorem cx_map {s : GSys} {ctx : Wk} (h : Yx s ctx) : (ctx.map fun x => [eC x]) = ctx.map fun x => [L false x.2] := by
 refine List.map_congr_left fun x hx => ?_
 have := h.2 x hx
 obtain ⟨a, b⟩ := x
 simp only at this
 subst this
 rfl
theorem isD.el {s : GSys} {nv n : Nat} {r : LV} (h : isD s nv n r) : ∃ (w : GTerm) (cs : List LV), r = .agg cs ∧ cs.length = 4 ∧ shareAll cs = w.cells ∧ QD 0 cs ∧ Wu cs = true ∧ TmOk s nv n w := by
 obtain ⟨w, cs, h1, h2, h3, h4, h5⟩ := h
 exact ⟨w, cs, h1, by rw [← WW, h2]; simp, h2, h3, h4, h5⟩
theorem hd_at {l : List Int} (h : 1 ≤ l.length) : QN 1 (L false l) 0 = some (.rp [N (hd l)]) := by
 have := W9 l false false 0 (by omega) (by omega)
 rw [this]
 congr 3
 cases l with
 | nil => simp at h
 | cons a l => rfl
def HasT (D : Dr) (s : GSys) (nv m : Nat) (h1 h3 : List Box) (ct : LV) (pre : List Box) (h : List Box) : Prop := ∃ (i' k' : Int) (w : GTerm) (cs : List LV), XC D i' k' ∧ cs.length = 4 ∧ shareAll cs = w.cells ∧ QD 0 cs ∧ Wu cs = true ∧ TmOk s nv m w ∧
 h = h1 ++ some [ct, N i', N k'] :: (h3 ++ (pre ++ [some cs]))
theorem ZR {D : Dr} {s : GSys} {nv m : Nat} {h1 h3 ex : List Box} {ct : LV} {e : Exit} {st : St} {i' k' : Int} {cs : List LV} (he : e = .normal ∨ e = .ret) (ht : st.t 10 = .ptr (h1.length + (h3.length + 1 + 1)) 0) (hh : st.h = h1 ++ some [ct, N i', N k'] :: (h3 ++ (none :: some cs :: ex)))
  (hl : cs.length = 4) (hk : XC D i' k') (lo : QD 0 cs) (hq : isD s nv m (.agg cs)) : Ze4 D [.cell 10 true 4] h1 h3 ct (isD s nv m) e st :=
 Zhj (j := 1) he ht hh (by omega) rfl hl.symm rfl hk (by simpa using lo) hq
section
variable (D : Dr) (ok : D.ok)
include ok
def DOf (s : GSys) (f : Nat) : Prop := ∀ (nlc : Bool) (ctx : Wk) (ty : List Int) (deep : Int), Yx s ctx → ctx.length + 2 * f ≤ 1000 → okL s.size ty = true → 41 * deep.toNat + ty.length ≤ f → deep ≤ 4 → (f : Int) ≤ deep + 1000 →
 Wc Tryz.prog D QS [s.lv, LC nlc ctx, L false ty, N deep] (isD s ctx.length (bd deep ty.length))
theorem dFun_ok {s : GSys} (hsy : s.sys = true) {f : Nat} (H : DOf D s f) (nlc : Bool) (ctx : Wk) (ty : List Int) (deep : Int) (hc : Yx s ctx) (hf : ctx.length + 2 * (f + 1) ≤ 1000) (hty : okL s.size ty = true) (ha : QL (hd ty) = true)
  (hm : 41 * deep.toNat + ty.length ≤ f + 1) (hd4 : deep ≤ 4) (hlo : ((f + 1 : Nat) : Int) ≤ deep + 1000) :
  Wc Tryz.prog D Zcf [s.lv, LC nlc ctx, L false ty, N deep] (isD s ctx.length (bd deep ty.length)) := by
 have t := GSys.sys_of hsy
 have h16 := t.hi
 have h40 := QF hty
 obtain ⟨e2, oa, ob⟩ := Jo hty (Jv ha)
 have hlen : ty.length = 1 + (QI ty).length + (Wv ty).length := by
  conv => lhs; rw [e2]
  simp; omega
 obtain ⟨c1, c2, c3, c4, _⟩ := X5 hty
 have hg := KX c1 (.inl ha)
 have pa := XH hty 0 (.inr (Jv ha))
 have pb := XH hty 1 (.inr (Jv ha))
 simp only [if_true, if_neg (show (1 : Int) ≠ 0 by decide)] at pa pb
 have gr := Zce (hd ty) (by unfold I64; omega) c2
 refine Wc.of_codeOf Zna QA (by simp) (ZhU (ZiA h40.1)) ?_
 have hx := hd_at (QF hty).1
 intro h1 h3 ct i k hct hk
 simp (disch := omega) [Zgj, Qw, Qs]
 refine Qa pa (by simp) ?_
 simp (disch := omega)
 refine Qa pb (by simp) ?_
 simp (disch := omega)
 have lc : ctx.length ≤ 1000000 := by omega
 have wi := YD nlc false ctx [(false, QI ty)] lc (by simp)
 have ci : Yx s ((false, QI ty) :: ctx) := (Yx.one oa).app hc
 have bodyOk := H false ((false, QI ty) :: ctx) (Wv ty) (deep - 1) ci (by simp; omega) ob (by omega) (by omega) (by omega)
 have hdI : I64 (deep - 1) := by unfold I64; omega
 simp (disch := omega) [hx]
 refine Qa gr (by simp) ?_
 simp (disch := omega) [Ql]
 refine Qa wi (by simp) ?_
 simp (disch := omega) [Qf, hdI]
 refine Qp bodyOk hct hk ?_
 rintro r i1 k1 hk1 hr
 obtain ⟨w, cs, rfl, c4', csh, clo, cal, cok⟩ := hr.el
 simp (disch := omega) [c4', csh, cal]
 refine Wb 3 0 (fun j t h => t 16 = N j ∧ HasT D s (ctx.length + 1) (bd (deep - 1) (Wv ty).length) h1 h3 ct [none, some [N 0, N 0, .sl true true 1 [], .sl true true 1 []]] h)
  (fun t h => HasT D s (ctx.length + 1) (bd (deep - 1) (Wv ty).length) h1 h3 ct [none, some [N 0, N 0, .sl true true 1 [], .sl true true 1 []]] h) ⟨by simp, i1, k1, w, cs, hk1, c4', csh, clo, cal, cok, rfl⟩ (by omega) ?_ ?_
 ·clear hr cok cal clo csh c4' hk1
  rintro j t1 hh hf hj ⟨e16, i1, k1, w, cs, hk1, c4', csh, clo, cal, cok, rfl⟩
  have c4t : List.take 4 cs = cs := List.take_of_length_le (Nat.le_of_eq c4')
  (have e0 := hf 0 (by kernel_rfl); have e4 := hf 4 (by kernel_rfl); have e6 := hf 6 (by kernel_rfl); have e11 := hf 11 (by kernel_rfl); have e12 := hf 12 (by kernel_rfl); have e13 := hf 13 (by kernel_rfl); have e14 := hf 14 (by kernel_rfl); have e15 := hf 15 (by kernel_rfl); clear hf; simp [] at e0 e4 e6 e11 e12 e13 e14 e15)
  by_cases h6 : j < 3
  ·have hb : ltB (j : Int) 3 = true := by rw [Qh]; omega
   have nd := Kc hsy false ci cok (by have := bd_max (deep := deep - 1) (n := (Wv ty).length) (by omega) (by omega); simp; omega) 0 (by simp)
   simp only [Int.natCast_zero] at nd
   simp (disch := omega) [e0, e4, e6, e11, e12, e13, e14, e15, e16, hb, c4', csh, cal, c4t]
   refine Qi nd (by simp) ?_
   rintro r ⟨m, rfl, hm⟩
   simp (disch := omega) [e0, e4, e6, e11, e12, e13, e14, e15, e16, hb, c4', csh, cal, c4t]
   refine Qa (XK t hm hg) (by simp) ?_
   cases s.le m (W2 (hd ty))
   ·simp (disch := omega) [e0, e4, e6, e11, e12, e13, e14, e15, e16, hb, c4', csh, cal, c4t, Qf, hdI]
    refine Qp bodyOk hct hk1 ?_
    rintro r i2 k2 hk2 hr
    obtain ⟨w2, cs2, rfl, d4, dsh, dlo, dal, dok⟩ := hr.el
    have c4l : 4 ≤ cs.length := Nat.le_of_eq c4'.symm
    simp (disch := omega) [e0, e4, e6, e11, e12, e13, e14, e15, e16, d4, dsh, dal, c4l]
    have d4t : List.take 4 cs2 = cs2 := List.take_of_length_le (Nat.le_of_eq d4)
    have d4l : 4 ≤ cs2.length := Nat.le_of_eq d4.symm
    have d4d : List.drop 4 cs2 = [] := List.drop_of_length_le (Nat.le_of_eq d4)
    have c4d : List.drop 4 cs = [] := List.drop_of_length_le (Nat.le_of_eq c4')
    by_cases h1' : j = 1
    ·subst h1'
     have hb1 : eqB ((1 : Nat) : Int) 1 = true := by rw [Qd]; rfl
     simp (disch := omega) [e0, e4, e6, e11, e12, e13, e14, e15, e16, d4, dsh, dal, d4t, d4l, c4d, d4d, hb1]
     refine Qa (KU false false _ _ (by omega)) (by simp) ?_
     cases QI ty == Wv ty
     ·simp (disch := omega) [e0, e4, e6, e11, e12, e13, e14, e15, e16, d4, dsh, dal, d4t, d4l, c4d, d4d, hb1, Qf]
      exact ⟨i2, k2, w2, cs2, hk2, d4, dsh, dlo, dal, dok, rfl⟩
     ·simp (disch := omega) [e0, e4, e6, e11, e12, e13, e14, e15, e16, d4, dsh, dal, d4t, d4l, c4d, d4d, hb1, Qf]
      refine Qa (ZaS 0 0 true [] (by simp) (by simp)) (by simp) ?_
      simp (disch := omega) [e0, e4, e6, e11, e12, e13, e14, e15, e16, d4, dsh, dal, d4t, d4l, c4d, d4d, hb1, Qf]
      have vok : TmOk s (ctx.length + 1) (bd (deep - 1) (Wv ty).length) (.mk 0 0 true [] true []) := TmOk.k0 (by omega) (ZoY (by omega)) (by unfold I64; omega) (by simp [Lok]) (by simp [Zn]) (ZiA (QF ob).1)
      exact ⟨i2, k2, _, _, hk2, rfl, by simp [GTerm.cells, Wg], by simp, by simp, vok, rfl⟩
    ·have hb1 : eqB (j : Int) 1 = false := by rw [Qc]; omega
     simp (disch := omega) [e0, e4, e6, e11, e12, e13, e14, e15, e16, d4, dsh, dal, d4t, d4l, c4d, d4d, hb1, Qf]
     exact ⟨by omega, i2, k2, w2, cs2, hk2, d4, dsh, dlo, dal, dok, rfl⟩
   ·simp (disch := omega) [e0, e4, e6, e11, e12, e13, e14, e15, e16, hb, c4', csh, cal, c4t]
    exact ⟨i1, k1, w, cs, hk1, c4', csh, clo, cal, cok, rfl⟩
  ·have hb : ltB (j : Int) 3 = false := by rw [Qg]; omega
   simp (disch := omega) [e0, e4, e6, e11, e12, e13, e14, e15, e16, hb, c4', csh, cal, c4t]
   exact ⟨i1, k1, w, cs, hk1, c4', csh, clo, cal, cok, rfl⟩
 ·clear hr cok cal clo csh c4' hk1
  rintro t1 hh hf ⟨i1, k1, w, cs, hk1, c4', csh, clo, cal, cok, rfl⟩
  (have e10 := hf 10 (by kernel_rfl); have e11 := hf 11 (by kernel_rfl); have e13 := hf 13 (by kernel_rfl); have e15 := hf 15 (by kernel_rfl); clear hf; simp [] at e10 e11 e13 e15)
  have c4t : List.take 4 cs = cs := List.take_of_length_le (Nat.le_of_eq c4')
  simp (disch := omega) [e10, e11, e13, e15, c4', csh, cal, c4t, Ql]
  refine ZR (.inr rfl) (by simp [e10]) rfl rfl hk1 (by simp [clo]) (ZkU (nlT := false) (ty := QI ty) (ks := [w]) (by simp) (by simp) (by simp) (by simp [Qu, csh, Wg]) (by simp [clo]) ?_)
  refine TmOk.k1 (by omega) (Zmd hg oa) (GI h16 hg) (ZG (Yi oa)) (by simp [Zn]) cok ?_ (ZlL (by omega) (by omega))
  have : Qt 9 0 = 1 := by simp [Qt]
  omega
end
end Go.Proofs.YtclfngbealdbgaaGreat
namespace Go.Proofs.YtclfngbealdbgaaGreat
open Go Go.TL
open Go.Proofs.YtclfngbealdbgaaGreat.Ty
set_option linter.unusedSimpArgs false
set_option linter.unusedVariables false
set_option linter.unusedSectionVars false
set_option maxRecDepth 20000
set_option maxHeartbeats 4000000
end Go.Proofs.YtclfngbealdbgaaGreat
namespace Go.Proofs.YtclfngbealdbgaaGreat
open Go Go.TL
open Go.Proofs.YtclfngbealdbgaaGreat.Ty
set_option linter.unusedSimpArgs false
set_option linter.unusedVariables false
set_option linter.unusedSectionVars false
set_option maxRecDepth 20000
set_option maxHeartbeats 4000000
mutual
theorem sk_nm : ∀ (a b : GTerm) (nv : Int), a.nm = b.nm → b.sk nv → a.sk nv
 | .mk op n nl1 ty nl2 ks, .mk op' n' nl1' ty' nl2' ks', nv, h, hs => by
  simp only [GTerm.nm, GTerm.mk.injEq] at h
  obtain ⟨rfl, rfl, _, rfl, _, h⟩ := h
  simp only [GTerm.sk] at hs ⊢
  refine ⟨⟨hs.1.1, hs.1.2.1, hs.1.2.2.1, by rw [Zcy h]; exact hs.1.2.2.2⟩, fun h0 => ?_, sks_nm ks ks' nv _ 0 h hs.2.2⟩
  obtain ⟨q1, q2, q3, q4⟩ := hs.2.1 h0
  refine ⟨q1, q2, ?_, q4⟩
  have := Zcy h
  rw [q3] at this
  exact List.eq_nil_of_length_eq_zero (by simpa using this)
theorem sks_nm : ∀ (a b : List GTerm) (nv op : Int) (k : Nat), nms a = nms b → sks nv op k b → sks nv op k a
 | [], _, _, _, _, _, _ => by simp [sks]
 | _ :: _, [], _, _, _, h, _ => by simp [nms] at h
 | a :: a', b :: b', nv, op, k, h, hw => by
  simp only [nms, List.cons.injEq, sks] at h hw ⊢
  exact ⟨sk_nm a b _ h.1 hw.1, sks_nm a' b' _ _ _ h.2 hw.2⟩
end
end Go.Proofs.YtclfngbealdbgaaGreat
namespace Go.Proofs.YtclfngbealdbgaaGreat
open Go Go.TL
open Go.Proofs.YtclfngbealdbgaaGreat.Ty
set_option linter.unusedSimpArgs false
set_option linter.unusedVariables false
set_option linter.unusedSectionVars false
set_option maxRecDepth 20000
set_option maxHeartbeats 4000000
theorem isD_op1 {s : GSys} {nv m : Nat} {op n : Int} {a : GTerm} (h : TmOk s nv m (.mk op n true [] false [a])) : isD s nv m (.agg [N op, N n, .sl true true 1 [], .sl false false 4 [a.cells]]) := by
 have := Zdx h
 simpa only [Wg] using this
theorem Za2 {s : GSys} {nv m : Nat} {op n : Int} {a b : GTerm} (h : TmOk s nv m (.mk op n true [] false [a, b])) : isD s nv m (.agg [N op, N n, .sl true true 1 [], .sl false false 4 [a.cells, b.cells]]) := by
 have := Zdx h
 simpa only [Wg] using this
theorem Zpi {s : GSys} {nv m : Nat} {op n : Int} {a b c : GTerm} (h : TmOk s nv m (.mk op n true [] false [a, b, c])) : isD s nv m (.agg [N op, N n, .sl true true 1 [], .sl false false 4 [a.cells, b.cells, c.cells]]) := by
 have := Zdx h
 simpa only [Wg] using this
theorem op1_ok (op n : Int) (a : GTerm) : Qe Tryz.prog Wz [N op, N n, .sl false false 4 [a.cells]] (fun r => r = .agg [N op, N n, .sl true true 1 [], .sl false false 4 [a.cells]]) := ZaS op n false [a.cells] (by simp [Qu]) (by simp)
theorem ZbZ (op n : Int) (a b : GTerm) : Qe Tryz.prog Wz [N op, N n, .sl false false 4 [a.cells, b.cells]] (fun r => r = .agg [N op, N n, .sl true true 1 [], .sl false false 4 [a.cells, b.cells]]) := ZaS op n false [a.cells, b.cells] (by simp [Qu]) (by simp)
theorem op3_ok (op n : Int) (a b c : GTerm) : Qe Tryz.prog Wz [N op, N n, .sl false false 4 [a.cells, b.cells, c.cells]] (fun r => r = .agg [N op, N n, .sl true true 1 [], .sl false false 4 [a.cells, b.cells, c.cells]]) := ZaS op n false [a.cells, b.cells, c.cells] (by simp [Qu]) (by simp)
theorem Zae {size : Int} {data : Bool} {n : Nat} {l : List Int} (h : ZhG size data n l) : l.length ≤ n := by
 obtain ⟨t, _, _, _, h4⟩ := h
 exact h4
theorem Zno : ∀ x : LV, share x ≠ .dead → x.alive = true
 | .sc _, _ => rfl
 | .sl .., _ => rfl
 | .ha .., _ => rfl
 | .raw _, h => by simp [share] at h
 | .ptr .., _ => rfl
 | .rp _, _ => rfl
 | .fn .., _ => rfl
 | .fnm .., _ => rfl
 | .agg _, _ => rfl
 | .tup _, _ => rfl
 | .dead, h => by simp [share] at h
 | .both u t, h => by
  simp only [share] at h
  have := Zno t h
  simp only [LV.alive, this, Bool.true_and]
  cases t <;> simp_all [share]
theorem Zbd : ∀ xs : List LV, (∀ y ∈ shareAll xs, y ≠ .dead) → Wu xs = true
 | [], _ => rfl
 | x :: xs, h => by
  simp only [shareAll, List.mem_cons, forall_eq_or_imp] at h
  simp only [Wu, Zno x h.1, Zbd xs h.2, Bool.and_self]
theorem ZaG {cs : List LV} {w : GTerm} (h : shareAll cs = w.cells) : Wu cs = true := by
 refine Zbd cs fun y hy => ?_
 rw [h] at hy
 obtain ⟨op, n, nl1, ty, nl2, ks⟩ := w
 simp only [GTerm.cells, List.mem_cons, List.not_mem_nil, or_false] at hy
 rcases hy with rfl | rfl | rfl | rfl <;> simp
mutual
theorem ZgW {size : Int} {closed : Bool} : ∀ (g : GTerm) (nv : Int), g.wf → Xr nv size closed g = true → g.sk nv
  | .mk op n nl1 ty nl2 ks, nv, hw, hf => by
    simp only [Xr, Y0, Bool.and_eq_true] at hf
    simp only [GTerm.wf] at hw
    obtain ⟨⟨f1, f2, f3⟩, f4⟩ := hf
    rw [Qd] at f1
    simp only [GTerm.sk]
    refine ⟨⟨hw.1, hw.2.1, hw.2.2.1, ?_⟩, fun h0 => ?_, Znu ks nv op 0 hw.2.2.2.2 f4⟩
    · have : YG op ≤ 3 := by (unfold YG; repeat' split) <;> omega
      omega
    · subst h0
      simp [ZcM, eqB, QM] at f2
      have f1' : ks = [] := by
        simp [YG] at f1
        exact f1
      have f3' : ty = [] := by
        simp [tyB, Xw, eqB] at f3
        exact f3
      exact ⟨f2.1, f2.2, f1', f3'⟩
theorem Znu {size : Int} {closed : Bool} : ∀ (ks : List GTerm) (nv op : Int) (k : Nat), wfs ks → Xj nv size closed op k ks = true → sks nv op k ks
 | [], _, _, _, _, _ => by simp [sks]
 | t :: ts, nv, op, k, hw, hf => by
  simp only [Xj, Bool.and_eq_true] at hf
  simp only [wfs] at hw
  simp only [sks]
  exact ⟨ZgW t _ hw.1 hf.1, Znu ts nv op (k + 1) hw.2 hf.2⟩
end
theorem Zp6 {s : GSys} {nv m : Nat} {w : GTerm} {r : LV} (hw : TmOk s nv m w) (h : isTF (shG 1 0 w) r) (lo : Low 0 r) (hb : nv + 2 * m ≤ 100000) : isD s (nv + 1) m r := by
 obtain ⟨v, cs, rfl, h2, h3, h4⟩ := h
 have sz := hw.size
 have k1 := ZgW w nv hw.wf hw.form
 have k2 := sk_sh (bw := 1) (by omega) w nv 0 (by omega) (by omega) k1
 have k3 := sk_nm v _ _ h3 k2
 have e1 := Zo5 (size := s.size) (bw := 1) (by omega) w nv 0 (by omega) (by omega)
 refine ⟨v, cs, rfl, h2, by simpa using lo, ZaG h2, sk_wf _ _ k3, h4, ?_, ?_⟩
 ·rw [← Zaz v, h3, Zaz, show ((nv + 1 : Nat) : Int) = (nv : Int) + 1 by omega, e1]
  exact hw.form
 ·rw [← ZaP v, h3, ZaP, Zmj]
  exact sz
section
variable (D : Dr) (ok : D.ok)
include ok
theorem Zoq {s : GSys} (hsy : s.sys = true) {f : Nat} (H : DOf D s f) (nlc : Bool) (ctx : Wk) (ty : List Int) (deep : Int) (hc : Yx s ctx) (hf : ctx.length + 2 * (f + 1) ≤ 1000) (hty : okL s.size ty = true) (hd0 : 0 ≤ deep)
  (hm : 41 * deep.toNat + 41 ≤ f) (hd4 : deep ≤ 3) :
  Wc Tryz.prog D Vt [s.lv, LC nlc ctx, L false ty, N deep] (isD s ctx.length (3 * T0 deep.toNat + 6)) := by
 have t := GSys.sys_of hsy
 have h16 := t.hi
 have h40 := QF hty
 have hT := T0_ge deep.toNat
 have Ha : ∀ (nl : Bool) (cx : Wk) (l : List Int), Yx s cx → cx.length ≤ ctx.length + 2 → okL s.size l = true → Wc Tryz.prog D QS [s.lv, LC nl cx, L false l, N deep] (isD s cx.length (T0 deep.toNat)) := fun nl cx l h1 h2 h3 => by
  have h4 := QF h3
  exact (H nl cx l deep h1 (by omega) h3 (by omega) (by omega) (by omega)).mono fun r h => h.mono (Zkw h4.2)
 have Hb : ∀ (nl : Bool) (cx : Wk) (l : List Int), Yx s cx → cx.length ≤ ctx.length + 2 → okL s.size l = true → Wc Tryz.prog D QS [s.lv, LC nl cx, L false l, N (deep - 1)] (isD s cx.length (T0 deep.toNat)) := fun nl cx l h1 h2 h3 => by
  have h4 := QF h3
  exact (H nl cx l (deep - 1) h1 (by omega) h3 (by omega) (by omega) (by omega)).mono fun r h => h.mono (Nat.le_trans (Zkw h4.2) (Zll (by omega)))
 have hs : 1 ≤ s.size ∧ s.size ≤ 16 := ⟨by have := t.lo; omega, h16⟩
 have lc : ctx.length ≤ 1000000 := by omega
 have hTm : T0 deep.toNat ≤ 1158 := Zll (d := deep.toNat) (e := 3) (by omega)
 have o0 : okL s.size [0] = true := ZgU s.size
 refine Wc.of_codeOf Zh1 QA (by simp) (ZhU (by omega)) ?_
 intro h1 h3 ct i k hct hk
 have hdI : I64 (deep - 1) := by unfold I64; omega
 simp (disch := omega) [ZbR, Qw, Qs, Ql]
 refine Qp (WP D ok 6 (by unfold I64; omega)) hct hk ?_
 rintro r i0 k0 hk0 ⟨m, rfl, hm0, hm1, _⟩
 simp (disch := omega)
 (with_reducible first | refine Qo (fun q0 => ?_) (fun q0 => ?_) | refine Qn (fun q0 => ?_) (fun q0 => ?_))
 ·
  simp (disch := omega)
  refine Qp (Ha nlc ctx [0] hc (by omega) o0) hct hk0 ?_
  rintro r i1 k1 hk1 hr
  obtain ⟨w1, cs1, rfl, a4, ash, alo, aal, aok⟩ := hr.el
  simp (disch := omega)
  refine Qp (Ha nlc ctx ty hc (by omega) hty) hct hk1 ?_
  rintro r i2 k2 hk2 hr
  obtain ⟨w2, cs2, rfl, b4, bsh, blo, bal, bok⟩ := hr.el
  simp (disch := omega)
  refine Qp (Ha nlc ctx ty hc (by omega) hty) hct hk2 ?_
  rintro r i3 k3 hk3 hr
  obtain ⟨w3, cs3, rfl, c4, csh, clo, cal, cok⟩ := hr.el
  have l1 := cells_length w1; have l2 := cells_length w2; have l3 := cells_length w3
  simp (disch := omega) [a4, b4, c4, ash, bsh, csh, aal, bal, cal, List.take_append, List.drop_append, List.take_of_length_le, List.drop_of_length_le, Ql, Qu]
  refine Qa (op3_ok 3 0 w1 w2 w3) (by simp) ?_
  simp (disch := omega)
  refine ZR (.inr rfl) (by simp) rfl rfl hk3 (by simp) (Zpi ?_)
  refine TmOk.k3 (by omega) (Zhg (by simp)) (by unfold I64; omega) (by simp [Lok]) (by simp [Zn]) aok (by simp [Qt]) bok (by simp [Qt]) cok (by simp [Qt]) (by omega)
 simp (disch := omega)
 (with_reducible first | refine Qo (fun q1 => ?_) (fun q1 => ?_) | refine Qn (fun q1 => ?_) (fun q1 => ?_))
 ·
  simp (disch := omega)
  refine Qp (Y8 D ok 2 (by unfold I64; omega)) hct hk0 ?_
  rintro r i1 k1 hk1 ⟨dt, rfl⟩
  simp (disch := omega)
  refine Qp (Zl D ok s hs dt 1 (by omega)) hct hk1 ?_
  rintro r i2 k2 hk2 ⟨la, rfl, hla⟩
  have oa := Zo hla (by omega)
  have na : la.length ≤ 3 := Zae hla
  simp (disch := omega)
  refine Qp (Zl D ok s hs true 1 (by omega)) hct hk2 ?_
  rintro r i3 k3 hk3 ⟨lb, rfl, hlb⟩
  have ob := Zo hlb (by omega)
  have nb : lb.length ≤ 3 := Zae hlb
  have ci : Yx s ((false, lb) :: (false, la) :: ctx) := (Yx.two ob oa).app hc
  have og : okL s.size (1 :: (la ++ lb)) = true := Zay oa ob Xo.1 Zeg.1 (by simp; omega)
  have gl2 := YR 1 false false false la lb (by omega) (by omega)
  obtain ⟨gl, hgl⟩ : ∃ gl, 1 :: (la ++ lb) = gl := ⟨_, rfl⟩
  rw [hgl] at og gl2
  simp (disch := omega) [Ql]
  refine Qa (YD nlc false ctx [(false, lb), (false, la)] lc (by simp)) (by simp) ?_
  simp (disch := omega)
  refine Qp (Ha false ((false, lb) :: (false, la) :: ctx) ty ci (by simp) hty) hct hk3 ?_
  rintro r i4 k4 hk4 hr
  obtain ⟨w1, cs1, rfl, a4, ash, alo, aal, aok⟩ := hr.el
  have n0 := Kc hsy false ci aok (by simp; omega) 0 (by simp)
  have n1 := Kc hsy false ci aok (by simp; omega) 1 (by simp)
  simp only [Int.natCast_zero, Int.natCast_one] at n0 n1
  simp (disch := omega) [a4, ash, aal, List.take_of_length_le, Qs]
  refine Qi n0 (by simp) ?_
  rintro r ⟨m0, rfl, hm0⟩
  simp (disch := omega) [a4, ash, aal, List.take_of_length_le]
  refine Qi n1 (by simp) ?_
  rintro r ⟨m1, rfl, hm1⟩
  have j0 := Zee hsy hm0 hm1
  have j1 := Zee hsy (GSys.G1 t) j0
  simp (disch := omega)
  refine Qa (KP t hm0 hm1) (by simp) ?_
  simp (disch := omega)
  refine Qa (KP t (GSys.G1 t) j0) (by simp) ?_
  simp (disch := omega)
  refine Qp (Zal D ok t _ j1) hct hk4 ?_
  rintro r i5 k5 hk5 ⟨g, rfl, hg⟩
  simp (disch := omega) [Ql]
  refine Qa gl2 (by simp) ?_
  simp (disch := omega)
  refine Qp (Ha nlc ctx _ hc (by omega) og) hct hk5 ?_
  rintro r i6 k6 hk6 hr
  obtain ⟨w2, cs2, rfl, b4, bsh, blo, bal, bok⟩ := hr.el
  simp (disch := omega) [a4, b4, ash, bsh, aal, bal, List.take_append, List.drop_append, List.take_of_length_le, List.drop_of_length_le, Ql, Qu]
  refine Qa (ZbZ 5 g w2 w1) (by simp) ?_
  simp (disch := omega)
  refine ZR (.inr rfl) (by simp) rfl rfl hk6 (by simp) (Za2 ?_)
  refine TmOk.k2 (by omega) (Zls hg (by simp)) (GI h16 hg) (by simp [Lok]) (by simp [Zn]) bok (by simp [Qt]) aok (by simp [Qt]; omega) (by omega)
 simp (disch := omega)
 (with_reducible first | refine Qo (fun q2 => ?_) (fun q2 => ?_) | refine Qn (fun q2 => ?_) (fun q2 => ?_))
 ·
  simp (disch := omega)
  refine Qp (Zl D ok s hs true 1 (by omega)) hct hk0 ?_
  rintro r i2 k2 hk2 ⟨la, rfl, hla⟩
  have oa := Zo hla (by omega)
  have na : la.length ≤ 3 := Zae hla
  simp (disch := omega)
  refine Qp (Zl D ok s hs true 1 (by omega)) hct hk2 ?_
  rintro r i3 k3 hk3 ⟨lb, rfl, hlb⟩
  have ob := Zo hlb (by omega)
  have nb : lb.length ≤ 3 := Zae hlb
  have cia : Yx s ((false, la) :: ctx) := (Yx.one oa).app hc
  have cib : Yx s ((false, lb) :: ctx) := (Yx.one ob).app hc
  have og : okL s.size (2 :: (la ++ lb)) = true := Zay oa ob Xo.2 Zeg.2 (by simp; omega)
  have gl2 := YR 2 false false false la lb (by omega) (by omega)
  obtain ⟨gl, hgl⟩ : ∃ gl, 2 :: (la ++ lb) = gl := ⟨_, rfl⟩
  rw [hgl] at og gl2
  simp (disch := omega) [Ql]
  refine Qa (YD nlc false ctx [(false, la)] lc (by simp)) (by simp) ?_
  simp (disch := omega) [Ql]
  refine Qa (YD nlc false ctx [(false, lb)] lc (by simp)) (by simp) ?_
  simp (disch := omega)
  refine Qp (Ha false ((false, la) :: ctx) ty cia (by simp) hty) hct hk3 ?_
  rintro r i4 k4 hk4 hr
  obtain ⟨w1, cs1, rfl, a4, ash, alo, aal, aok⟩ := hr.el
  simp (disch := omega) [a4, ash, aal, List.take_of_length_le, Qs]
  refine Qp (Ha false ((false, lb) :: ctx) ty cib (by simp) hty) hct hk4 ?_
  rintro r i5 k5 hk5 hr
  obtain ⟨w2, cs2, rfl, b4, bsh, blo, bal, bok⟩ := hr.el
  have n0 := Kc hsy false cia aok (by simp; omega) 0 (by simp)
  have n1 := Kc hsy false cib bok (by simp; omega) 0 (by simp)
  simp only [Int.natCast_zero] at n0 n1
  simp (disch := omega) [a4, ash, aal, b4, bsh, bal, List.take_of_length_le, Qs]
  refine Qi n0 (by simp) ?_
  rintro r ⟨m0, rfl, hm0⟩
  simp (disch := omega) [a4, ash, aal, b4, bsh, bal, List.take_of_length_le]
  refine Qi n1 (by simp) ?_
  rintro r ⟨m1, rfl, hm1⟩
  have j0 := Zee hsy hm0 hm1
  have j1 := Zee hsy (GSys.G1 t) j0
  simp (disch := omega)
  refine Qa (KP t hm0 hm1) (by simp) ?_
  simp (disch := omega)
  refine Qa (KP t (GSys.G1 t) j0) (by simp) ?_
  simp (disch := omega)
  refine Qp (Zal D ok t _ j1) hct hk5 ?_
  rintro r i6 k6 hk6 ⟨g, rfl, hg⟩
  simp (disch := omega) [Ql]
  refine Qa gl2 (by simp) ?_
  simp (disch := omega)
  refine Qp (Ha nlc ctx _ hc (by omega) og) hct hk6 ?_
  rintro r i7 k7 hk7 hr
  obtain ⟨w3, cs3, rfl, c4, csh, clo, cal, cok⟩ := hr.el
  have l1 := cells_length w1; have l2 := cells_length w2; have l3 := cells_length w3
  simp (disch := omega) [a4, b4, c4, ash, bsh, csh, aal, bal, cal, List.take_append, List.drop_append, List.take_of_length_le, List.drop_of_length_le, Ql, Qu]
  refine Qa (op3_ok 8 g w3 w1 w2) (by simp) ?_
  simp (disch := omega)
  refine ZR (.inr rfl) (by simp) rfl rfl hk7 (by simp) (Zpi ?_)
  refine TmOk.k3 (by omega) (Zls hg (by simp)) (GI h16 hg) (by simp [Lok]) (by simp [Zn]) cok (by simp [Qt]) aok (by simp [Qt]) bok (by simp [Qt]) (by omega)
 simp (disch := omega)
 (with_reducible first | refine Qo (fun q3 => ?_) (fun q3 => ?_) | refine Qn (fun q3 => ?_) (fun q3 => ?_))
 ·
  simp (disch := omega)
  refine Qp (Y8 D ok 2 (by unfold I64; omega)) hct hk0 ?_
  rintro r i1 k1 hk1 ⟨dt, rfl⟩
  simp (disch := omega)
  refine Qp (Zl D ok s hs dt 1 (by omega)) hct hk1 ?_
  rintro r i2 k2 hk2 ⟨la, rfl, hla⟩
  have oa := Zo hla (by omega)
  have na : la.length ≤ 3 := Zae hla
  have cia : Yx s ((false, la) :: ctx) := (Yx.one oa).app hc
  simp (disch := omega) [Ql]
  refine Qa (YD nlc false ctx [(false, la)] lc (by simp)) (by simp) ?_
  simp (disch := omega)
  refine Qp (Ha false ((false, la) :: ctx) ty cia (by simp) hty) hct hk2 ?_
  rintro r i4 k4 hk4 hr
  obtain ⟨w1, cs1, rfl, a4, ash, alo, aal, aok⟩ := hr.el
  have n0 := Kc hsy false cia aok (by simp; omega) 0 (by simp)
  simp only [Int.natCast_zero] at n0
  simp (disch := omega) [a4, ash, aal, List.take_of_length_le, Qs]
  refine Qi n0 (by simp) ?_
  rintro r ⟨m0, rfl, hm0⟩
  simp (disch := omega)
  refine Qp (Zal D ok t _ hm0) hct hk4 ?_
  rintro r i6 k6 hk6 ⟨g, rfl, hg⟩
  obtain ⟨b1, b2, b3, b4'⟩ := ZnD hg.1 hg.2 h16
  have og : okL s.size ((19 + g) :: la) = true := Zo4 oa b4' b3 (by simp; omega)
  have gl1 := Zd5 (19 + g) false false la (by omega)
  have g0 := hg.1; have g1 := hg.2
  obtain ⟨gl, hgl⟩ : ∃ gl, (19 + g) :: la = gl := ⟨_, rfl⟩
  rw [hgl] at og gl1
  simp (disch := omega) [Ql, Qf]
  refine Qa gl1 (by simp) ?_
  simp (disch := omega)
  refine Qp (Ha nlc ctx _ hc (by omega) og) hct hk6 ?_
  rintro r i7 k7 hk7 hr
  obtain ⟨w3, cs3, rfl, c4, csh, clo, cal, cok⟩ := hr.el
  simp (disch := omega) [a4, c4, ash, csh, aal, cal, List.take_append, List.drop_append, List.take_of_length_le, List.drop_of_length_le, Ql, Qu]
  refine Qa (ZbZ 12 1 w3 w1) (by simp) ?_
  simp (disch := omega)
  refine ZR (.inr rfl) (by simp) rfl rfl hk7 (by simp) (Za2 ?_)
  refine TmOk.k2 (by omega) (Zls (GSys.G1 t) (by simp)) (by unfold I64; omega) (by simp [Lok]) (by simp [Zn]) cok (by simp [Qt]) aok (by simp [Qt]) (by omega)
 simp (disch := omega)
 refine Qp (Y8 D ok 2 (by unfold I64; omega)) hct hk0 ?_
 rintro r i1 k1 hk1 ⟨dt, rfl⟩
 simp (disch := omega)
 refine Qp (Zl D ok s hs dt 2 (by omega)) hct hk1 ?_
 rintro r i2 k2 hk2 ⟨la, rfl, hla⟩
 have oa := Zo hla (by omega)
 have na : la.length ≤ 7 := Zae hla
 have cia : Yx s ((false, la) :: ctx) := (Yx.one oa).app hc
 simp (disch := omega) [Ql]
 refine Qa (YD nlc false ctx [(false, la)] lc (by simp)) (by simp) ?_
 simp (disch := omega)
 refine Qp (Ha false ((false, la) :: ctx) ty cia (by simp) hty) hct hk2 ?_
 rintro r i4 k4 hk4 hr
 obtain ⟨w1, cs1, rfl, a4, ash, alo, aal, aok⟩ := hr.el
 have n0 := Kc hsy false cia aok (by simp; omega) 0 (by simp)
 simp only [Int.natCast_zero] at n0
 simp (disch := omega) [a4, ash, aal, List.take_of_length_le, Qs]
 refine Qi n0 (by simp) ?_
 rintro r ⟨m0, rfl, hm0'⟩
 simp (disch := omega)
 refine Qp (Zal D ok t _ hm0') hct hk4 ?_
 rintro r i6 k6 hk6 ⟨g, rfl, hg⟩
 have g0 := hg.1; have g1 := hg.2
 have l1 := cells_length w1
 obtain ⟨b1, b2, b3, b4'⟩ := ZhP g0 g1 h16
 have gl2 := YR (3 + g) false false false la ty (by omega) (by omega)
 have fok : TmOk s ctx.length (T0 deep.toNat + 1) (.mk 9 g false la false [w1]) := TmOk.k1 (by omega) (Zmd hg oa) (GI h16 hg) (ZG (Yi oa)) (by simp [Zn]) aok (by simp [Qt]) (by omega)
 simp (disch := omega) [a4, ash, aal, List.take_append, List.drop_append, List.take_of_length_le, List.drop_of_length_le, Ql, Qu, Qs]
 refine Qp (Y8 D ok 4 (by unfold I64; omega)) hct hk6 ?_
 rintro r i7 k7 hk7 ⟨b, rfl⟩
 cases b
 ·simp (disch := omega) [Qf]
  refine Qp (Hb nlc ctx la hc (by omega) oa) hct hk7 ?_
  rintro r i8 k8 hk8 hr
  obtain ⟨w3, cs3, rfl, c4, csh, clo, cal, cok⟩ := hr.el
  have l3 := cells_length w3
  have op := ZbZ 10 0 (.mk 9 g false la false [w1]) w3
  have fin : isD s ctx.length (3 * T0 deep.toNat + 6) (.agg [N 10, N 0, .sl true true 1 [], .sl false false 4 [GTerm.cells (.mk 9 g false la false [w1]), w3.cells]]) := Za2 (TmOk.k2 (by omega) (Zhg (by simp)) (by unfold I64; omega) (by simp [Lok]) (by simp [Zn]) fok (by simp [Qt]) cok (by simp [Qt]) (by omega))
  simp only [GTerm.cells, Wg] at op fin
  simp (disch := omega) [a4, c4, ash, csh, aal, cal, List.take_append, List.drop_append, List.take_of_length_le, List.drop_of_length_le, Ql, Qu]
  refine Qa op (by simp) ?_
  simp (disch := omega)
  exact ZR (.inr rfl) (by simp) rfl rfl hk8 (by simp) fin
 ·have vI : I64 (3 + g) := by unfold I64; omega
  simp (disch := omega) [Qf]
  obtain ⟨way, hway⟩ : ∃ l, (3 + g) :: (la ++ ty) = l := ⟨_, rfl⟩
  rw [hway] at gl2
  refine Qa gl2 (by simp) ?_
  simp (disch := omega)
  by_cases hwl : way.length < 12
  ·have hb : ltB (way.length : Int) 12 = true := by rw [Qh]; omega
   have ow : okL s.size way = true := by rw [← hway]; exact Zay oa hty b4' b3 (by rw [hway]; omega)
   simp (disch := omega) [hb]
   refine Qa (ZaS 0 0 true [] (by simp) (by simp)) (by simp) ?_
   simp (disch := omega) [Qf]
   refine Qp (Hb nlc ctx la hc (by omega) oa) hct hk7 ?_
   rintro r i8 k8 hk8 hr
   obtain ⟨w3, cs3, rfl, c4, csh, clo, cal, cok⟩ := hr.el
   have l3 := cells_length w3
   have csz := cok.size
   have sh := ZfX 1 (by omega) w3.size w3 ctx.length 0 (Nat.le_refl _) (ZgW w3 _ cok.wf cok.form) (by omega) (by omega) (by omega) (by omega)
   simp (disch := omega) [c4, csh, cal, List.take_of_length_le]
   refine Qi (Qe.low sh) (by simp) ?_
   rintro r ⟨hr2, lo2⟩
   obtain ⟨w4, cs4, rfl, d4, dsh, dlo, dal, dok⟩ := (Zp6 cok hr2 lo2 (by omega)).el
   have l4 := cells_length w4
   have op := ZbZ 10 0 (.mk 0 0 true [] true []) w4
   have cak : TmOk s (ctx.length + 1) (T0 deep.toNat + 2) (.mk 10 0 true [] false [.mk 0 0 true [] true [], w4]) := TmOk.k2 (by omega) (Zhg (by simp)) (by unfold I64; omega) (by simp [Lok]) (by simp [Zn])
    (TmOk.k0 (nv := ctx.length + 1) (m := 1) (by omega) (ZoY (by omega)) (by unfold I64; omega) (by simp [Lok]) (by simp [Zn]) (by omega)) (by simp [Qt]) dok (by simp [Qt]) (by omega)
   have lamk : TmOk s ctx.length (T0 deep.toNat + 3) (.mk 9 1 false way false [.mk 10 0 true [] false [.mk 0 0 true [] true [], w4]]) := TmOk.k1 (by omega) (Zmd (GSys.G1 t) ow) (by unfold I64; omega) (ZG (Yi ow)) (by simp [Zn]) cak (by simp [Qt]) (by omega)
   have op' := ZbZ 10 0 (.mk 9 1 false way false [.mk 10 0 true [] false [.mk 0 0 true [] true [], w4]]) (.mk 9 g false la false [w1])
   have fin : isD s ctx.length (3 * T0 deep.toNat + 6) (.agg [N 10, N 0, .sl true true 1 [], .sl false false 4 [GTerm.cells (.mk 9 1 false way false [.mk 10 0 true [] false [.mk 0 0 true [] true [], w4]]), GTerm.cells (.mk 9 g false la false [w1])]]) :=
    Za2 (TmOk.k2 (by omega) (Zhg (by simp)) (by unfold I64; omega) (by simp [Lok]) (by simp [Zn]) lamk (by simp [Qt]) fok (by simp [Qt]) (by omega))
   simp only [GTerm.cells, Wg] at op op' fin
   simp (disch := omega) [d4, dsh, dal, List.take_append, List.drop_append, List.take_of_length_le, List.drop_of_length_le, Ql, Qu, Qs]
   refine Qa op (by simp) ?_
   simp (disch := omega) [Ql, Qu, Qs]
   refine Qa op' (by simp) ?_
   simp (disch := omega)
   exact ZR (.inr rfl) (by simp) rfl rfl hk8 (by simp) fin
  ·have hb : ltB (way.length : Int) 12 = false := by rw [Qg]; omega
   simp (disch := omega) [hb, Qf]
   refine Qp (Hb nlc ctx la hc (by omega) oa) hct hk7 ?_
   rintro r i8 k8 hk8 hr
   obtain ⟨w3, cs3, rfl, c4, csh, clo, cal, cok⟩ := hr.el
   have l3 := cells_length w3
   have op := ZbZ 10 0 (.mk 9 g false la false [w1]) w3
   have fin : isD s ctx.length (3 * T0 deep.toNat + 6) (.agg [N 10, N 0, .sl true true 1 [], .sl false false 4 [GTerm.cells (.mk 9 g false la false [w1]), w3.cells]]) := Za2 (TmOk.k2 (by omega) (Zhg (by simp)) (by unfold I64; omega) (by simp [Lok]) (by simp [Zn]) fok (by simp [Qt]) cok (by simp [Qt]) (by omega))
   simp only [GTerm.cells, Wg] at op fin
   simp (disch := omega) [a4, c4, ash, csh, aal, cal, List.take_append, List.drop_append, List.take_of_length_le, List.drop_of_length_le, Ql, Qu]
   refine Qa op (by simp) ?_
   simp (disch := omega)
   exact ZR (.inr rfl) (by simp) rfl rfl hk8 (by simp) fin
end
end Go.Proofs.YtclfngbealdbgaaGreat
namespace Go.Proofs.YtclfngbealdbgaaGreat
open Go Go.TL
open Go.Proofs.YtclfngbealdbgaaGreat.Ty
set_option linter.unusedSimpArgs false
set_option linter.unusedVariables false
set_option linter.unusedSectionVars false
set_option maxRecDepth 20000
set_option maxHeartbeats 4000000
def KW (z : Nat) (Qk : List (List LV)) : LV := if Qk.isEmpty = true then .sl true true z [] else .sl true false 4 Qk
theorem KW_app {z : Nat} {Qk : List (List LV)} {r : List LV} (h : Qk.length < 1099511627776) : WF 4 (KW z Qk) (.sl true false 4 [r]) = some (KW z (Qk ++ [r])) := by
 cases Qk with
 | nil => simp [KW, WF, most]
 | cons a l =>
  simp only [KW, List.isEmpty_cons, Bool.false_eq_true, if_false, List.cons_append, WF]
  rw [if_pos ⟨.inl trivial, .inl trivial, .inl trivial, by simp [most] at h ⊢; omega⟩]
  simp
theorem KW_flat (z : Nat) (ks : List (List LV)) : (KW z ks).flat = true := by unfold KW; split <;> rfl
theorem KW_cells (z : Nat) (ks : List (List LV)) : (KW z ks).cells = [KW z ks] := by unfold KW; split <;> rfl
theorem Zm3 (z : Nat) (ks : List (List LV)) : (KW z ks).alive = true := by unfold KW; split <;> rfl
theorem KW_nz (z : Nat) (ks : List (List LV)) : nz (KW z ks) = nz (.sl true ks.isEmpty 4 ks) := by
 cases ks with
 | nil => simp [KW, nz]
 | cons a l => simp [KW]
theorem KW_low {z : Nat} {ks : List (List LV)} (h : Ws 0 ks) : Low 0 (KW z ks) := by unfold KW; split <;> simp [h]
theorem isTz_mkz {z : Nat} {op n : Int} {f1 f2 : Bool} {ty : List Int} {K ws : List GTerm} {Qk : List (List LV)} {T : LV} {nlT : Bool} (h : Qu Qk = Wg ws) (hn : nms ws = nms K) (hT : share T = L nlT ty) (lT : Low 0 T) (lo : Ws 0 Qk) (hf : Zn nlT ty) (hfw : fls ws) : isTz (.mk op n f1 ty f2 K) (.agg [N op, N n, T, KW z Qk]) := by
 refine ⟨.agg [N op, N n, T, .sl true Qk.isEmpty 4 Qk], by simp [nz, ZU, KW_nz], ⟨.mk op n nlT ty Qk.isEmpty ws, _, rfl, ?_, ?_, ?_⟩, by simp [lT, lo]⟩
 ·simp only [shareAll, share, hT, h, GTerm.cells]
 ·simp only [GTerm.nm, hn]
  rw [← ZcF ws, hn, ZcF]
 ·simp only [GTerm.fl]
  exact ⟨hf, hfw⟩
theorem Zne (d : Nat) : ∀ (g : GTerm), g.size ≤ d → g.wf → g.fl → Qe Tryz.prog ZY [g.lv] (isTF g) := by
 induction d with
 | zero => intro g h; have := g.size_pos; omega
 | succ d ih =>
  rintro ⟨op, n, nl1, gty, nl2, ks⟩ hd hw hfl
  simp only [GTerm.wf] at hw
  obtain ⟨hop, hn, hty, hk, hks⟩ := hw
  simp only [GTerm.fl] at hfl
  obtain ⟨fl1, flk⟩ := hfl
  simp only [GTerm.size] at hd
  have hgl := hty.1
  simp only [GTerm.lv, GTerm.cells]
  refine Qe.ofTz (Qe.of_codeOf ZgA QA (by simp) (Zpm _) ?_)
  have CL := Zcr nl1 gty (by omega)
  obtain ⟨T, hT, shT, loT, alT, flT⟩ : ∃ T, cl nl1 gty = T ∧ share T = L nl1 gty ∧ Low 0 T ∧ T.alive = true ∧ (T.flat = true ∧ T.cells = [T]) := by
   refine ⟨_, rfl, ?_⟩
   unfold cl
   split
   ·rename_i h; rw [fl1 h, h]; simp [LV.flat, LV.cells]
   ·rename_i h; simp at h; subst h; simp [LV.flat, LV.cells]
  rw [hT] at CL
  simp (disch := omega) [Zbf, Qw, Qs]
  refine Qa CL (by simp) ?_
  simp (disch := omega) [shT, alT, flT]
  refine Wb ks.length 0 (fun i t h => t 17 = N i ∧ ∃ Qk ws tl, h = none :: some [N 0, N 0, .sl true true 1 [], .sl true true 1 []] :: some [N op, N n, T, KW 0 Qk] :: tl ∧ Qu Qk = Wg ws ∧ Ws 0 Qk ∧ nms ws = nms (ks.take i) ∧ fls ws)
   (fun t h => ∃ Qk ws tl, h = none :: some [N 0, N 0, .sl true true 1 [], .sl true true 1 []] :: some [N op, N n, T, KW 0 Qk] :: tl ∧ Qu Qk = Wg ws ∧ Ws 0 Qk ∧ nms ws = nms ks ∧ fls ws) ⟨by simp, [], [], [], by simp [KW], by simp [Wg, Qu], by simp, by simp, by simp [fls]⟩ (by omega) ?_ ?_
  ·rintro i t2 hh hf2 hi ⟨e17, Qk, ws, tl, rfl, hsh, hlo, hnm, hfw⟩
   (have e1 := hf2 1 (by kernel_rfl); have e2 := hf2 2 (by kernel_rfl); have e3 := hf2 3 (by kernel_rfl); have e15 := hf2 15 (by kernel_rfl); have e16 := hf2 16 (by kernel_rfl); clear hf2; simp [] at e1 e2 e3 e15 e16)
   by_cases h6 : i < ks.length
   ·have hb : ltB (i : Int) ks.length = true := by rw [Qh]; omega
    have hsk := Zd h6
    have recu := ih ks[i] (by omega) ((ZaR.1 hks) _ (List.getElem_mem h6)) ((VI.1 flk) _ (List.getElem_mem h6))
    have hix := ZhC ks false nl2 i h6
    have hwl : ws.length = i := by
     have := Zcy hnm
     rw [this, List.length_take]; omega
    have hrl : Qk.length = i := by rw [← Xa, hsh, ZcW, hwl]
    have hal := Zm3 0 Qk
    simp (disch := omega) [e1, e2, e3, e15, e16, e17, hb, hix, hal]
    refine Qi (Qe.low recu) (by simp) ?_
    rintro r2 ⟨⟨w, cs, rfl, hcs2, hwn, hwf⟩, lo2⟩
    obtain ⟨c0, c1, c2, c3, rfl⟩ := len4 (cs := cs) (by rw [← WW, hcs2]; simp)
    have ap := KW_app (z := 0) (Qk := Qk) (r := [c0, c1, c2, c3]) (by omega)
    have hfl2 := KW_flat 0 (Qk ++ [[c0, c1, c2, c3]])
    have hce2 := KW_cells 0 (Qk ++ [[c0, c1, c2, c3]])
    simp (disch := omega) [e1, e2, e3, e15, e16, e17, Ql, ap, h6, Qf, hfl2, hce2]
    refine ⟨_, rfl, ws ++ [w], ?_, ?_, ?_, VI.2 fun k hk => ?_⟩
    ·rw [Zf2, ← hsh, ← hcs2]; simp [YU, X9]
    ·simp at lo2; simp [hlo, lo2]
    ·rw [Ze6, hnm, List.take_succ_eq_append_getElem h6, Ze6, hwn]
    ·rcases List.mem_append.1 hk with hk | hk
     ·exact VI.1 hfw k hk
     ·simp at hk; subst hk; exact hwf
   ·have hb : ltB (i : Int) ks.length = false := by rw [Qg]; omega
    have e := List.take_of_length_le (l := ks) (i := i) (by omega)
    rw [e] at hnm
    simp (disch := omega) [e16, e17, hb]
    exact ⟨Qk, rfl, ws, hsh, hlo, hnm, hfw⟩
  ·rintro t2 hh hf2 ⟨Qk, ws, tl, rfl, hsh, hlo, hnm, hfw⟩
   (have e2 := hf2 2 (by kernel_rfl); have e3 := hf2 3 (by kernel_rfl); clear hf2; simp [] at e2 e3)
   have hal := Zm3 0 Qk
   simp (disch := omega) [e2, e3, hal, alT]
   exact ⟨⟨loT, KW_low hlo⟩, isTz_mkz hsh hnm (nlT := nl1) shT loT hlo fl1 hfw⟩
end Go.Proofs.YtclfngbealdbgaaGreat
namespace Go.Proofs.YtclfngbealdbgaaGreat
open Go Go.TL
open Go.Proofs.YtclfngbealdbgaaGreat.Ty
set_option linter.unusedSimpArgs false
set_option linter.unusedVariables false
set_option linter.unusedSectionVars false
set_option maxRecDepth 20000
set_option maxHeartbeats 4000000
def clG (ps : List (Int × List Int)) (g : GTerm) : GTerm := ps.foldl (fun g p => .mk 9 p.1 false p.2 false [g]) g
theorem clG_snoc (ps : List (Int × List Int)) (p : Int × List Int) (g : GTerm) : clG (ps ++ [p]) g = .mk 9 p.1 false p.2 false [clG ps g] := by simp [clG]
def JL (s : GSys) (ctx : Wk) (bs : List Int) (g : GTerm) : Option GTerm := match XX s ctx g with
 | none => none
 | some x => if Kh s ctx bs g x.ty = true then (if (clG (bs.zip (ctx.map Prod.snd)) g).writ = true then some (clG (bs.zip (ctx.map Prod.snd)) g) else none) else none
def Zhe (x : Option GTerm) (r : LV) : Prop := match x with
 | none => ∃ z, r = .tup [.agg z, B false] ∧ z.length = 4 ∧ Wu z = true
 | some c => ∃ z, r = .tup [z, B true] ∧ isTF c z
theorem Zf5 (x : Option GTerm) : ∃ r, Zhe x r ∧ Low 0 r := by
 cases x with
 | none => exact ⟨.tup [.agg [N 0, N 0, N 0, N 0], B false], ⟨_, rfl, rfl, rfl⟩, by simp⟩
 | some c =>
  obtain ⟨r, h, l⟩ := Zpp c
  exact ⟨.tup [r, B true], ⟨r, rfl, h⟩, by simp [l]⟩
theorem ZeB {s : GSys} {ctx : Wk} {bs : List Int} {g : GTerm} {ty : List Int} (h : Kh s ctx bs g ty = true) : bs.length = ctx.length := by
 unfold Kh at h
 cases hx : XX s ctx g with
 | none => rw [hx] at h; simp at h
 | some x =>
  rw [hx] at h
  simp only [Bool.and_eq_true, Qd] at h
  omega
theorem ZkN {a b : GTerm} (h : a.nm = b.nm) : a.writ = b.writ := by
 unfold GTerm.writ
 rw [← ZaP a, ← Zaz a, h, ZaP, Zaz]
mutual
theorem ZnM : ∀ a : GTerm, a.nm.wf → a.wf
 | .mk op n nl1 ty nl2 ks, h => by
  simp only [GTerm.wf, GTerm.nm] at *
  exact ⟨h.1, h.2.1, h.2.2.1, by have := h.2.2.2.1; rw [Zh6] at this; exact this, Zkr ks h.2.2.2.2⟩
theorem Zkr : ∀ a : List GTerm, wfs (nms a) → wfs a
 | [], _ => by simp [wfs]
 | a :: a', h => by
  simp only [wfs, nms] at *
  exact ⟨ZnM a h.1, Zkr a' h.2⟩
end
theorem Zip {a b : GTerm} (h : a.nm = b.nm) (hb : b.wf) : a.wf := ZnM a (by rw [h]; exact wf_nm b hb)
theorem ZlF : ∀ (ps : List (Int × List Int)) (g : GTerm), g.wf → (∀ p ∈ ps, I64 p.1 ∧ Lok p.2) → (clG ps g).wf
 | [], g, h, _ => h
 | p :: ps, g, h, hp => by
  have := hp p (by simp)
  exact ZlF ps (.mk 9 p.1 false p.2 false [g]) (by simp only [GTerm.wf, wfs]; exact ⟨by unfold I64; omega, this.1, this.2, by simp, h, trivial⟩) fun q hq => hp q (by simp [hq])
def HasC (g : GTerm) (ps : List (Int × List Int)) (pre : List Box) (h : List Box) : Prop := ∃ (w : GTerm) (cs : List LV), cs.length = 4 ∧ shareAll cs = w.cells ∧ QD 0 cs ∧ Wu cs = true ∧ w.nm = (clG ps g).nm ∧ w.fl ∧ h = pre ++ [some cs]
theorem Zh7 {bs : List Int} {ls : List (List Int)} (h : bs.length = ls.length) {j : Nat} (hj : j < bs.length) : (bs.zip ls).take (j + 1) = (bs.zip ls).take j ++ [(bs.getD j 0, ls.getD j [])] := by
 have h2 : j < (bs.zip ls).length := by simp; omega
 rw [List.take_succ_eq_append_getElem h2, List.getElem_zip]
 simp [List.getD_eq_getElem?_getD, hj, show j < ls.length by omega]
theorem Zge {w g : GTerm} {ps : List (Int × List Int)} {b : Int} {l : List Int} (h1 : w.nm = (clG ps g).nm) (h2 : w.fl) : (GTerm.mk 9 b false l false [w]).nm = (clG (ps ++ [(b, l)]) g).nm ∧ (GTerm.mk 9 b false l false [w]).fl := by
 rw [clG_snoc]
 simp only [GTerm.nm, nms, h1, GTerm.fl, fls]
 exact ⟨by simp, by simp [Zn], h2, trivial⟩
theorem Zln {s : GSys} {ctx : Wk} {g : GTerm} (a : Arg s ctx g) (nlc n1 : Bool) (bs : List Int) (hb : Lok bs) : Qe Tryz.prog JO [s.lv, LC nlc ctx, L n1 bs, g.lv] (Zhe (JL s ctx bs g)) := by
 have hbl := hb.1
 have hcl := a.cw.1
 refine Qe.of_codeOf Zfo QA (by simp) (Zf5 _) ?_
 simp (disch := omega) [Zai, Qw, Qs]
 refine Qi (Qe.low (Zcx a nlc)) (by simp) ?_
 rintro r ⟨hr, lo⟩
 cases hx : XX s ctx g with
 | none =>
  rw [hx] at hr
  subst hr
  simp (disch := omega) [JL, hx]
  exact ⟨_, rfl, rfl, rfl⟩
 | some x =>
  rw [hx] at hr
  subst hr
  obtain ⟨hg, hs, hc, htm, hc8, _⟩ := Zu a hx
  have hty := ZG (Yi hg.1)
  simp (disch := omega)
  refine Qa (Zo0 a nlc n1 false bs x.ty hb hty) (by simp) ?_
  cases hf : Kh s ctx bs g x.ty
  ·simp (disch := omega) [JL, hx, hf]
   exact ⟨_, rfl, rfl, rfl⟩
  ·have hlen := ZeB hf
   simp (disch := omega)
   refine Qi (Qe.low (Zne g.size g (Nat.le_refl _) a.gw a.gf)) (by simp) ?_
   rintro r2 ⟨⟨w, cs, rfl, hcs, hwn, hwf⟩, lo2⟩
   have c4 : cs.length = 4 := by rw [← WW, hcs]; simp
   simp (disch := omega) [c4]
   obtain ⟨f1, f2, _⟩ := a.flags hc
   have hll : bs.length = (ctx.map Prod.snd).length := by simp [hlen]
   refine Wb bs.length 0 (fun j t h => t 40 = N j ∧ HasC g ((bs.zip (ctx.map Prod.snd)).take j) [none, none, some [N 0, N 0, .sl true true 1 [], .sl true true 1 []]] h)
    (fun t h => HasC g (bs.zip (ctx.map Prod.snd)) [none, none, some [N 0, N 0, .sl true true 1 [], .sl true true 1 []]] h) ⟨by simp, w, cs, c4, hcs, by simpa using lo2, ZaG hcs, by simpa [clG] using hwn, hwf, rfl⟩ (by omega) ?_ ?_
   ·rintro j t1 hh hf' hj ⟨e40, w1, cs1, d4, dsh, dlo, dal, dnm, dfl, rfl⟩
    have d4t : List.take 4 cs1 = cs1 := List.take_of_length_le (Nat.le_of_eq d4)
    have d4d : List.drop 4 cs1 = [] := List.drop_of_length_le (Nat.le_of_eq d4)
    have d4l : 4 ≤ cs1.length := Nat.le_of_eq d4.symm
    (have e1 := hf' 1 (by kernel_rfl); have e13 := hf' 13 (by kernel_rfl); have e38 := hf' 38 (by kernel_rfl); have e39 := hf' 39 (by kernel_rfl); clear hf'; simp [] at e1 e13 e38 e39)
    by_cases h6 : j < bs.length
    ·have hb6 : ltB (j : Int) bs.length = true := by rw [Qh]; omega
     have hj2 : j < ctx.length := by omega
     have hix := W9 bs false n1 j (by omega) (by omega)
     have hic := KI ctx nlc j hj2
     have hcf := f2 _ (List.getElem_mem hj2)
     have hcl2 := QF (f1 _ (List.getElem_mem hj2))
     have zt := Zh7 hll h6
     have hgd : (ctx.map Prod.snd).getD j [] = ctx[j].2 := by simp [List.getD_eq_getElem?_getD, hj2]
     rw [hgd] at zt
     generalize ctx[j] = c at *
     obtain ⟨cn, cl'⟩ := c
     try simp only at hcf hcl2 zt
     subst hcf
     have CL := Zcr false cl' (by omega)
     try simp only [Int.toNat_natCast] at hix
     generalize bs.getD j 0 = bj at *
     simp (disch := omega) [e1, e13, e38, e39, e40, hb6, hix, hic]
     refine Qa CL (by simp) ?_
     simp (disch := omega) [e1, e13, e38, e39, e40, d4, d4t, d4d, d4l, dsh, dal, cl, Ql, Qf]
     obtain ⟨z1, z2⟩ := Zge (b := bj) (l := cl') dnm dfl
     refine ⟨h6, .mk 9 bj false cl' false [w1], _, rfl, by simp [GTerm.cells, Wg], by simp, by simp, ?_, z2, rfl⟩
     rw [zt]; exact z1
    ·have hb6 : ltB (j : Int) bs.length = false := by rw [Qg]; omega
     have e : (bs.zip (ctx.map Prod.snd)).take j = bs.zip (ctx.map Prod.snd) := List.take_of_length_le (by simp; omega)
     rw [e] at dnm
     simp (disch := omega) [e39, e40, hb6]
     exact ⟨w1, cs1, d4, dsh, dlo, dal, dnm, dfl, rfl⟩
   ·rintro t1 hh hf' ⟨w1, cs1, d4, dsh, dlo, dal, dnm, dfl, rfl⟩
    have d4t : List.take 4 cs1 = cs1 := List.take_of_length_le (Nat.le_of_eq d4)
    (have e8 := hf' 8 (by kernel_rfl); have e13 := hf' 13 (by kernel_rfl); clear hf'; simp [] at e8 e13)
    have gw : (clG (bs.zip (ctx.map Prod.snd)) g).wf := ZlF _ g a.gw fun p hp => by
     obtain ⟨p1, p2⟩ := p
     have h1 := List.of_mem_zip hp
     obtain ⟨c, hc1, hc2⟩ := List.mem_map.1 h1.2
     try simp only at hc2
     exact ⟨hb.2 _ h1.1, by rw [← hc2]; exact ZG (Yi (f1 c hc1))⟩
    have iw := Zft w1 (Zip dnm gw)
    rw [ZkN dnm] at iw
    simp (disch := omega) [e8, e13, d4, d4t, dsh, dal]
    refine Qa iw (by simp) ?_
    cases hwr : (clG (bs.zip (ctx.map Prod.snd)) g).writ
    ·simp (disch := omega) [e8, e13, JL, hx, hf, hwr]
     exact ⟨_, rfl, rfl, rfl⟩
    ·simp (disch := omega) [e8, e13, JL, hx, hf, hwr, d4, d4t, dal]
     exact ⟨dlo, _, rfl, w1, cs1, rfl, dsh, dnm, dfl⟩
mutual
theorem ZmG : ∀ (g : GTerm) (fr : Int), shG 0 fr g = g
 | .mk op n nl1 ty nl2 ks, fr => by simp [shG, Zj8 ks]
theorem Zj8 : ∀ (ks : List GTerm) (fr op : Int) (k : Nat), JR 0 fr op k ks = ks
 | [], _, _, _ => by simp [JR]
 | t :: ts, fr, op, k => by simp only [JR, ZmG t, Zj8 ts]
end
theorem Zfe {s : GSys} {ctx : Wk} {g : GTerm} (a : Arg s ctx g) (nlc n1 : Bool) (bs : List Int) (hb : Lok bs) : Qe Tryz.prog J2 [s.lv, LC nlc ctx, L n1 bs, g.lv] (Zhe (JL s ctx bs g)) := by
 have hbl := hb.1
 have hcl := a.cw.1
 refine Qe.of_codeOf ZfM QA (by simp) (Zf5 _) ?_
 simp (disch := omega) [V2, Qw, Qs]
 refine Qi (Qe.low (ZcV a nlc)) (by simp) ?_
 rintro r ⟨hr, lo⟩
 cases hx : XX s ctx g with
 | none =>
  rw [hx] at hr
  obtain ⟨u1, u2, rfl⟩ := hr
  simp (disch := omega) [JL, hx]
  exact ⟨_, rfl, rfl, rfl⟩
 | some x =>
  rw [hx] at hr
  obtain ⟨u1, u2, rfl⟩ := hr
  obtain ⟨hg, hs, hc, htm, hc8, _⟩ := Zu a hx
  have hty := ZG (Yi hg.1)
  simp (disch := omega)
  refine Qa (Znb a nlc n1 false bs x.ty hb hty) (by simp) ?_
  cases hf : Kh s ctx bs g x.ty
  ·simp (disch := omega) [JL, hx, hf]
   exact ⟨_, rfl, rfl, rfl⟩
  ·have hlen := ZeB hf
   simp (disch := omega)
   obtain ⟨f1, f2, _⟩ := a.flags hc
   have hll : bs.length = (ctx.map Prod.snd).length := by simp [hlen]
   refine Wb ctx.length 0 (fun j t h => t 14 = N j ∧ HasC g ((bs.zip (ctx.map Prod.snd)).take j) [none, none, some [N 0, N 0, .sl true true 1 [], .sl true true 1 []]] h)
    (fun t h => HasC g (bs.zip (ctx.map Prod.snd)) [none, none, some [N 0, N 0, .sl true true 1 [], .sl true true 1 []]] h) ⟨by simp, g, g.cells, by simp, by simp, by simp, by simp, by simp [clG], a.gf, rfl⟩ (by omega) ?_ ?_
   ·rintro j t1 hh hf' hj ⟨e14, w1, cs1, d4, dsh, dlo, dal, dnm, dfl, rfl⟩
    have d4t : List.take 4 cs1 = cs1 := List.take_of_length_le (Nat.le_of_eq d4)
    have d4d : List.drop 4 cs1 = [] := List.drop_of_length_le (Nat.le_of_eq d4)
    have d4l : 4 ≤ cs1.length := Nat.le_of_eq d4.symm
    (have e1 := hf' 1 (by kernel_rfl); have e2 := hf' 2 (by kernel_rfl); have e13 := hf' 13 (by kernel_rfl); clear hf'; simp [] at e1 e2 e13)
    by_cases h6 : j < ctx.length
    ·have hb6 : ltB (j : Int) ctx.length = true := by rw [Qh]; omega
     have hj1 : j < bs.length := by omega
     have hix := W9 bs false n1 j (by omega) (by omega)
     have hic := KI ctx nlc j h6
     have hcf := f2 _ (List.getElem_mem h6)
     have hcl2 := QF (f1 _ (List.getElem_mem h6))
     have zt := Zh7 hll hj1
     have hgd : (ctx.map Prod.snd).getD j [] = ctx[j].2 := by simp [List.getD_eq_getElem?_getD, h6]
     rw [hgd] at zt
     generalize ctx[j] = c at *
     obtain ⟨cn, cl'⟩ := c
     try simp only at hcf hcl2 zt
     subst hcf
     have CL := ZC false cl' (by omega)
     try simp only [Int.toNat_natCast] at hix
     generalize bs.getD j 0 = bj at *
     simp (disch := omega) [e1, e2, e13, e14, hb6, hix, hic]
     refine Qa CL (by simp) ?_
     simp (disch := omega) [e1, e2, e13, e14, d4, d4t, d4d, d4l, dsh, dal, Ql, Qf]
     obtain ⟨z1, z2⟩ := Zge (b := bj) (l := cl') dnm dfl
     refine ⟨h6, .mk 9 bj false cl' false [w1], _, rfl, by simp [GTerm.cells, Wg], by simp, by simp, ?_, z2, rfl⟩
     rw [zt]; exact z1
    ·have hb6 : ltB (j : Int) ctx.length = false := by rw [Qg]; omega
     have e : (bs.zip (ctx.map Prod.snd)).take j = bs.zip (ctx.map Prod.snd) := List.take_of_length_le (by simp; omega)
     rw [e] at dnm
     simp (disch := omega) [e1, e14, hb6]
     exact ⟨w1, cs1, d4, dsh, dlo, dal, dnm, dfl, rfl⟩
   ·rintro t1 hh hf' ⟨w1, cs1, d4, dsh, dlo, dal, dnm, dfl, rfl⟩
    have d4t : List.take 4 cs1 = cs1 := List.take_of_length_le (Nat.le_of_eq d4)
    (have e8 := hf' 8 (by kernel_rfl); have e13 := hf' 13 (by kernel_rfl); clear hf'; simp [] at e8 e13)
    have gw : (clG (bs.zip (ctx.map Prod.snd)) g).wf := ZlF _ g a.gw fun p hp => by
     obtain ⟨p1, p2⟩ := p
     have h1 := List.of_mem_zip hp
     obtain ⟨c, hc1, hc2⟩ := List.mem_map.1 h1.2
     try simp only at hc2
     exact ⟨hb.2 _ h1.1, by rw [← hc2]; exact ZG (Yi (f1 c hc1))⟩
    have ww := Zip dnm gw
    have iw := ZfF w1 ww
    rw [ZkN dnm] at iw
    simp (disch := omega) [e8, e13, d4, d4t, dsh, dal]
    refine Qa iw (by simp) ?_
    cases hwr : (clG (bs.zip (ctx.map Prod.snd)) g).writ
    ·simp (disch := omega) [e8, e13, JL, hx, hf, hwr]
     exact ⟨_, rfl, rfl, rfl⟩
    ·have hwr2 := hwr
     rw [← ZkN dnm] at hwr2
     unfold GTerm.writ at hwr2
     simp only [Bool.and_eq_true, decide_eq_true_eq] at hwr2
     have sh := ZfX 0 (by omega) w1.size w1 8 0 (Nat.le_refl _) (ZgW w1 _ ww hwr2.2) (by omega) (by omega) (by omega) (by omega)
     rw [ZmG] at sh
     simp (disch := omega) [e8, e13, d4, d4t, dal, dsh]
     refine Qi (Qe.low sh) (by simp) ?_
     rintro r ⟨⟨w2, cs2, rfl, h2, h3, h4⟩, lo2⟩
     have c4 : cs2.length = 4 := by rw [← WW, h2]; simp
     have cal := ZaG h2
     simp (disch := omega) [e8, JL, hx, hf, hwr, c4, cal, List.take_of_length_le]
     exact ⟨by simpa using lo2, _, rfl, w2, cs2, rfl, h2, by rw [h3, dnm], h4⟩
end Go.Proofs.YtclfngbealdbgaaGreat
namespace Go.Proofs.YtclfngbealdbgaaGreat
open Go Go.TL
open Go.Proofs.YtclfngbealdbgaaGreat.Ty
set_option linter.unusedSimpArgs false
set_option linter.unusedVariables false
set_option linter.unusedSectionVars false
set_option maxRecDepth 20000
set_option maxHeartbeats 4000000
mutual
theorem ZkT {s : GSys} : ∀ (g : GTerm) (cx : List (List Int)), Qq s cx g.nm = Qq s cx g
 | .mk op n nl1 ty nl2 ks, cx => by simp only [GTerm.nm, Qq, ZmE ks]
theorem ZmE {s : GSys} : ∀ (ks : List GTerm) (cx : List (List Int)) (op n : Int) (ty : List Int) (ds : List TT), Q9 s cx op n ty ds (nms ks) = Q9 s cx op n ty ds ks
 | [], _, _, _, _, _ => by simp [nms, Q9]
 | k :: ks, cx, op, n, ty, ds => by
  simp only [nms, Q9, ZkT k]
  cases Qq s (QB op ty ds.length (first ds) ++ cx) k with
  | bad f p => rfl
  | ok x => simp only [ZmE ks]
end
theorem Zn8 {s : GSys} {a b : GTerm} (h : a.nm = b.nm) (cx : List (List Int)) : Qq s cx a = Qq s cx b := by
 rw [← ZkT a, h, ZkT]
def clT (ps : List (Int × List Int)) (ty : List Int) : List Int := ps.foldl (fun ty p => (3 + p.1) :: (p.2 ++ ty)) ty
theorem Zpy : ∀ (ps : List (Int × List Int)) (ty : List Int), ty.length ≤ (clT ps ty).length
 | [], ty => by simp [clT]
 | p :: ps, ty => by
  have := Zpy ps ((3 + p.1) :: (p.2 ++ ty))
  simp only [clT, List.foldl_cons, List.length_cons, List.length_append] at this ⊢
  omega
theorem Zkk {s : GSys} : ∀ (ps : List (Int × List Int)) (g : GTerm), (∃ f p, Qq s (ps.map Prod.snd) g = .bad f p) → ∃ f p, Qq s [] (clG ps g) = .bad f p
 | [], g, h => h
 | p :: ps, g, ⟨f, q, h⟩ => by
  refine Zkk ps (.mk 9 p.1 false p.2 false [g]) ⟨f, 0 :: q, X6 ?_⟩
  simpa [QB] using h
theorem ZgY {s : GSys} : ∀ (ps : List (Int × List Int)) (g : GTerm) (x : TT), Qq s (ps.map Prod.snd) g = .ok x → x.needs.length = ps.length → (∀ i, i < ps.length → s.le (x.needs.getD i 0) (ps.getD i (0, [])).1 = true) →
  ((clT ps x.ty).length ≤ 40 → ∃ y, Qq s [] (clG ps g) = .ok y ∧ y.ty = clT ps x.ty ∧ y.needs = []) ∧ (40 < (clT ps x.ty).length → ps ≠ [] → ∃ f p, Qq s [] (clG ps g) = .bad f p)
 | [], g, x, h, hl, _ => by
  exact ⟨fun _ => ⟨x, h, rfl, List.eq_nil_of_length_eq_zero (by simpa using hl)⟩, fun _ h2 => absurd rfl h2⟩
 | p :: ps, g, x, h, hl, hle => by
  obtain ⟨b, l⟩ := p
  simp only [List.map_cons] at h
  have hl' : x.needs.length = ps.length + 1 := by simpa using hl
  have hu : WT s (x.needs.take 1) b = true := by
   have h0 := hle 0 (by simp)
   unfold WT
   cases hn : x.needs with
   | nil => simp
   | cons u us =>
    rw [hn] at h0
    simpa using h0
  have e := Zmn (nl1 := false) (nl2 := false) (n := b) h
  rw [if_pos hu] at e
  have ec : clG ((b, l) :: ps) g = clG ps (.mk 9 b false l false [g]) := rfl
  have et : clT ((b, l) :: ps) x.ty = clT ps ((3 + b) :: (l ++ x.ty)) := rfl
  rw [ec, et]
  unfold Zr at e
  by_cases q : ((3 + b) :: (l ++ x.ty)).length ≤ 40
  ·rw [if_pos q] at e
   have ih := ZgY ps (.mk 9 b false l false [g]) _ e (by simp; omega) fun i hi => by
    have := hle (i + 1) (by simpa using hi)
    simpa [List.getD_eq_getElem?_getD, List.getElem?_drop, Nat.add_comm] using this
   refine ⟨fun h => ih.1 h, fun h _ => ?_⟩
   cases ps with
   | nil => simp only [clT, List.foldl_nil] at h; omega
   | cons p ps => exact ih.2 h (by simp)
  ·rw [if_neg q] at e
   have := Zpy ps ((3 + b) :: (l ++ x.ty))
   refine ⟨fun h => by omega, fun _ _ => ?_⟩
   exact Zkk ps _ ⟨3, [], e⟩
theorem Zig {s : GSys} : ∀ (ps : List (Int × List Int)) (g : GTerm) (nv : Nat), (∀ p ∈ ps, s.G p.1 ∧ okL s.size p.2 = true) → Xr ((nv + ps.length : Nat) : Int) s.size true g = true → Xr nv s.size true (clG ps g) = true
 | [], g, nv, _, h => by simpa [clG] using h
 | p :: ps, g, nv, hp, h => by
  have h1 := hp p (by simp)
  refine Zig ps (.mk 9 p.1 false p.2 false [g]) nv (fun q hq => hp q (by simp [hq])) ?_
  simp only [Xr, Xj, List.length_cons, List.length_nil, Zmd h1.1 h1.2, Bool.true_and, Bool.and_true, Int.natCast_zero]
  have : Qt 9 0 = 1 := by simp [Qt]
  rw [this]
  rw [show ((nv + ps.length : Nat) : Int) + 1 = ((nv + (p :: ps).length : Nat) : Int) by simp; omega]
  exact h
theorem Zoa {s : GSys} {ctx : Wk} {g c w : GTerm} {bs : List Int} (a : Arg s ctx g) (hb : Lok bs) (h : JL s ctx bs g = some c) (hw : w.nm = c.nm) (hf : w.fl) :
    ∃ x, XX s ctx g = some x ∧ Kh s ctx bs g x.ty = true ∧ Arg s [] w ∧
      (match XX s [] w with
       | some y => y.ty = clT (bs.zip (ctx.map Prod.snd)) x.ty ∧ y.needs = []
       | none => 40 < (clT (bs.zip (ctx.map Prod.snd)) x.ty).length) := by
  unfold JL at h
  cases hx : XX s ctx g with
  | none => rw [hx] at h; simp at h
  | some x =>
    rw [hx] at h
    simp only at h
    split at h
    · rename_i hft
      split at h
      · rename_i hwr
        simp only [Option.some.injEq] at h
        obtain ⟨hgd, hs, hc, htm, hc8, htl⟩ := Zu a hx
        obtain ⟨f1, f2, _⟩ := a.flags hc
        have t := GSys.sys_of hs
        have hlen := ZeB hft
        have hft2 := hft
        unfold Kh at hft2
        rw [hx] at hft2
        simp only [Bool.and_eq_true, YX] at hft2
        have hall := hft2.2.2
        have hps : (bs.zip (ctx.map Prod.snd)).map Prod.snd = ctx.map Prod.snd := by
          rw [List.map_snd_zip]; simp [hlen]
        have hpl : (bs.zip (ctx.map Prod.snd)).length = ctx.length := by simp [hlen]
        have hG : ∀ p ∈ bs.zip (ctx.map Prod.snd), s.G p.1 ∧ okL s.size p.2 = true := by
          intro p hp
          obtain ⟨p1, p2⟩ := p
          have hz := List.of_mem_zip hp
          refine ⟨?_, ?_⟩
          · obtain ⟨i, hi, rfl⟩ := List.getElem_of_mem hz.1
            have := hall i (by omega)
            simp only [K7, Bool.and_eq_true, QM] at this
            have hgd : bs.getD i 0 = bs[i] := by simp [List.getD_eq_getElem?_getD, hi]
            rw [hgd] at this
            exact ⟨this.1.1, by omega⟩
          · obtain ⟨c', hc1, hc2⟩ := List.mem_map.1 hz.2
            rw [← hc2]; exact f1 c' hc1
        generalize hpd : bs.zip (ctx.map Prod.snd) = ps at *
        have ct := ZgY ps g x (by rw [hps]; exact htl) (by rw [hpl]; exact hgd.2.1) fun i hi => by
          have := hall i (by omega)
          simp only [K7, Bool.and_eq_true] at this
          have e : (ps.getD i (0, [])).1 = bs.getD i 0 := by
            rw [← hpd]
            have h1 : i < bs.length := by omega
            have h2 : i < ctx.length := by omega
            rw [List.getD_eq_getElem?_getD, List.getElem?_eq_getElem (by simp; omega), List.getElem_zip]
            simp [List.getD_eq_getElem?_getD, h1]
          rw [e]; exact this.2
        have htm2 := htm
        unfold GTerm.termB at htm2
        simp only [Bool.and_eq_true, decide_eq_true_eq] at htm2
        have cf := Zig ps g 0 hG (by rw [hpl]; simpa using htm2.2.2)
        have hwn : w.nm = (clG ps g).nm := by rw [hw, ← h]
        have gw : (clG ps g).wf := ZlF ps g a.gw fun p hp => by
          have := hG p hp
          exact ⟨GI t.hi this.1, ZG (Yi this.2)⟩
        have ww := Zip hwn gw
        refine ⟨x, rfl, hft, ⟨a.sw, by simp [Wk.wf], ww, by simp, hf⟩, ?_⟩
        have hwr' := hwr
        unfold GTerm.writ at hwr'
        simp only [Bool.and_eq_true, decide_eq_true_eq] at hwr'
        have hwt : w.termB s.size 0 = true := by
          unfold GTerm.termB
          rw [← ZaP w, ← Zaz w, hwn, ZaP, Zaz]
          have h0 : QO 0 0 8 = true := by rw [QM]; omega
          simp only [h0, Bool.true_and, Bool.and_eq_true, decide_eq_true_eq]
          exact ⟨hwr'.1, by simpa using cf⟩
        have hin : inB s [] w = true := by
          unfold inB
          have h1 : ZdP s.size [] = true := by simp [ZdP, XZ, leB]
          simp only [hs, h1, Bool.true_and, List.length_nil, Int.natCast_zero, hwt]
        have htw : Qq s [] w = Qq s [] (clG ps g) := Zn8 hwn []
        unfold XX
        rw [if_pos hin, List.map_nil, htw]
        by_cases q : (clT ps x.ty).length ≤ 40
        · obtain ⟨y, hy, h1, h2⟩ := ct.1 q
          rw [hy]
          exact ⟨h1, h2⟩
        · have hne : ps ≠ [] := by
            rintro rfl
            have := QF hgd.1
            simp [clT] at q
            omega
          obtain ⟨f, p, hy⟩ := ct.2 (by omega) hne
          rw [hy]
          simp only
          omega
      · simp at h
    · simp at h
end Go.Proofs.YtclfngbealdbgaaGreat
namespace Go.Proofs.YtclfngbealdbgaaGreat
open Go Go.TL
open Go.Proofs.YtclfngbealdbgaaGreat.Ty
set_option linter.unusedSimpArgs false
set_option linter.unusedVariables false
set_option linter.unusedSectionVars false
set_option maxRecDepth 20000
set_option maxHeartbeats 4000000
theorem Zj6 {deep : Int} {n : Nat} (h : 0 < deep) : bd deep n = 3 * T0 (deep - 1).toNat + 6 := by
 unfold bd
 rw [if_neg (by omega), Zpw h]
theorem arrow_of {size : Int} {l : List Int} (h : okL size l = true) (h0 : eqB (hd l) 0 = false) (h1 : eqB (hd l) 1 = false) (h2 : eqB (hd l) 2 = false) (h3 : W0 (hd l) = false) : QL (hd l) = true := by
 obtain ⟨c1, c2, c3, _⟩ := X5 h
 rw [Qc] at h0 h1 h2
 simp [W0] at h3
 simp [QL]
 omega
section
variable (D : Dr) (ok : D.ok)
include ok
theorem dOf_ok {s : GSys} (hsy : s.sys = true) : ∀ f : Nat, DOf D s f := by
 intro f
 induction f with
 | zero =>
  intro nlc ctx ty deep hc hf hty hm
  have := QF hty
  omega
 | succ f H =>
 intro nlc ctx ty deep hc hf hty hm hd4 hlo
 have t := GSys.sys_of hsy
 have h16 := t.hi
 have h40 := QF hty
 have hs : 1 ≤ s.size ∧ s.size ≤ 16 := ⟨by have := t.lo; omega, h16⟩
 have hdI : I64 (deep - 1) := by unfold I64; omega
 have hx := hd_at h40.1
 obtain ⟨q1, q2, q3, q4, _⟩ := X5 hty
 refine Wc.of_codeOf Zn0 QA (by simp) (ZhU (ZiA h40.1)) ?_
 intro h1 h3 ct i k hct hk
 simp only [Zhh]
 rw [Zfp]
 refine ZcH (fun t' h' => t' 6 = .rp s.cells ∧ t' 10 = .ptr (h1.length + (h3.length + 1 + 1)) 0 ∧
  ∃ i' k', XC D i' k' ∧ h' = h1 ++ some [ct, N i', N k'] :: (h3 ++ [none, some [N 0, N 0, .sl true true 1 [], .sl true true 1 []]])) ?_ ?_
 ·simp (disch := omega) [Qw, Qs]
  refine Qp (WP D ok 5 (by unfold I64; omega)) hct hk ?_
  rintro r i0 k0 hk0 ⟨m, rfl, hm0, hm1, _⟩
  simp (disch := omega)
  (with_reducible first | refine Qo (fun u1 => ?_) (fun u1 => ?_) | refine Qn (fun u1 => ?_) (fun u1 => ?_))
  ·simp (disch := omega)
   refine Qp (WP D ok ctx.length (by unfold I64; omega)) hct hk0 ?_
   rintro r i1 k1 hk1 ⟨fr, rfl, f0, f1, f2⟩
   simp (disch := omega)
   refine Wb ctx.length 0 (fun j t h => t 12 = N j ∧ h = h1 ++ some [ct, N i1, N k1] :: (h3 ++ [none, some [N 0, N 0, .sl true true 1 [], .sl true true 1 []]]))
    (fun t h => h = h1 ++ some [ct, N i1, N k1] :: (h3 ++ [none, some [N 0, N 0, .sl true true 1 [], .sl true true 1 []]])) ⟨by simp, rfl⟩ (by omega) ?_ ?_
   ·rintro j t1 hh hf' hj ⟨e12, rfl⟩
    (have e2 := hf' 2 (by kernel_rfl); have e3 := hf' 3 (by kernel_rfl); have e6 := hf' 6 (by kernel_rfl); have e10 := hf' 10 (by kernel_rfl); have e11 := hf' 11 (by kernel_rfl); clear hf'; simp [] at e2 e3 e6 e10 e11)
    by_cases h6 : j < ctx.length
    ·have hb : ltB (j : Int) ctx.length = true := by rw [Qh]; omega
     have hz : ctx ≠ [] := by rintro rfl; simp at h6
     obtain ⟨p, hp, hpl⟩ : ∃ p : Nat, (fr + (j : Int)).tmod ctx.length = p ∧ p < ctx.length := by
      obtain ⟨z0, z1⟩ := Zmk (m := fr + j) (k := ctx.length) (by omega) (by omega)
      exact ⟨((fr + (j : Int)).tmod ctx.length).toNat, by omega, by omega⟩
     have hix := KI ctx nlc p hpl
     have hoc := hc.1 _ (List.getElem_mem hpl)
     have hof := hc.2 _ (List.getElem_mem hpl)
     have hlc := QF hoc
     generalize ctx[p] = c at hix hoc hof hlc
     obtain ⟨cn, cl⟩ := c
     simp only at hof hoc hlc
     subst hof
     simp (disch := omega) [e2, e3, e6, e10, e11, e12, hb, Qf, VE, hz, hp, hix]
     refine Qa (KU false false cl ty (by omega)) (by simp) ?_
     cases cl == ty
     ·simp (disch := omega) [e12, Qf]
      omega
     ·simp (disch := omega)
      refine Qa (ZaS 0 p true [] (by simp) (by simp)) (by simp) ?_
      simp (disch := omega) [e10]
      have vok : TmOk s ctx.length (bd deep ty.length) (.mk 0 p true [] true []) := TmOk.k0 (by omega) (ZoY (by omega)) (by unfold I64; omega) (by simp [Lok]) (by simp [Zn]) (ZiA h40.1)
      exact ZR (.inr rfl) (by simp [e10]) rfl rfl hk1 (by simp) (Zdx vok)
    ·have hb : ltB (j : Int) ctx.length = false := by rw [Qg]; omega
     simp (disch := omega) [e2, e12, hb]
   ·rintro t1 hh hf' rfl
    (have e6 := hf' 6 (by kernel_rfl); have e10 := hf' 10 (by kernel_rfl); clear hf'; simp [] at e6 e10)
    simp (disch := omega) [e6, e10]
    exact hk1
  ·simp (disch := omega)
   exact hk0
 ·rintro t1 hh hf ⟨a6, a10, i1, k1, hk1, rfl⟩
  (have e0 := hf 0 (by kernel_rfl); have e2 := hf 2 (by kernel_rfl); have e3 := hf 3 (by kernel_rfl); have e4 := hf 4 (by kernel_rfl); clear hf; simp [] at e0 e2 e3 e4)
  have ok1 := Y8 D ok 3 (by unfold I64; omega)
  refine ZcH (fun t' h' => (t' 0 = .ptr h1.length 0 ∧ t' 2 = LC nlc ctx ∧ t' 3 = L false ty) ∧ ∃ i' k', XC D i' k' ∧ h' = h1 ++ some [ct, N i', N k'] :: (h3 ++ [none, some [N 0, N 0, .sl true true 1 [], .sl true true 1 []]])) ?_ ?_
  ·by_cases hdp : 0 < deep
   ·have hb : ltB 0 deep = true := by rw [Qh]; exact hdp
    have ar := Zoq D ok hsy H nlc ctx ty (deep - 1) hc (by omega) hty (by omega) (by omega) (by omega)
    simp (disch := omega) [e0, e2, e3, e4, a6, a10, hb]
    refine Qp ok1 hct hk1 ?_
    rintro r i2 k2 hk2 ⟨b, rfl⟩
    cases b
    ·simp (disch := omega) [e0, e2, e3, e4, a6, a10, hb]
     exact hk2
    ·simp (disch := omega) [e0, e2, e3, e4, a6, a10, hb, Qf]
     refine Qp ar hct hk2 ?_
     rintro r i3 k3 hk3 hr
     rw [← Zj6 (n := ty.length) hdp] at hr
     obtain ⟨w, cs, rfl, c4, csh, clo, cal, cok⟩ := hr.el
     simp (disch := omega) [e0, e2, e3, e4, a6, a10, c4]
     exact ZR (.inr rfl) (by simp [a10]) rfl c4 hk3 (by simp [clo]) hr
   ·have hb : ltB 0 deep = false := by rw [Qg]; omega
    simp (disch := omega) [e0, e2, e3, e4, a6, a10, hb]
    exact hk1
  ·rintro t2 hh hf ⟨⟨g0, g2, g3⟩, i2, k2, hk2, rfl⟩
   (have g4 := hf 4 (by kernel_rfl); have g6 := hf 6 (by kernel_rfl); have g10 := hf 10 (by kernel_rfl); clear hf; simp [e4, a6, a10] at g4 g6 g10)
   clear e0 e2 e3 e4 a6 a10
   refine ZcH (fun t' h' => t' 14 = N (hd ty) ∧ h' = h1 ++ some [ct, N i2, N k2] :: (h3 ++ [none, some [N 0, N 0, .sl true true 1 [], .sl true true 1 []]])) ?_ ?_
   ·simp (disch := omega) [g3, hx]
   ·rintro t3 hh hf ⟨e14, rfl⟩
    (have f0 := hf 0 (by kernel_rfl); have f2 := hf 2 (by kernel_rfl); have f3 := hf 3 (by kernel_rfl); have f4 := hf 4 (by kernel_rfl); have f6 := hf 6 (by kernel_rfl); have f10 := hf 10 (by kernel_rfl); clear hf; simp [g0, g2, g3, g4, g6, g10] at f0 f2 f3 f4 f6 f10)
    clear g0 g2 g3 g4 g6 g10
    have step1 : ∀ (l : List Int), okL s.size l = true → l.length < ty.length ∨ 0 < deep → Wc Tryz.prog D QS [s.lv, LC nlc ctx, L false l, N (deep - 1)] (isD s ctx.length (bd (deep - 1) l.length)) := fun l hl hlt => by
     have := QF hl
     exact H nlc ctx l (deep - 1) hc (by omega) hl (by omega) (by omega) (by omega)
    by_cases z0 : hd ty = 0
    ·
     have z0b : eqB (hd ty) 0 = true := by rw [Qd]; exact z0
     have num : ∀ (i' k' : Int), XC D i' k' → ∀ m : Int, 0 ≤ m ∧ m < 3 → isD s ctx.length (bd deep ty.length) (.agg [N 1, N m, .sl true true 1 [], .sl false true 4 []]) := fun i' k' hk' m hm =>
      Zdx (ks := []) (TmOk.k0 (by omega) (ZkC hm) (by unfold I64; omega) (by simp [Lok]) (by simp [Zn]) (ZiA h40.1))
     by_cases hdp : 0 < deep
     ·have hb : ltB 0 deep = true := by rw [Qh]; exact hdp
      simp (disch := omega) [f0, f2, f3, f4, f6, f10, e14, z0b, hb]
      refine Qp (Y8 D ok 2 (by unfold I64; omega)) hct hk2 ?_
      rintro r i3 k3 hk3 ⟨b, rfl⟩
      cases b
      ·simp (disch := omega) [f0, f2, f3, f4, f6, f10, e14, z0b, hb]
       refine Qp (WP D ok 3 (by unfold I64; omega)) hct hk3 ?_
       rintro r i4 k4 hk4 ⟨m, rfl, m0, m1, _⟩
       simp (disch := omega)
       refine Qa (ZaS 1 m true [] (by simp) (by simp)) (by simp) ?_
       simp (disch := omega) [f10]
       exact ZR (.inr rfl) (by simp [f10]) rfl rfl hk4 (by simp) (num i4 k4 hk4 m ⟨m0, m1 (by omega)⟩)
      ·simp (disch := omega) [f0, f2, f3, f4, f6, f10, e14, z0b, hb, Qf]
       refine Qp (step1 ty hty (.inr hdp)) hct hk3 ?_
       rintro r i4 k4 hk4 hr
       obtain ⟨w1, cs1, rfl, a4, ash, alo, aal, aok⟩ := hr.el
       simp (disch := omega) [f0, f2, f3, f4, f6, f10, Qf]
       refine Qp (step1 ty hty (.inr hdp)) hct hk4 ?_
       rintro r i5 k5 hk5 hr
       obtain ⟨w2, cs2, rfl, b4, bsh, blo, bal, bok⟩ := hr.el
       have n1 := Zkw (deep := deep - 1) (n := ty.length) h40.2
       have n2 := Zj6 (n := ty.length) hdp
       simp (disch := omega) [a4, b4, ash, bsh, aal, bal, List.take_append, List.drop_append, List.take_of_length_le, List.drop_of_length_le, Ql, Qu]
       refine Qa (ZbZ 2 0 w1 w2) (by simp) ?_
       simp (disch := omega) [f10]
       refine ZR (.inr rfl) (by simp [f10]) rfl rfl hk5 (by simp) (Za2 ?_)
       refine TmOk.k2 (by omega) (Zhg (by simp)) (by unfold I64; omega) (by simp [Lok]) (by simp [Zn]) aok (by simp [Qt]) bok (by simp [Qt]) (by omega)
     ·have hb : ltB 0 deep = false := by rw [Qg]; omega
      simp (disch := omega) [f0, f2, f3, f4, f6, f10, e14, z0b, hb]
      refine Qp (WP D ok 3 (by unfold I64; omega)) hct hk2 ?_
      rintro r i4 k4 hk4 ⟨m, rfl, m0, m1, _⟩
      simp (disch := omega)
      refine Qa (ZaS 1 m true [] (by simp) (by simp)) (by simp) ?_
      simp (disch := omega) [f10]
      exact ZR (.inr rfl) (by simp [f10]) rfl rfl hk4 (by simp) (num i4 k4 hk4 m ⟨m0, m1 (by omega)⟩)
    have z0b : eqB (hd ty) 0 = false := by rw [Qc]; exact z0
    by_cases z1 : hd ty = 1
    ·
     have z1b : eqB (hd ty) 1 = true := by rw [Qd]; exact z1
     have kk : Wr (hd ty) = some 2 := by rw [z1]; exact Xo.1
     obtain ⟨el, oa, ob⟩ := Jo hty kk
     have hlen : ty.length = 1 + (QI ty).length + (Wv ty).length := by
      conv => lhs; rw [el]
      simp; omega
     have pa := XH hty 0 (.inr kk)
     have pb := XH hty 1 (.inr kk)
     simp only [if_true, if_neg (show (1 : Int) ≠ 0 by decide)] at pa pb
     simp (disch := omega) [f0, f2, f3, f4, f6, f10, e14, z0b, z1b]
     refine Qa pa (by simp) ?_
     simp (disch := omega) [f0, f2, f3, f4, f6, f10, Qf]
     refine Qp (step1 _ oa (.inl (by omega))) hct hk2 ?_
     rintro r i4 k4 hk4 hr
     obtain ⟨w1, cs1, rfl, a4, ash, alo, aal, aok⟩ := hr.el
     simp (disch := omega) [f0, f2, f3, f4, f6, f10, Qf]
     refine Qa pb (by simp) ?_
     simp (disch := omega) [f0, f2, f3, f4, f6, f10, Qf]
     refine Qp (step1 _ ob (.inl (by omega))) hct hk4 ?_
     rintro r i5 k5 hk5 hr
     obtain ⟨w2, cs2, rfl, b4, bsh, blo, bal, bok⟩ := hr.el
     simp (disch := omega) [a4, b4, ash, bsh, aal, bal, List.take_append, List.drop_append, List.take_of_length_le, List.drop_of_length_le, Ql, Qu]
     refine Qa (ZbZ 4 0 w1 w2) (by simp) ?_
     simp (disch := omega) [f10]
     refine ZR (.inr rfl) (by simp [f10]) rfl rfl hk5 (by simp) (Za2 ?_)
     refine TmOk.k2 (by omega) (Zhg (by simp)) (by unfold I64; omega) (by simp [Lok]) (by simp [Zn]) aok (by simp [Qt]) bok (by simp [Qt]) (bd_two (by omega) h40.2)
    have z1b : eqB (hd ty) 1 = false := by rw [Qc]; exact z1
    by_cases z2 : hd ty = 2
    ·
     have z2b : eqB (hd ty) 2 = true := by rw [Qd]; exact z2
     have kk : Wr (hd ty) = some 2 := by rw [z2]; exact Xo.2
     obtain ⟨el, oa, ob⟩ := Jo hty kk
     have hlen : ty.length = 1 + (QI ty).length + (Wv ty).length := by
      conv => lhs; rw [el]
      simp; omega
     have pa := XH hty 0 (.inr kk)
     have pb := XH hty 1 (.inr kk)
     simp only [if_true, if_neg (show (1 : Int) ≠ 0 by decide)] at pa pb
     simp (disch := omega) [f0, f2, f3, f4, f6, f10, e14, z0b, z1b, z2b]
     refine Qp (Y8 D ok 2 (by unfold I64; omega)) hct hk2 ?_
     rintro r i3 k3 hk3 ⟨b, rfl⟩
     cases b
     ·simp (disch := omega) [f0, f2, f3, f4, f6, f10, e14, z0b, z1b, z2b]
      refine Qa pa (by simp) ?_
      simp (disch := omega) [f0, f2, f3, f4, f6, f10, Qf]
      refine Qa pb (by simp) ?_
      simp (disch := omega) [f0, f2, f3, f4, f6, f10, Qf]
      refine Qp (step1 _ ob (.inl (by omega))) hct hk3 ?_
      rintro r i4 k4 hk4 hr
      obtain ⟨w1, cs1, rfl, a4, ash, alo, aal, aok⟩ := hr.el
      simp (disch := omega) [f10, a4, ash, aal, List.take_append, List.drop_append, List.take_of_length_le, List.drop_of_length_le, Ql, Qu]
      refine ZR (.inr rfl) (by simp [f10]) rfl rfl hk4 (by simp [alo]) (ZkU (nlT := false) (ty := QI ty) (ks := [w1]) (by simp) (by simp) (by simp) (by simp [Qu, ash, Wg]) (by simp [alo]) ?_)
      exact TmOk.k1 (by omega) (nd_ty oa (by simp)) (by unfold I64; omega) (ZG (Yi oa)) (by simp [Zn]) aok (by simp [Qt]) (ZlL (by omega) h40.2)
     ·simp (disch := omega) [f0, f2, f3, f4, f6, f10, e14, z0b, z1b, z2b]
      refine Qa pb (by simp) ?_
      simp (disch := omega) [f0, f2, f3, f4, f6, f10, Qf]
      refine Qa pa (by simp) ?_
      simp (disch := omega) [f0, f2, f3, f4, f6, f10, Qf]
      refine Qp (step1 _ oa (.inl (by omega))) hct hk3 ?_
      rintro r i4 k4 hk4 hr
      obtain ⟨w1, cs1, rfl, a4, ash, alo, aal, aok⟩ := hr.el
      simp (disch := omega) [f10, a4, ash, aal, List.take_append, List.drop_append, List.take_of_length_le, List.drop_of_length_le, Ql, Qu]
      refine ZR (.inr rfl) (by simp [f10]) rfl rfl hk4 (by simp [alo]) (ZkU (nlT := false) (ty := Wv ty) (ks := [w1]) (by simp) (by simp) (by simp) (by simp [Qu, ash, Wg]) (by simp [alo]) ?_)
      exact TmOk.k1 (by omega) (nd_ty ob (by simp)) (by unfold I64; omega) (ZG (Yi ob)) (by simp [Zn]) aok (by simp [Qt]) (ZlL (by omega) h40.2)
    have z2b : eqB (hd ty) 2 = false := by rw [Qc]; exact z2
    simp (disch := omega) [f0, f2, f3, f4, f6, f10, e14, z0b, z1b, z2b]
    refine Qa (ZkW (hd ty)) (by simp) ?_
    cases hbx : W0 (hd ty)
    ·
     have ha := arrow_of hty z0b z1b z2b hbx
     simp (disch := omega) [f0, f2, f3, f4, f6, f10, e14]
     refine Qp (dFun_ok D ok hsy H nlc ctx ty deep hc (by omega) hty ha hm hd4 hlo) hct hk2 ?_
     rintro r i4 k4 hk4 hr
     obtain ⟨w1, cs1, rfl, a4, ash, alo, aal, aok⟩ := hr.el
     simp (disch := omega) [f10, a4]
     exact ZR (.inr rfl) (by simp [f10]) rfl a4 hk4 (by simp [alo]) hr
    ·
     have kk := ZcD hbx
     obtain ⟨el, _, oa⟩ := ZgR hty kk
     have hlen : ty.length = 1 + (QI ty).length := by
      conv => lhs; rw [el]
      simp; omega
     have hg := KX q1 (.inr hbx)
     have pa := XH hty 0 (.inl kk)
     simp only [if_true] at pa
     simp (disch := omega) [f0, f2, f3, f4, f6, f10, e14]
     refine Qa (Zce (hd ty) (by unfold I64; omega) q2) (by simp) ?_
     simp (disch := omega) [f0, f2, f3, f4, f6, f10, e14]
     refine Qa pa (by simp) ?_
     simp (disch := omega) [f0, f2, f3, f4, f6, f10, Qf]
     refine Qp (step1 _ oa (.inl (by omega))) hct hk2 ?_
     rintro r i4 k4 hk4 hr
     obtain ⟨w1, cs1, rfl, a4, ash, alo, aal, aok⟩ := hr.el
     simp (disch := omega) [f10, a4, ash, aal, List.take_append, List.drop_append, List.take_of_length_le, List.drop_of_length_le, Ql, Qu]
     refine Qa (op1_ok 11 (W2 (hd ty)) w1) (by simp) ?_
     simp (disch := omega) [f10]
     refine ZR (.inr rfl) (by simp [f10]) rfl rfl hk4 (by simp) (isD_op1 ?_)
     exact TmOk.k1 (by omega) (Zls hg (by simp)) (GI h16 hg) (by simp [Lok]) (by simp [Zn]) aok (by simp [Qt]) (ZlL (by omega) h40.2)
end
end Go.Proofs.YtclfngbealdbgaaGreat
namespace Go.Proofs.YtclfngbealdbgaaGreat
open Go Go.TL
open Go.Proofs.YtclfngbealdbgaaGreat.Ty
set_option linter.unusedSimpArgs false
set_option linter.unusedVariables false
set_option linter.unusedSectionVars false
set_option maxRecDepth 20000
set_option maxHeartbeats 4000000
section
variable (D : Dr) (ok : D.ok)
include ok
theorem Zk8 {s : GSys} (hsy : s.sys = true) (nlc : Bool) (ctx : Wk) (ty : List Int) (deep : Int) (hc : Yx s ctx) (hf : ctx.length ≤ 100) (hty : okL s.size ty = true) (hd0 : 0 ≤ deep) (hd4 : deep ≤ 4) :
  Wc Tryz.prog D QS [s.lv, LC nlc ctx, L false ty, N deep] (isD s ctx.length 3480) := by
 have h := QF hty
 exact (dOf_ok D ok hsy 204 nlc ctx ty deep hc (by omega) hty (by omega) hd4 (by omega)).mono fun r hr => hr.mono (bd_max h.2 hd4)
theorem dIn_ok {s : GSys} (hsy : s.sys = true) (nlc : Bool) (ctx : Wk) (deep : Int) (data : Bool) (hc : Yx s ctx) (hf : ctx.length ≤ 100) (hd0 : 0 ≤ deep) (hd4 : deep ≤ 4) :
  Wc Tryz.prog D ZdN [s.lv, LC nlc ctx, N deep, B data] (isD s ctx.length 400) := by
 have t := GSys.sys_of hsy
 have h16 := t.hi
 have hs : 1 ≤ s.size ∧ s.size ≤ 16 := ⟨by have := t.lo; omega, h16⟩
 refine Wc.of_codeOf Zoe QA (by simp) (ZhU (by omega)) ?_
 intro h1 h3 ct i k hct hk
 simp (disch := omega) [Zic, Qw, Qs]
 refine Qp (Zl D ok s hs data 2 (by omega)) hct hk ?_
 rintro r i1 k1 hk1 ⟨l, rfl, hl⟩
 have ol := Zo hl (by omega)
 simp (disch := omega)
 refine Qp (Zk8 D ok hsy nlc ctx l deep hc hf ol hd0 hd4) hct hk1 ?_
 rintro r i2 k2 hk2 hr
 obtain ⟨w, cs, rfl, c4, csh, clo, cal, cok⟩ := hr.el
 simp (disch := omega) [c4, csh, cal]
 refine Wb 3 0 (fun j t h => t 12 = N j ∧ HasT D s ctx.length 3480 h1 h3 ct [none, some [N 0, N 0, .sl true true 1 [], .sl true true 1 []]] h)
  (fun t h => HasT D s ctx.length 3480 h1 h3 ct [none, some [N 0, N 0, .sl true true 1 [], .sl true true 1 []]] h) ⟨by simp, i2, k2, w, cs, hk2, c4, csh, clo, cal, cok, rfl⟩ (by omega) ?_ ?_
 ·clear hr cok cal clo csh c4 hk2
  rintro j t1 hh hf' hj ⟨e12, i1, k1, w, cs, hk1, c4, csh, clo, cal, cok, rfl⟩
  have c4t : List.take 4 cs = cs := List.take_of_length_le (Nat.le_of_eq c4)
  have c4d : List.drop 4 cs = [] := List.drop_of_length_le (Nat.le_of_eq c4)
  have csz := cok.size
  (have e0 := hf' 0 (by kernel_rfl); have e2 := hf' 2 (by kernel_rfl); have e3 := hf' 3 (by kernel_rfl); have e4 := hf' 4 (by kernel_rfl); have e6 := hf' 6 (by kernel_rfl); have e10 := hf' 10 (by kernel_rfl); have e11 := hf' 11 (by kernel_rfl); clear hf'; simp [] at e0 e2 e3 e4 e6 e10 e11)
  by_cases h6 : j < 3
  ·have hb : ltB (j : Int) 3 = true := by rw [Qh]; omega
   have lf := ZcG w.size w (Nat.le_refl _) cok.wf 120 (by omega) (by omega)
   have tl := ZcA hsy w.size w nlc ctx (Nat.le_refl _) cok.wf cok.fl hc.1 hc.2 (by omega) cok.form
   have mn : 0 ≤ min deep 2 ∧ min deep 2 ≤ 2 := by omega
   have c4l : 4 ≤ cs.length := Nat.le_of_eq c4.symm
   simp (disch := omega) [e0, e2, e3, e4, e6, e10, e11, e12, hb, c4, c4t, c4d, csh, cal]
   refine Qa lf (by simp) ?_
   by_cases hsz : w.size ≤ 120
   ·have hl0 : leB 0 (JC w.size 120) = true := by
     rw [Qm]; unfold JC; split <;> omega
    simp (disch := omega) [e0, e2, e3, e4, e6, e10, e11, e12, hb, c4, c4t, c4d, csh, cal, hl0]
    refine Qi (Qe.low tl) (by simp) ?_
    cases hT : Qq s (ctx.map Prod.snd) w with
    | ok x =>
     rintro r ⟨⟨u1, u2, u4, n4, rfl⟩, lo⟩
     have h0 : eqB 0 0 = true := by rw [Qd]
     simp (disch := omega) [e0, e2, e3, e4, e6, e10, e11, e12, c4, c4t, c4d, csh, cal, h0, fldLV]
     exact ZR (.inr rfl) (by first | exact e10 | simp [e10]) rfl c4 hk1 clo ⟨w, cs, rfl, csh, clo, cal, cok.wf, cok.fl, cok.form, by omega⟩
    | bad f p =>
     rintro r ⟨⟨hf0, u1, u2, u4, n4, rfl⟩, lo⟩
     have h0 : eqB f 0 = false := by rw [Qc]; exact hf0
     simp (disch := omega) [e0, e2, e3, e4, e6, e10, e11, e12, c4, c4t, c4d, csh, cal, h0, fldLV]
     refine Qp (Zl D ok s hs data 1 (by omega)) hct hk1 ?_
     rintro r i2 k2 hk2 ⟨l', rfl, hl'⟩
     have ol' := Zo hl' (by omega)
     simp (disch := omega) [e0, e2, e3, e4, e6, e10, e11, e12]
     refine Qa (Zat deep 2) (by simp) ?_
     simp (disch := omega) [e0, e2, e3, e4, e6, e10, e11, e12]
     refine Qp (Zk8 D ok hsy nlc ctx l' (min deep 2) hc hf ol' mn.1 (by omega)) hct hk2 ?_
     rintro r i3 k3 hk3 hr2
     obtain ⟨w2, cs2, rfl, d4, dsh, dlo, dal, dok⟩ := hr2.el
     have d4t : List.take 4 cs2 = cs2 := List.take_of_length_le (Nat.le_of_eq d4)
     simp (disch := omega) [e0, e2, e3, e4, e6, e10, e11, e12, c4, c4l, c4d, d4, d4t, Qf]
     exact ⟨by omega, i3, k3, w2, cs2, hk3, d4, dsh, dlo, dal, dok, rfl⟩
   ·have hl0 : leB 0 (JC w.size 120) = false := by
     rw [Qj]; unfold JC; split <;> omega
    simp (disch := omega) [e0, e2, e3, e4, e6, e10, e11, e12, hb, c4, c4t, c4d, csh, cal, hl0]
    refine Qp (Zl D ok s hs data 1 (by omega)) hct hk1 ?_
    rintro r i2 k2 hk2 ⟨l', rfl, hl'⟩
    have ol' := Zo hl' (by omega)
    simp (disch := omega) [e0, e2, e3, e4, e6, e10, e11, e12]
    refine Qa (Zat deep 2) (by simp) ?_
    simp (disch := omega) [e0, e2, e3, e4, e6, e10, e11, e12]
    refine Qp (Zk8 D ok hsy nlc ctx l' (min deep 2) hc hf ol' mn.1 (by omega)) hct hk2 ?_
    rintro r i3 k3 hk3 hr2
    obtain ⟨w2, cs2, rfl, d4, dsh, dlo, dal, dok⟩ := hr2.el
    have d4t : List.take 4 cs2 = cs2 := List.take_of_length_le (Nat.le_of_eq d4)
    simp (disch := omega) [e0, e2, e3, e4, e6, e10, e11, e12, c4, c4l, c4d, d4, d4t, Qf]
    exact ⟨by omega, i3, k3, w2, cs2, hk3, d4, dsh, dlo, dal, dok, rfl⟩
  ·have hb : ltB (j : Int) 3 = false := by rw [Qg]; omega
   simp (disch := omega) [e0, e2, e3, e4, e6, e10, e11, e12, hb]
   exact ⟨i1, k1, w, cs, hk1, c4, csh, clo, cal, cok, rfl⟩
 ·clear hr cok cal clo csh c4 hk2
  rintro t1 hh hf' ⟨i1, k1, w, cs, hk1, c4, csh, clo, cal, cok, rfl⟩
  have c4t : List.take 4 cs = cs := List.take_of_length_le (Nat.le_of_eq c4)
  have c4d : List.drop 4 cs = [] := List.drop_of_length_le (Nat.le_of_eq c4)
  have csz := cok.size
  have lf := ZcG w.size w (Nat.le_refl _) cok.wf 400 (by omega) (by omega)
  (have e10 := hf' 10 (by kernel_rfl); have e11 := hf' 11 (by kernel_rfl); clear hf'; simp [] at e10 e11)
  simp (disch := omega) [e10, e11, c4, csh, cal, c4t, c4d]
  refine Qa lf (by simp) ?_
  by_cases hsz : w.size ≤ 400
  ·have hl0 : ltB (JC w.size 400) 0 = false := by
    rw [Qg]; unfold JC; split <;> omega
   simp (disch := omega) [e10, e11, c4, csh, cal, c4t, c4d, hl0]
   exact ZR (.inr rfl) (by simp [e10]) rfl c4 hk1 (by simp [clo]) ⟨w, cs, rfl, csh, clo, cal, cok.wf, cok.fl, cok.form, by omega⟩
  ·have hl0 : ltB (JC w.size 400) 0 = true := by
    rw [Qh]; unfold JC; split <;> omega
   have c4l : 4 ≤ cs.length := Nat.le_of_eq c4.symm
   simp (disch := omega) [e10, e11, c4, csh, cal, c4t, c4d, hl0]
   refine Qa (ZaS 1 1 true [] (by simp) (by simp)) (by simp) ?_
   simp (disch := omega) [e10, e11, c4, c4l, c4d]
   exact ZR (.inr rfl) (by simp [e10]) rfl rfl hk1 (by simp) (Zdx (ks := []) (TmOk.k0 (by omega) (ZkC (by omega)) (by unfold I64; omega) (by simp [Lok]) (by simp [Zn]) (by omega)))
end
end Go.Proofs.YtclfngbealdbgaaGreat
namespace Go.Proofs.YtclfngbealdbgaaGreat
open Go Go.TL
open Go.Proofs.YtclfngbealdbgaaGreat.Ty
set_option linter.unusedSimpArgs false
set_option linter.unusedVariables false
set_option linter.unusedSectionVars false
set_option maxRecDepth 20000
set_option maxHeartbeats 4000000
def isTyped (most : Int) (r : LV) : Prop := ∃ (s : GSys) (ctx : Wk) (x y z : LV), r = .tup [x, y, z] ∧ s.sys = true ∧ s.wf ∧ x = s.lv ∧ y = LC false ctx ∧ Yx s ctx ∧ (ctx.length : Int) ≤ most ∧ isD s ctx.length 400 z
theorem ZpQ {a : Int} (h0 : 0 ≤ a) (h1 : a ≤ 1099511627776) : Xg .num .quo (N a) (N 60) = some (N (a / 60)) := by
 simp only [Xg, ZN]
 simp (disch := omega) [Int.tdiv_eq_ediv_of_nonneg h0, Qf]
theorem dDeep_ok (D : Dr) (ok : D.ok) : Qe Tryz.prog Zaw [D.lv] (fun r => ∃ m : Int, r = N m ∧ 2 ≤ m ∧ m ≤ 4) := by
 refine Qe.of_codeOf ZlN QA (by simp) ⟨N 2, ⟨2, rfl, by omega, by omega⟩, by simp⟩ ?_
 have hlen := ok.len
 have hq := ZpQ (a := D.bs.length) (by omega) (by omega)
 simp (disch := omega) [Zet, hq]
 refine Qa (Zat _ 2) (by simp) ?_
 have h0 : 0 ≤ (D.bs.length : Int) / 60 := by omega
 simp (disch := omega) [Qf]
 omega
theorem DS.cells (d : DS) : ∃ cs, d.lv = .agg cs ∧ cs.length = 4 ∧ Wu cs = true ∧ QD 0 cs ∧ shareAll cs = d.sys.cells := by
 have sd := DS.share d
 cases d
 all_goals
  refine ⟨_, rfl, rfl, rfl, by simp, ?_⟩
  simp only [DS.lv, share] at sd
  injection sd
theorem ZpF {D : Dr} {Q : LV → Prop} {h1 h3 ex : List Box} {ct : LV} {e : Exit} {s : St} {i' k' : Int} {xs ys : List LV} {ta tb tc : Nat} (he : e = .normal ∨ e = .ret) (ha : s.t ta = .ptr (h1.length + (h3.length + 1)) 0) (hc : s.t tc = .ptr (h1.length + (h3.length + 1 + 1)) 0) (hn : tc ≠ tb)
  (hh : s.h = h1 ++ some [ct, N i', N k'] :: (h3 ++ (some xs :: some ys :: ex))) (hx : xs.length = 4) (hy : ys.length = 4) (hk : XC D i' k') (lo : QD 0 [.agg xs, s.t tb, .agg ys]) (hq : Q (.tup [.agg xs, s.t tb, .agg ys])) :
  Ze4 D [.cell ta true 4, .tmp tb, .cell tc true 4] h1 h3 ct Q e s := by
 have g1 : s.h[h1.length + (h3.length + 1)]? = some (some xs) := by
  rw [hh, List.getElem?_append_right (by omega), show h1.length + (h3.length + 1) - h1.length = h3.length + 1 by omega, List.getElem?_cons_succ, List.getElem?_append_right (by omega), Nat.sub_self]
  rfl
 have s1 : ∀ z, s.h.set (h1.length + (h3.length + 1)) z = h1 ++ some [ct, N i', N k'] :: (h3 ++ (z :: some ys :: ex)) := fun z => by
  rw [hh, List.set_append_right _ _ (by omega), show h1.length + (h3.length + 1) - h1.length = h3.length + 1 by omega, List.set_cons_succ, List.set_append_right _ _ (by omega), Nat.sub_self]
  rfl
 have g2 : ∀ z, (h1 ++ some [ct, N i', N k'] :: (h3 ++ (z :: some ys :: ex)))[h1.length + (h3.length + 1 + 1)]? = some (some ys) := fun z => by
  rw [List.getElem?_append_right (by omega), show h1.length + (h3.length + 1 + 1) - h1.length = (h3.length + 1) + 1 by omega, List.getElem?_cons_succ, List.getElem?_append_right (by omega), show h3.length + 1 - h3.length = 1 by omega]
  rfl
 have s2 : ∀ z y, (h1 ++ some [ct, N i', N k'] :: (h3 ++ (z :: some ys :: ex))).set (h1.length + (h3.length + 1 + 1)) y = h1 ++ some [ct, N i', N k'] :: (h3 ++ (z :: y :: ex)) := fun z y => by
  rw [List.set_append_right _ _ (by omega), show h1.length + (h3.length + 1 + 1) - h1.length = (h3.length + 1) + 1 by omega, List.set_cons_succ, List.set_append_right _ _ (by omega), show h3.length + 1 - h3.length = 1 by omega]
  rfl
 have u : upd s.t tb (TL.share (s.t tb)) tc = .ptr (h1.length + (h3.length + 1 + 1)) 0 := by
  rw [← hc]; simp [upd, hn]
 refine ⟨he, [.agg xs, s.t tb, .agg ys], ⟨upd s.t tb (TL.share (s.t tb)), h1 ++ some [ct, N i', N k'] :: (h3 ++ (some (shareAll xs) :: some (shareAll ys) :: ex))⟩, i', k', _, ?_, rfl, hk, by simpa [Za0] using lo, hq⟩
 simp only [Yo, ZhM, ha, g1, hx, Wo, if_true, s1, u, g2, hy, s2]
theorem Jg {P : Program} {D : Dr} {K : St → Prop} {d : Nat} {f : FuncId} {rest : List LV} {Q : LV → Prop} {t : Nat → LV} {a b : Box} {h3 : List Box} {ct : LV} {i k : Int} (c : Wc P D f rest Q) (hct : TL.share ct = D.lv) (hk : XC D i k)
  (hh : ∀ r i' k', XC D i' k' → Q r → K { t := upd t d r, h := a :: b :: some [ct, N i', N k'] :: h3 }) : ZM P .fr f (.ptr 2 0 :: rest) (some d) K { t := t, h := a :: b :: some [ct, N i, N k] :: h3 } :=
 Qp (h1 := [a, b]) c hct hk hh
def Zob (r : LV) : Prop := ∃ (s : GSys) (ctx : Wk) (bs : List Int) (w : GTerm) (u : Bool) (ty : List Int), r = .tup [s.lv, LC false ctx, OU true false bs, w.lv, OU u false ty] ∧ s.sys = true ∧ s.wf ∧ Yx s ctx ∧ ctx.length ≤ 3 ∧ Lok bs ∧ TmOk s ctx.length 400 w ∧ okL s.size ty = true
def Zm8 (r : LV) : Prop := ∃ (s : GSys) (ctx : Wk) (bs : List Int) (w : GTerm), r = .tup [s.lv, LC false ctx, OU true false bs, w.lv] ∧ s.sys = true ∧ s.wf ∧ Yx s ctx ∧ ctx.length ≤ 3 ∧ Lok bs ∧ TmOk s ctx.length 400 w
theorem Zp2 : ∃ r, Zob r ∧ Low 0 r := by
 have h : TmOk (Z4 1 false) 0 400 (.mk 1 0 true [] true []) := TmOk.k0 (by omega) (ZkC (by omega)) (by unfold I64; omega) (by simp [Lok]) (by simp [Zn]) (by omega)
 exact ⟨_, ⟨Z4 1 false, [], [], .mk 1 0 true [] true [], true, [0], rfl, (DS.sound (.count 1) rfl).1, (DS.sound (.count 1) rfl).2, by simp [Yx], by simp, by simp [Lok], h, ZgU _⟩, by simp⟩
theorem Zmm : ∃ r, Zm8 r ∧ Low 0 r := by
 have h : TmOk (Z4 1 false) 0 400 (.mk 1 0 true [] true []) := TmOk.k0 (by omega) (ZkC (by omega)) (by unfold I64; omega) (by simp [Lok]) (by simp [Zn]) (by omega)
 exact ⟨_, ⟨Z4 1 false, [], [], .mk 1 0 true [] true [], rfl, (DS.sound (.count 1) rfl).1, (DS.sound (.count 1) rfl).2, by simp [Yx], by simp, by simp [Lok], h⟩, by simp⟩
section
variable (D : Dr) (ok : D.ok)
include ok
theorem ZpW (deep most : Int) (data : Bool) (hd : 0 ≤ deep ∧ deep ≤ 4) (hm : 0 ≤ most ∧ most ≤ 8) : Wc Tryz.prog D VW [N deep, N most, B data] (isTyped most) := by
 refine Wc.of_codeOf ZiI QA (by simp) ?_ ?_
 ·obtain ⟨z, hz⟩ := ZhU (s := Z4 1 false) (nv := 0) (m := 400) (by omega)
  exact ⟨.tup [(Z4 1 false).lv, LC false [], z], Z4 1 false, [], _, _, z, rfl, (DS.sound (.count 1) rfl).1, (DS.sound (.count 1) rfl).2, rfl, rfl, by simp [Yx], by simp; omega, hz⟩
 intro h1 h3 ct i k hct hk
 simp (disch := omega) [Zc2]
 refine Qp (Zor D ok) hct hk ?_
 rintro r i1 k1 hk1 ⟨d, hd', rfl⟩
 obtain ⟨dc, hdc, d4, dal, dlo, dsh⟩ := DS.cells d
 obtain ⟨s1, s2⟩ := DS.sound d hd'
 have ts := GSys.sys_of s1
 have h16 := ts.hi
 have hs : 1 ≤ d.sys.size ∧ d.sys.size ≤ 16 := ⟨by have := ts.lo; omega, h16⟩
 simp (disch := omega) [hdc, d4, dal, dsh, List.take_of_length_le, List.drop_of_length_le, Qs]
 refine Qp (Znt D ok d.sys hs most hm data) hct hk1 ?_
 rintro r i2 k2 hk2 ⟨ctx, rfl, hc, hlen⟩
 have hcm : LC false ctx = .sl false false 1 (ctx.map fun x => [L false x.2]) := congrArg _ (cx_map hc)
 have di := dIn_ok D ok s1 false ctx deep data hc (by omega) hd.1 hd.2
 rw [hcm] at di
 simp (disch := omega) [d4, dsh, List.take_of_length_le]
 refine Qp di hct hk2 ?_
 rintro r i3 k3 hk3 hr
 obtain ⟨w, cs, rfl, c4, csh, clo, cal, cok⟩ := hr.el
 have l4 : d.sys.cells.length = 4 := rfl
 simp (disch := omega) [c4, l4]
 refine ZpF (.inr rfl) (by simp) (by simp) (by decide) rfl rfl c4 hk3 (by simp [clo]) ?_
 exact ⟨d.sys, ctx, _, _, _, rfl, s1, s2, rfl, by rw [hcm]; simp, hc, hlen, hr⟩
theorem Zmw : Qe Tryz.prog Ky [D.lv] Zob := by
 refine Qe.of_codeOf ZgM QA (by simp) Zp2 ?_
 simp (disch := omega) [Zbm]
 refine WH (l1New_ok D ok _) ?_
 rintro r h' ⟨k, rfl, hk, rfl⟩
 have hct := D.share
 simp (disch := omega)
 refine Qi (dDeep_ok D ok) (by simp) ?_
 rintro r ⟨m, rfl, m2, m4⟩
 simp (disch := omega)
 refine Jg (Y8 D ok 2 (by unfold I64; omega)) hct hk ?_
 rintro r i1 k1 hk1 ⟨b, rfl⟩
 simp (disch := omega)
 refine Jg (ZpW D ok m 3 b ⟨by omega, m4⟩ (by omega)) hct hk1 ?_
 rintro r i2 k2 hk2 ⟨s, ctx, _, _, z, rfl, hsy, hsw, rfl, rfl, hc, hcl, hz⟩
 obtain ⟨w, cs, rfl, c4, csh, clo, cal, cok⟩ := hz.el
 have ts := GSys.sys_of hsy
 have h16 := ts.hi
 have hs : 1 ≤ s.size ∧ s.size ≤ 16 := ⟨by have := ts.lo; omega, h16⟩
 simp (disch := omega) [c4, csh, cal, List.take_of_length_le, List.drop_of_length_le, Qs]
 have csz := cok.size
 have hcl' : ctx.length ≤ 3 := by omega
 have nd : ∀ j : Nat, j < ctx.length → Qe Tryz.prog Xi [s.lv, LC false ctx, w.lv, N j] (fun r => ∃ m, r = N m ∧ s.G m) := fun j hj => Kc hsy false hc cok (by omega) j hj
 have tyo := ZoT hsy false hc cok (by omega)
 have ha1 : ∀ (l : List Int) (m : Int), l.length ≤ 1000 → WF 1 (OU true false l) (.sl true false 1 [[N m]]) = some (OU true false (l ++ [m])) := fun l m hl => Vr (l := l) (r := [m]) (u := true) (nl := false) (by simp; omega)
 refine Wb ctx.length 0 (fun j t h => t 12 = N j ∧ (∃ l, t 11 = OU true false l ∧ (∀ x ∈ l, I64 x) ∧ l.length = j) ∧ ∃ i' k', XC D i' k' ∧ h = [some [N 0, .sl true true 1 [], .sl true true 1 [], .sl true true 1 []], some [N 0, N 0, .sl true true 1 [], .sl true true 1 []], some [D.lv, N i', N k'], none, none])
  (fun t h => (∃ l, t 11 = OU true false l ∧ (∀ x ∈ l, I64 x) ∧ l.length = ctx.length) ∧ ∃ i' k', XC D i' k' ∧ h = [some [N 0, .sl true true 1 [], .sl true true 1 [], .sl true true 1 []], some [N 0, N 0, .sl true true 1 [], .sl true true 1 []], some [D.lv, N i', N k'], none, none]) ⟨by simp, ⟨[], by simp, by simp, by simp⟩, i2, k2, hk2, rfl⟩ (by omega) ?_ ?_
 ·rintro j t1 hh hf' hj ⟨e12, ⟨l, e11, hl, hlen⟩, i3, k3, hk3, rfl⟩
  (have e2 := hf' 2 (by kernel_rfl); have e5 := hf' 5 (by kernel_rfl); have e7 := hf' 7 (by kernel_rfl); have e8 := hf' 8 (by kernel_rfl); have e9 := hf' 9 (by kernel_rfl); have e10 := hf' 10 (by kernel_rfl); clear hf'; simp [] at e2 e5 e7 e8 e9 e10)
  by_cases h6 : j < ctx.length
  ·have hb : ltB (j : Int) ctx.length = true := by rw [Qh]; omega
   simp (disch := omega) [e2, e5, e7, e8, e9, e10, e11, e12, hb, csh, c4, List.take_of_length_le]
   refine Qi (nd j h6) (by simp) ?_
   rintro r ⟨m, rfl, hm⟩
   simp (disch := omega)
   refine Jg (Zal D ok ts m hm) hct hk3 ?_
   rintro r i4 k4 hk4 ⟨g, rfl, hg⟩
   have ha := ha1 l g (by omega)
   simp (disch := omega) [Ql, ha, e11, e12, Qf]
   refine ⟨by omega, ⟨l ++ [g], by simp, fun x hx => ?_, by simp; omega⟩, hk4⟩
   rcases List.mem_append.1 hx with hx | hx
   ·exact hl x hx
   ·simp at hx; subst hx; exact GI h16 hg
  ·have hb : ltB (j : Int) ctx.length = false := by rw [Qg]; omega
   simp (disch := omega) [e9, e12, hb]
   exact ⟨⟨l, e11, hl, by omega⟩, hk3⟩
 ·rintro t1 hh hf' ⟨⟨l, e11, hl, hlen⟩, i3, k3, hk3, rfl⟩
  (have e2 := hf' 2 (by kernel_rfl); have e5 := hf' 5 (by kernel_rfl); have e7 := hf' 7 (by kernel_rfl); have e8 := hf' 8 (by kernel_rfl); have e9 := hf' 9 (by kernel_rfl); have e10 := hf' 10 (by kernel_rfl); clear hf'; simp [] at e2 e5 e7 e8 e9 e10)
  simp (disch := omega) [e2, e5, e7, e8, e9, e10, csh, c4, List.take_of_length_le]
  refine Qi tyo (by simp) ?_
  rintro r ⟨u, ty, rfl, oty⟩
  simp (disch := omega) [e2, e5, e7, e8, e9, e10]
  refine Jg (WP D ok 8 (by unfold I64; omega)) hct hk3 ?_
  rintro r i4 k4 hk4 ⟨m, rfl, _⟩
  simp (disch := omega)
  have fin : ∀ (v : Bool) (l' ty' : List Int), Lok l' → okL s.size ty' = true → Zob (.tup [s.lv, LC false ctx, OU true false l', w.lv, OU v false ty']) := fun v l' ty' hl' ht' =>
   ⟨s, ctx, l', w, v, ty', rfl, hsy, hsw, hc, hcl', hl', cok, ht'⟩
  (with_reducible first | refine Qo (fun q0 => ?_) (fun q0 => ?_) | refine Qn (fun q0 => ?_) (fun q0 => ?_))
  ·simp (disch := omega) [e2, e5, e7, e8, e9, e10]
   refine Jg (Zoh D ok s hs ctx.length (by omega)) hct hk4 ?_
   rintro r i5 k5 hk5 ⟨l2, rfl, hl2, _⟩
   simp (disch := omega) [e2, e5, e7, e8, e9, e10, c4, csh, List.take_of_length_le]
   exact fin _ l2 ty hl2 oty
  ·simp (disch := omega)
   (with_reducible first | refine Qo (fun q1 => ?_) (fun q1 => ?_) | refine Qn (fun q1 => ?_) (fun q1 => ?_))
   ·have ha := ha1 l 0 (by omega)
    simp (disch := omega) [e2, e5, e7, e8, e9, e10, e11, c4, csh, List.take_of_length_le, Ql, ha]
    have := fin u (l ++ [0]) ty ⟨by simp; omega, fun x hx => by
     rcases List.mem_append.1 hx with hx | hx
     ·exact hl x hx
     ·simp at hx; subst hx; unfold I64; omega⟩ oty
    exact this
   ·simp (disch := omega)
    (with_reducible first | refine Qo (fun q2 => ?_) (fun q2 => ?_) | refine Qn (fun q2 => ?_) (fun q2 => ?_))
    ·simp (disch := omega) [e2, e5, e7, e8, e9, e10]
     refine Jg (Zl D ok s hs true 2 (by omega)) hct hk4 ?_
     rintro r i5 k5 hk5 ⟨ty2, rfl, hty2⟩
     have oty2 := Zo hty2 (by omega)
     simp (disch := omega) [e2, e5, e7, e8, e9, e10, e11, c4, csh, List.take_of_length_le]
     exact fin _ l ty2 ⟨by omega, hl⟩ oty2
    ·simp (disch := omega) [e2, e5, e7, e8, e9, e10, e11, c4, csh, List.take_of_length_le]
     exact fin _ l ty ⟨by omega, hl⟩ oty
theorem ZfH : Qe Tryz.prog Zs [D.lv] Zm8 := by
 refine Qe.of_codeOf Zb0 QA (by simp) Zmm ?_
 simp (disch := omega) [Ke]
 refine Qi (Qe.low (Zmw D ok)) (by simp) ?_
 rintro r ⟨⟨s, ctx, bs, w, u, ty, rfl, hsy, hsw, hc, hcl, hbs, hw, hty⟩, lo⟩
 simp (disch := omega) [Qs]
 exact ⟨s, ctx, bs, w, rfl, hsy, hsw, hc, hcl, hbs, hw⟩
end
end Go.Proofs.YtclfngbealdbgaaGreat
namespace Go.Proofs.YtclfngbealdbgaaGreat
open Go Go.TL
open Go.Proofs.YtclfngbealdbgaaGreat.Ty
set_option linter.unusedSimpArgs false
set_option linter.unusedVariables false
set_option linter.unusedSectionVars false
set_option maxRecDepth 20000
set_option maxHeartbeats 4000000
theorem Zio (ps : List (Int × List Int)) (p : Int × List Int) (ty : List Int) : clT (ps ++ [p]) ty = (3 + p.1) :: (p.2 ++ clT ps ty) := by simp [clT]
theorem Zkp : ∀ (ps : List (Int × List Int)) (ty : List Int), (∀ p ∈ ps, p.2.length ≤ 40) → (clT ps ty).length ≤ ty.length + 41 * ps.length
 | [], ty, _ => by simp [clT]
 | p :: ps, ty, h => by
  have h1 := h p (by simp)
  have := Zkp ps ((3 + p.1) :: (p.2 ++ ty)) fun q hq => h q (by simp [hq])
  simp only [clT, List.foldl_cons, List.length_cons, List.length_append] at this ⊢
  omega
theorem fits_G {s : GSys} {ctx : Wk} {bs : List Int} {g : GTerm} {ty : List Int} (h : Kh s ctx bs g ty = true) {j : Nat} (hj : j < bs.length) : s.G (bs.getD j 0) := by
 unfold Kh at h
 cases hx : XX s ctx g with
 | none => rw [hx] at h; simp at h
 | some x =>
  rw [hx] at h
  simp only [Bool.and_eq_true, YX] at h
  have := h.2.2 j hj
  simp only [K7, Bool.and_eq_true, QM] at this
  exact ⟨this.1.1, by omega⟩
theorem Zp0 (D : Dr) (hb' : ∀ b ∈ D.bs, 0 ≤ b ∧ b ≤ 255) : Qe Tryz.prog Zba [D.lv] (· = B true) := by
 refine Qe.of_codeOf Zgs QA (by simp) ⟨_, rfl, by simp⟩ ?_
 simp (disch := omega) [Zbb]
 refine Qa (big_ok D) (by simp) ?_
 cases hB : ltB 1048576 (D.bs.length : Int)
 rotate_left
 ·simp (disch := omega)
 rw [Qg] at hB
 have ok : D.ok := ⟨by omega, hb'⟩
 simp (disch := omega)
 refine Qi (Qe.low (ZfH D ok)) (by simp) ?_
 rintro r ⟨⟨s, ctx, gs, g, rfl, hsy, hsw, hc, hcl, hgs, hg⟩, lo⟩
 have hgl := hgs.1
 have a : Arg s ctx g := ⟨hsw, ⟨by omega, fun c h => ZG (Yi (hc.1 c h))⟩, hg.wf, fun c h => by rw [hc.2 c h]; simp [Zn], hg.fl⟩
 have ts := GSys.sys_of hsy
 have h16 := ts.hi
 simp (disch := omega) [Qs, List.take_of_length_le]
 refine Qi (Qe.low (Zln a false false gs hgs)) (by simp) ?_
 rintro r ⟨hr, lo2⟩
 cases hcO : JL s ctx gs g with
 | none =>
  rw [hcO] at hr
  obtain ⟨z, rfl, z4, zal⟩ := hr
  simp (disch := omega) [Qs, z4, zal, List.take_of_length_le]
  refine Qi (Qe.low (Zfe a false false gs hgs)) (by simp) ?_
  rintro r ⟨hr, lo3⟩
  rw [hcO] at hr
  obtain ⟨z2, rfl, z24, z2al⟩ := hr
  simp (disch := omega) [Qs, z24, z2al, List.take_of_length_le]
 | some c =>
  rw [hcO] at hr
  obtain ⟨z, rfl, w, cs, rfl, csh, hwn, hwf⟩ := hr
  have c4 : cs.length = 4 := by rw [← WW, csh]; simp
  have cal := ZaG csh
  obtain ⟨x, hx, hft, aw, law⟩ := Zoa a hgs hcO hwn hwf
  obtain ⟨hgd, _, _, _, hc8, _⟩ := Zu a hx
  have hty := ZG (Yi hgd.1)
  have hty40 := QF hgd.1
  have hlen := ZeB hft
  have hll : gs.length = (ctx.map Prod.snd).length := by simp [hlen]
  have to1 := Zcx a false
  rw [hx] at to1
  simp (disch := omega) [Qs, c4, csh, cal, List.take_of_length_le]
  refine Qi (Qe.low to1) (by simp) ?_
  rintro r ⟨hr, lo3⟩
  subst hr
  simp (disch := omega) [Qs, c4, csh, cal, List.take_of_length_le]
  refine Qi (Qe.low (Zcx aw true)) (by simp) ?_
  rintro r ⟨hr, lo4⟩
  have ft := Zo0 a false false false gs x.ty hgs hty
  rw [hft] at ft
  obtain ⟨ps, hps⟩ : ∃ ps, gs.zip (ctx.map Prod.snd) = ps := ⟨_, rfl⟩
  have hpl : ps.length = ctx.length := by rw [← hps]; simp [hlen]
  have hp40 : ∀ p ∈ ps, p.2.length ≤ 40 := by
   rintro ⟨p1, p2⟩ hp
   rw [← hps] at hp
   obtain ⟨c', hc1, hc2⟩ := List.mem_map.1 (List.of_mem_zip hp).2
   rw [← hc2]; exact (QF (hc.1 c' hc1)).2
  rw [hps] at law
  have bnd : ∀ j, (clT (ps.take j) x.ty).length ≤ 1000 := fun j => by
   have h1 := Zkp (ps.take j) x.ty fun p hp => hp40 p (List.mem_of_mem_take hp)
   have h2 : (ps.take j).length ≤ 3 := by rw [List.length_take]; omega
   omega
  have stp : ∀ (j : Nat) (h : j < ctx.length), ps.take (j + 1) = ps.take j ++ [(gs.getD j 0, ctx[j].2)] := fun j h => by
   have := Zh7 hll (j := j) (by omega)
   rw [hps] at this
   rw [this]
   simp [List.getD_eq_getElem?_getD, h]
  cases hy : XX s [] w with
  | none =>
   rw [hy] at hr law
   subst hr
   simp (disch := omega) [Qs, c4, csh, cal, List.take_of_length_le]
   refine Qa ft (by simp) ?_
   simp (disch := omega)
   refine Wb ctx.length 0 (fun j t h => t 18 = N j ∧ t 17 = N ((clT (ps.take j) x.ty).length : Int)) (fun t h => t 17 = N ((clT ps x.ty).length : Int)) ⟨by simp, by simp [clT]⟩ (by omega) ?_ ?_
   ·rintro j t1 hh hf' hj ⟨e18, e17⟩
    (have e4 := hf' 4 (by kernel_rfl); clear hf'; simp [] at e4)
    by_cases h6 : j < ctx.length
    ·have hb6 : ltB (j : Int) ctx.length = true := by rw [Qh]; omega
     have hic := KI ctx false j h6
     have hs := stp j h6
     have hb1 := bnd j
     have hb2 := bnd (j + 1)
     rw [hs, Zio] at hb2
     have hcf := hc.2 _ (List.getElem_mem h6)
     generalize ctx[j] = c at *
     obtain ⟨cn, cl'⟩ := c
     try simp only at hcf
     subst hcf
     simp at hb2
     simp (disch := omega) [e4, e17, e18, hb6, hic, Qf, hs, Zio]
     omega
    ·have hb6 : ltB (j : Int) ctx.length = false := by rw [Qg]; omega
     have e : ps.take j = ps := List.take_of_length_le (by omega)
     rw [e] at e17
     simp (disch := omega) [e4, e17, e18, hb6]
   ·rintro t1 hh hf' e17
    have hg40 : ltB 40 ((clT ps x.ty).length : Int) = true := by rw [Qh]; omega
    simp (disch := omega) [e17, hg40]
  | some y =>
   rw [hy] at hr law
   obtain ⟨ly, ln⟩ := law
   subst hr
   simp (disch := omega) [Qs, c4, csh, cal, List.take_of_length_le]
   refine Qa ft (by simp) ?_
   simp (disch := omega)
   refine Wb ctx.length 0 (fun j t h => t 19 = N j ∧ t 11 = OU true false (clT (ps.take j) x.ty)) (fun t h => t 11 = OU true false (clT ps x.ty)) ⟨by simp, by simp [clT]⟩ (by omega) ?_ ?_
   ·rintro j t1 hh hf' hj ⟨e19, e11⟩
    (have e4 := hf' 4 (by kernel_rfl); have e5 := hf' 5 (by kernel_rfl); clear hf'; simp [] at e4 e5)
    by_cases h6 : j < ctx.length
    ·have hb6 : ltB (j : Int) ctx.length = true := by rw [Qh]; omega
     have hic := KI ctx false j h6
     have hix := W9 gs false false j (by omega) (by omega)
     try simp only [Int.toNat_natCast] at hix
     have hs := stp j h6
     have hb1 := bnd j
     have hGj : s.G (gs.getD j 0) := fits_G hft (by omega)
     have g0 := hGj.1; have g1 := hGj.2
     have hcf := hc.2 _ (List.getElem_mem h6)
     have hcl2 := QF (hc.1 _ (List.getElem_mem h6))
     generalize ctx[j] = c at *
     obtain ⟨cn, cl'⟩ := c
     try simp only at hcf hcl2
     subst hcf
     generalize gs.getD j 0 = gj at *
     obtain ⟨T, hT⟩ : ∃ T, clT (ps.take j) x.ty = T := ⟨_, rfl⟩
     rw [hT] at hb1 e11
     have ap1 : WF 1 (.sl true false 1 [[N (3 + gj)]]) (L false cl') = some (OU true false ((3 + gj) :: cl')) := Vr (l := [3 + gj]) (r := cl') (u := false) (nl := false) (by simp; omega)
     have ap2 : WF 1 (OU true false ((3 + gj) :: cl')) (OU true false T) = some (OU true false ((3 + gj) :: (cl' ++ T))) := Vr (l := (3 + gj) :: cl') (r := T) (by simp; omega)
     simp (disch := omega) [e4, e5, e11, e19, hb6, hic, hix, Qf, Ql, ap1, ap2, hs, Zio, hT]
     exact h6
    ·have hb6 : ltB (j : Int) ctx.length = false := by rw [Qg]; omega
     have e : ps.take j = ps := List.take_of_length_le (by omega)
     rw [e] at e11
     simp (disch := omega) [e4, e11, e19, hb6]
   ·rintro t1 hh hf' e11
    (have e14 := hf' 14 (by kernel_rfl); have e15 := hf' 15 (by kernel_rfl); clear hf'; simp [] at e14 e15)
    have hyl := QF (Zu aw hy).1.1
    have hln : eqB (y.needs.length : Int) 0 = true := by rw [Qd, ln]; rfl
    simp (disch := omega) [e11, e14, e15, hln]
    refine Qa (ints_ok false false y.ty (clT ps x.ty) (by omega)) (by simp) ?_
    simp (disch := omega) [ly]
end Go.Proofs.YtclfngbealdbgaaGreat
