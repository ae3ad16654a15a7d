/- The systems that are drawn. No conditions. -/
import Derived.Test.YticcekapikfhaaaDb
namespace Go.Proofs.Yticcekapikfhaaa
open Go Go.TL
set_option linter.unusedSimpArgs false
set_option linter.unusedVariables false
set_option linter.unusedSectionVars false
set_option maxRecDepth 100000
set_option maxHeartbeats 4000000

/-- a system that is drawn -/
inductive DS where
  | count (n : Nat) | bound (n : Nat) | level (n : Nat) | prod (n : Nat)
def DS.ok : DS → Bool
  | .count n => decide (1 ≤ n) && decide (n ≤ 3)
  | .bound n => decide (1 ≤ n) && decide (n ≤ 3)
  | .level n => decide (1 ≤ n) && decide (n ≤ 3)
  | .prod n => decide (1 ≤ n) && decide (n ≤ 2)
def cntG (n : Nat) (bound : Bool) : GSys := tabG (n + 2) (nPl n) (nTm n) (nBl n bound)
def levG (n : Nat) : GSys := tabG (n + 1) (lPl n) (lTm n) (lBl n)
def prodG (n : Nat) : GSys := tabG (3 * (n + 1)) (pPl (cntG 1 false) (levG n) (n + 1)) (pTm (cntG 1 false) (levG n) (n + 1)) (pBl (cntG 1 false) (levG n) (n + 1))
def DS.sys : DS → GSys
  | .count n => cntG n false
  | .bound n => cntG n true
  | .level n => levG n
  | .prod n => prodG n
/-- the value of a drawn system -/
def DS.lv : DS → LV
  | .count n => tabSys (n + 2) (nPl n) (nTm n) (nBl n false)
  | .bound n => tabSys (n + 2) (nPl n) (nTm n) (nBl n true)
  | .level n => tabSys (n + 1) (lPl n) (lTm n) (lBl n)
  | .prod n => tabSys (3 * (n + 1)) (pPl (cntG 1 false) (levG n) (n + 1)) (pTm (cntG 1 false) (levG n) (n + 1)) (pBl (cntG 1 false) (levG n) (n + 1))
theorem DS.share (d : DS) : share d.lv = d.sys.lv := by
  cases d <;> simp only [DS.lv, DS.sys, cntG, levG, prodG, share_tab]
theorem cnt_sys : (cntG 1 false).sys = true ∧ (cntG 2 false).sys = true ∧ (cntG 3 false).sys = true := by decide +kernel
theorem bnd_sys : (cntG 1 true).sys = true ∧ (cntG 2 true).sys = true ∧ (cntG 3 true).sys = true := by decide +kernel
theorem lev_sys : (levG 1).sys = true ∧ (levG 2).sys = true ∧ (levG 3).sys = true := by decide +kernel
theorem prod_sys : (prodG 1).sys = true ∧ (prodG 2).sys = true := by decide +kernel
def GSys.wfB (s : GSys) : Bool := decide (s.size ≤ 100) && decide (0 ≤ s.size) && decide (s.plus.length ≤ 10000) && decide (s.times.length ≤ 10000) && decide (s.below.length ≤ 10000) && s.plus.all (fun n => decide (0 ≤ n) && decide (n ≤ 100)) && s.times.all (fun n => decide (0 ≤ n) && decide (n ≤ 100))
theorem GSys.wf_B {s : GSys} (h : s.wfB = true) : s.wf := by
  simp only [GSys.wfB, Bool.and_eq_true, decide_eq_true_eq, List.all_eq_true] at h
  obtain ⟨⟨⟨⟨⟨⟨h1, h2⟩, h3⟩, h4⟩, h5⟩, h6⟩, h7⟩ := h
  exact ⟨by unfold I64; omega, by omega, by omega, by omega, fun n hn => by have := h6 n hn; unfold I64; omega, fun n hn => by have := h7 n hn; unfold I64; omega⟩
theorem cnt_wf : (cntG 1 false).wfB = true ∧ (cntG 2 false).wfB = true ∧ (cntG 3 false).wfB = true ∧ (cntG 1 true).wfB = true ∧ (cntG 2 true).wfB = true ∧ (cntG 3 true).wfB = true := by decide +kernel
theorem lev_wf : (levG 1).wfB = true ∧ (levG 2).wfB = true ∧ (levG 3).wfB = true ∧ (prodG 1).wfB = true ∧ (prodG 2).wfB = true := by decide +kernel
theorem DS.sound (d : DS) (h : d.ok = true) : d.sys.sys = true ∧ d.sys.wf := by
  have key : ∀ n, 1 ≤ n → n ≤ 3 → n = 1 ∨ n = 2 ∨ n = 3 := fun n _ _ => by omega
  cases d with
  | count n =>
    simp only [DS.ok, Bool.and_eq_true, decide_eq_true_eq] at h
    rcases key n h.1 h.2 with rfl | rfl | rfl
    · exact ⟨cnt_sys.1, GSys.wf_B cnt_wf.1⟩
    · exact ⟨cnt_sys.2.1, GSys.wf_B cnt_wf.2.1⟩
    · exact ⟨cnt_sys.2.2, GSys.wf_B cnt_wf.2.2.1⟩
  | bound n =>
    simp only [DS.ok, Bool.and_eq_true, decide_eq_true_eq] at h
    rcases key n h.1 h.2 with rfl | rfl | rfl
    · exact ⟨bnd_sys.1, GSys.wf_B cnt_wf.2.2.2.1⟩
    · exact ⟨bnd_sys.2.1, GSys.wf_B cnt_wf.2.2.2.2.1⟩
    · exact ⟨bnd_sys.2.2, GSys.wf_B cnt_wf.2.2.2.2.2⟩
  | level n =>
    simp only [DS.ok, Bool.and_eq_true, decide_eq_true_eq] at h
    rcases key n h.1 h.2 with rfl | rfl | rfl
    · exact ⟨lev_sys.1, GSys.wf_B lev_wf.1⟩
    · exact ⟨lev_sys.2.1, GSys.wf_B lev_wf.2.1⟩
    · exact ⟨lev_sys.2.2, GSys.wf_B lev_wf.2.2.1⟩
  | prod n =>
    simp only [DS.ok, Bool.and_eq_true, decide_eq_true_eq] at h
    rcases (show n = 1 ∨ n = 2 by omega) with rfl | rfl
    · exact ⟨prod_sys.1, GSys.wf_B lev_wf.2.2.2.1⟩
    · exact ⟨prod_sys.2, GSys.wf_B lev_wf.2.2.2.2⟩
theorem BoundSystem_ok (n : Nat) (h1 : 1 ≤ n) (hn : n ≤ 14) : Gives Try.prog n_spec_BoundSystem [N n] (· = tabSys (n + 2) (nPl n) (nTm n) (nBl n true)) := by
  refine Gives.of_codeOf c_spec_BoundSystem mixed (by simp) ⟨_, rfl, by simp⟩ ?_
  have h := l1Numbers_ok n h1 hn true
  simp (disch := omega) [-onBool_some, -onBool_leT, -onBool_leF, -onBool_ltT, -onBool_ltF, -onBool_eqT, -onBool_eqF, k_spec_BoundSystem]
  repeat' (first
    | with_reducible refine onCall_eq (h) (by simp) ?_
    | (with_reducible (first | refine onBoolT (fun hb_ => ?_) (fun hb_ => ?_) | refine onBoolF (fun hb_ => ?_) (fun hb_ => ?_)) <;> simp (disch := omega) [-onBool_some, -onBool_leT, -onBool_leF, -onBool_ltT, -onBool_ltF, -onBool_eqT, -onBool_eqF, hb_])
    | simp (disch := omega) [-onBool_some, -onBool_leT, -onBool_leF, -onBool_ltT, -onBool_ltF, -onBool_eqT, -onBool_eqF])
  all_goals simp
theorem specCountSystem_ok (n : Nat) (h1 : 1 ≤ n) (hn : n ≤ 14) : Gives Try.prog n_spec_CountSystem [N n] (· = tabSys (n + 2) (nPl n) (nTm n) (nBl n false)) := by
  refine Gives.of_codeOf c_spec_CountSystem mixed (by simp) ⟨_, rfl, by simp⟩ ?_
  have h := l1Numbers_ok n h1 hn false
  simp (disch := omega) [-onBool_some, -onBool_leT, -onBool_leF, -onBool_ltT, -onBool_ltF, -onBool_eqT, -onBool_eqF, k_spec_CountSystem]
  repeat' (first
    | with_reducible refine onCall_eq (h) (by simp) ?_
    | (with_reducible (first | refine onBoolT (fun hb_ => ?_) (fun hb_ => ?_) | refine onBoolF (fun hb_ => ?_) (fun hb_ => ?_)) <;> simp (disch := omega) [-onBool_some, -onBool_leT, -onBool_leF, -onBool_ltT, -onBool_ltF, -onBool_eqT, -onBool_eqF, hb_])
    | simp (disch := omega) [-onBool_some, -onBool_leT, -onBool_leF, -onBool_ltT, -onBool_ltF, -onBool_eqT, -onBool_eqF])
  all_goals simp
def prodOk (n : Nat) : Bool := (List.range (3 * (n + 1))).all fun g => decide (0 ≤ firstI (n + 1) g) && decide (firstI (n + 1) g < 3) && decide (0 ≤ secondI (n + 1) g) && decide (secondI (n + 1) g < n + 1)
theorem prodOk_12 : prodOk 1 = true ∧ prodOk 2 = true := by decide +kernel
theorem Product_ok (n : Nat) (h1 : 1 ≤ n) (hn : n ≤ 2) : Gives Try.prog n_spec_ProductSystem [(cntG 1 false).lv, (levG n).lv] (· = .tup [(DS.prod n).lv, B true]) := by
  have hp : prodOk n = true := by
    rcases (show n = 1 ∨ n = 2 by omega) with rfl | rfl
    · exact prodOk_12.1
    · exact prodOk_12.2
  have q1 := DS.sound (.count 1) rfl
  have q2 := DS.sound (.level n) (by simp [DS.ok]; omega)
  refine ProductSystem_ok (cntG 1 false) (levG n) q1.2 q2.2 q1.1 q2.1 3 (n + 1) rfl rfl (by omega) fun g hg => ?_
  simp only [prodOk, List.all_eq_true, List.mem_range, Bool.and_eq_true, decide_eq_true_eq] at hp
  have := hp g hg
  refine ⟨⟨this.1.1.1, this.1.1.2⟩, this.1.2, ?_⟩
  show _ < ((n + 1 : Nat) : Int)
  simpa using this.2
section
variable (D : Dr) (ok : D.ok)
include ok
theorem dSystem_ok : FCalls Try.prog D n_spec_dSystem [] (fun r => ∃ d : DS, d.ok = true ∧ r = d.lv) := by
  refine FCalls.of_codeOf c_spec_dSystem mixed (by simp) ⟨_, .count 1, rfl, rfl⟩ ?_
  intro h1 h3 ct i k hct hk
  simp (disch := omega) [-onBool_some, -onBool_leT, -onBool_leF, -onBool_ltT, -onBool_ltF, -onBool_eqT, -onBool_eqF, k_spec_dSystem]
  refine onCall_cur (l1Below_ok D ok 3 (by unfold I64; omega)) hct hk ?_
  rintro r i1 k1 hk1 ⟨m, rfl, hm0, hm1, _⟩
  have hm := hm1 (by omega)
  obtain ⟨n, rfl⟩ : ∃ n : Nat, m = n := ⟨m.toNat, by omega⟩
  have e1 : (1 : Int) + n = ((n + 1 : Nat) : Int) := by simp; omega
  have w1 : Gives Try.prog n_spec_BoundSystem [N (1 + n)] (· = (DS.bound (n + 1)).lv) := by rw [e1]; exact BoundSystem_ok (n + 1) (by omega) (by omega)
  have w2 : Gives Try.prog n_spec_CountSystem [N (1 + n)] (· = (DS.count (n + 1)).lv) := by rw [e1]; exact specCountSystem_ok (n + 1) (by omega) (by omega)
  have w3 : Gives Try.prog n_spec_LevelSystem [N (1 + n)] (· = (DS.level (n + 1)).lv) := by rw [e1]; exact LevelSystem_ok (n + 1) (by omega) (by omega)
  have w4 : Gives Try.prog n_spec_CountSystem [N 1] (· = (DS.count 1).lv) := specCountSystem_ok 1 (by omega) (by omega)
  have cells : ∀ d : DS, ∃ a b c e, d.lv = .agg [a, b, c, e] ∧ a.alive = true ∧ b.alive = true ∧ c.alive = true ∧ e.alive = true ∧ Low 0 d.lv := fun d => by
    cases d <;> exact ⟨_, _, _, _, rfl, rfl, rfl, rfl, rfl, by simp [DS.lv]⟩
  simp (disch := omega) [-onBool_some, -onBool_leT, -onBool_leF, -onBool_ltT, -onBool_ltF, -onBool_eqT, -onBool_eqF, i64_wrap]
  obtain ⟨a1, a2, a3, a4, ea, al1, al2, al3, al4, la⟩ := cells (.bound (n + 1))
  rw [ea] at w1
  refine onCall_eq w1 (by rw [← ea] at *; simp) ?_
  simp (disch := omega) [-onBool_some, -onBool_leT, -onBool_leF, -onBool_ltT, -onBool_ltF, -onBool_eqT, -onBool_eqF, i64_wrap]
  refine onCall_cur (l1Below_ok D ok 8 (by unfold I64; omega)) hct hk1 ?_
  rintro r i2 k2 hk2 ⟨m, rfl, _⟩
  simp (disch := omega) [-onBool_some, -onBool_leT, -onBool_leF, -onBool_ltT, -onBool_ltF, -onBool_eqT, -onBool_eqF, i64_wrap]
  obtain ⟨b1, b2, b3, b4, eb, bl1, bl2, bl3, bl4, lb⟩ := cells (.count (n + 1))
  obtain ⟨c1, c2, c3, c4, ec, cl1, cl2, cl3, cl4, lc⟩ := cells (.level (n + 1))
  have okn : ∀ d : DS, (d = .bound (n + 1) ∨ d = .count (n + 1) ∨ d = .level (n + 1)) → d.ok = true := by
    rintro d (rfl | rfl | rfl) <;> (simp [DS.ok]; omega)
  rw [eb] at w2
  rw [ec] at w3
  have fin : ∀ (x1 x2 x3 x4 : LV) (d : DS), d.ok = true → d.lv = .agg [x1, x2, x3, x4] → ∀ (e : Exit) (s : St) (i' k' : Int) (z : List LV), z.length = 4 → e = .ret → s.t 2 = .ptr (h1.length + (h3.length + 1)) 0 → CurOk D i' k' →
      s.h = h1 ++ some [ct, N i', N k'] :: (h3 ++ [some [x1, x2, x3, x4], some z]) → PostC D [.cell 2 true 4] h1 h3 ct (fun r => ∃ d : DS, d.ok = true ∧ r = d.lv) e s := by
    intro x1 x2 x3 x4 d hd hl e s i' k' z hz he ht hk hh
    obtain ⟨y1, y2, y3, y4, ey, _, _, _, _, ly⟩ := cells d
    exact postC_cell (j := 0) (.inr he) ht hh (by omega) rfl rfl rfl hk (by rw [← hl]; exact ly) ⟨d, hd, hl.symm⟩
  repeat' (first
    | with_reducible refine onCall_eq (w2) (by simp) ?_
    | with_reducible refine onCall_eq (w3) (by simp) ?_
    | with_reducible refine onCall_eq (w4) (by simp) ?_
    | (with_reducible (first | refine onBoolT (fun hb_ => ?_) (fun hb_ => ?_) | refine onBoolF (fun hb_ => ?_) (fun hb_ => ?_)) <;> simp (disch := omega) [-onBool_some, -onBool_leT, -onBool_leF, -onBool_ltT, -onBool_ltF, -onBool_eqT, -onBool_eqF, hb_, i64_wrap, al1, al2, al3, al4, bl1, bl2, bl3, bl4, cl1, cl2, cl3, cl4])
    | simp (disch := omega) [-onBool_some, -onBool_leT, -onBool_leF, -onBool_ltT, -onBool_ltF, -onBool_eqT, -onBool_eqF, i64_wrap, al1, al2, al3, al4, bl1, bl2, bl3, bl4, cl1, cl2, cl3, cl4])
  any_goals (first
    | exact fin _ _ _ _ _ (okn _ (.inr (.inl rfl))) eb _ _ _ _ _ rfl rfl rfl hk2 rfl
    | exact fin _ _ _ _ _ (okn _ (.inr (.inr rfl))) ec _ _ _ _ _ rfl rfl rfl hk2 rfl
    | exact fin _ _ _ _ _ (okn _ (.inl rfl)) ea _ _ _ _ _ rfl rfl rfl hk2 rfl)
  refine onCall_cur (l1Below_ok D ok 2 (by unfold I64; omega)) hct hk2 ?_
  rintro r i3 k3 hk3 ⟨m3, rfl, hn0, hn1, _⟩
  have hm3 := hn1 (by omega)
  obtain ⟨n3, rfl⟩ : ∃ n : Nat, m3 = n := ⟨m3.toNat, by omega⟩
  have v3 : Gives Try.prog n_spec_LevelSystem [N (1 + n3)] (· = (DS.level (n3 + 1)).lv) := by rw [show (1 : Int) + n3 = ((n3 + 1 : Nat) : Int) by simp; omega]; exact LevelSystem_ok (n3 + 1) (by omega) (by omega)
  obtain ⟨d1, d2, d3, d4, ed, dl1, dl2, dl3, dl4, ld⟩ := cells (.level (n3 + 1))
  obtain ⟨f1, f2, f3, f4, ef, fl1, fl2, fl3, fl4, lf⟩ := cells (.count 1)
  obtain ⟨g1, g2, g3, g4, eg, gl1, gl2, gl3, gl4, lg⟩ := cells (.prod (n3 + 1))
  have v4 := Product_ok (n3 + 1) (by omega) (by omega)
  have sd := DS.share (.level (n3 + 1))
  have sf := DS.share (.count 1)
  rw [ed, show (DS.level (n3 + 1)).sys = levG (n3 + 1) from rfl] at sd
  rw [ef, show (DS.count 1).sys = cntG 1 false from rfl] at sf
  rw [← sf, ← sd, eg] at v4
  rw [ed] at v3
  have la : ∀ (d : DS) {x1 x2 x3 x4 : LV}, d.lv = .agg [x1, x2, x3, x4] → Low 0 (share (.agg [x1, x2, x3, x4])) := fun d x1 x2 x3 x4 he => by rw [← he, DS.share]; simp
  have lsd := la _ ed
  have lsf := la _ ef
  simp only [share_agg, shareAll_cons, shareAll_nil, low_agg, lowAll_cons, lowAll_nil] at v4 lsd lsf
  simp (disch := omega) [-onBool_some, -onBool_leT, -onBool_leF, -onBool_ltT, -onBool_ltF, -onBool_eqT, -onBool_eqF, i64_wrap]
  refine onCall_eq v3 (by simp) ?_
  simp (disch := omega) [-onBool_some, -onBool_leT, -onBool_leF, -onBool_ltT, -onBool_ltF, -onBool_eqT, -onBool_eqF, i64_wrap]
  rw [show share (DS.count 1).lv = .agg [share f1, share f2, share f3, share f4] by rw [ef]; simp]
  refine onCall_eq v4 (by simp only [lowAll_cons, low_agg, lowAll_nil]; exact ⟨lsf, lsd, trivial⟩) ?_
  simp (disch := omega) [-onBool_some, -onBool_leT, -onBool_leF, -onBool_ltT, -onBool_ltF, -onBool_eqT, -onBool_eqF, i64_wrap, gl1, gl2, gl3, gl4]
  exact fin _ _ _ _ (.prod (n3 + 1)) (by simp [DS.ok]; omega) eg _ _ _ _ _ rfl rfl rfl hk3 rfl
end
end Go.Proofs.Yticcekapikfhaaa
