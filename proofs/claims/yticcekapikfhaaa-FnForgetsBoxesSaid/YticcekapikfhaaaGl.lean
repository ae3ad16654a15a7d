/- Systems and sessions, as the laws weigh, copy and compare them; what the law of IsSession tells. No conditions. -/
import Derived.Test.YticcekapikfhaaaGk
import Derived.Test.YticcekapikfhaaaGh
namespace Go.Proofs.Yticcekapikfhaaa
open Go Go.TL
set_option linter.unusedSimpArgs false
set_option linter.unusedVariables false
set_option maxRecDepth 20000
set_option maxHeartbeats 4000000

def Rok (l : List Int) : Prop := l.length ≤ 9223372036854775807 ∧ ∀ n ∈ l, I64 n
def GSys.raw (s : GSys) : Prop := I64 s.size ∧ Rok s.plus ∧ Rok s.times ∧ s.below.length ≤ 9223372036854775807
def GSys.w (s : GSys) : Nat := s.plus.length + (s.times.length + s.below.length)
theorem GSys.wf_of {s : GSys} (h : s.raw) (hw : s.w ≤ 1099511627776) : s.wf := by
  obtain ⟨h1, ⟨h2, h3⟩, ⟨h4, h5⟩, h6⟩ := h
  unfold GSys.w at hw
  exact ⟨h1, by omega, by omega, by omega, h3, h5⟩
def GSys.norm (s : GSys) : GSys := { s with n1 := false, n2 := false, n3 := false }
def GSys.own (s : GSys) : List LV := [N s.size, OU true false s.plus, OU true false s.times, OB true false s.below]
@[simp] theorem GSys.share_own (s : GSys) : shareAll s.own = s.norm.cells := by simp [GSys.own, GSys.norm]
@[simp] theorem GSys.low_own (s : GSys) (k : Nat) : LowAll k s.own := by simp [GSys.own]
@[simp] theorem GSys.own_length (s : GSys) : s.own.length = 4 := rfl
def GSys.same (a b : GSys) : Bool := eqB a.size b.size && ((a.plus == b.plus) && ((a.times == b.times) && (a.below == b.below)))
theorem GSys.same_refl (a : GSys) : a.same a = true := by simp [GSys.same]
theorem eqSystem_ok (a b : GSys) (hw : a.wf) : Gives Try.prog n_laws_eqSystem [a.lv, b.lv] (· = B (a.same b)) := by
  refine Gives.of_codeOf c_laws_eqSystem mixed (by simp) ⟨_, rfl, by simp⟩ ?_
  obtain ⟨hs, h1, h2, h3, h4, h5⟩ := hw
  have t1 := eqIntS_ok a.n1 b.n1 a.plus b.plus h1
  have t2 := eqIntS_ok a.n2 b.n2 a.times b.times h2
  have t3 := eqBoolS_ok a.n3 b.n3 a.below b.below h3
  rw [GSys.same]
  generalize (a.plus == b.plus) = q1 at *
  generalize (a.times == b.times) = q2 at *
  generalize (a.below == b.below) = q3 at *
  simp (disch := omega) [-onBool_some, -onBool_leT, -onBool_leF, -onBool_ltT, -onBool_ltF, -onBool_eqT, -onBool_eqF, k_laws_eqSystem, boxLV, frzLV]
  repeat' (first
    | with_reducible refine onCall_eq (t1) (by simp) ?_
    | with_reducible refine onCall_eq (t2) (by simp) ?_
    | with_reducible refine onCall_eq (t3) (by simp) ?_
    | (with_reducible (first | refine onBoolT (fun hb_ => ?_) (fun hb_ => ?_) | refine onBoolF (fun hb_ => ?_) (fun hb_ => ?_)) <;> simp (disch := omega) [-onBool_some, -onBool_leT, -onBool_leF, -onBool_ltT, -onBool_ltF, -onBool_eqT, -onBool_eqF, hb_])
    | simp (disch := omega) [-onBool_some, -onBool_leT, -onBool_leF, -onBool_ltT, -onBool_ltF, -onBool_eqT, -onBool_eqF])
  all_goals simp_all
/-! sessions -/
def GSes.raw (x : GSes) : Prop := x.sys.raw ∧ x.ctx.raw ∧ x.term.raw
def GSes.w (x : GSes) : Nat := x.sys.w + ((x.ctx.length + cws x.ctx) + x.term.w)
theorem GSes.wf_of {x : GSes} (h : x.raw) (hw : x.w ≤ 1099511627776) : x.wf := by
  obtain ⟨h1, h2, h3⟩ := h
  unfold GSes.w at hw
  exact ⟨GSys.wf_of h1 (by omega), ⟨by omega, fun c hc => ⟨by have := cws_mem hc; omega, (h2.2 c hc).2⟩⟩, Go.Proofs.Yticcekapikfhaaa.wf_of x.term h3 (by omega)⟩
def GSes.norm (x : GSes) : GSes := ⟨x.sys.norm, false, x.ctx.norm, x.term.norm⟩
def GSes.own (x : GSes) : List LV := x.sys.own ++ (x.ctx.own :: x.term.own)
@[simp] theorem shareAll_app : ∀ a b : List LV, shareAll (a ++ b) = shareAll a ++ shareAll b
  | [], b => by simp [shareAll]
  | x :: a, b => by simp [shareAll, shareAll_app a b]
@[simp] theorem lowAll_app (k : Nat) : ∀ a b : List LV, LowAll k (a ++ b) ↔ LowAll k a ∧ LowAll k b
  | [], b => by simp
  | x :: a, b => by simp [lowAll_app k a b, and_assoc]
@[simp] theorem GSes.share_own (x : GSes) : shareAll x.own = x.norm.cells := by
  simp [GSes.own, GSes.norm, GSes.cells, GCtx.norm]
@[simp] theorem GSes.low_own (x : GSes) (k : Nat) : LowAll k x.own := by simp [GSes.own]
@[simp] theorem GSes.low_cells (x : GSes) (k : Nat) : LowAll k x.cells := by simp [GSes.cells]
@[simp] theorem GSes.share_cells (x : GSes) : shareAll x.cells = x.cells := by simp [GSes.cells]
@[simp] theorem GSes.cells_length (x : GSes) : x.cells.length = 9 := by simp [GSes.cells]
@[simp] theorem GSes.own_length (x : GSes) : x.own.length = 9 := by simp [GSes.own]
@[simp] theorem GSes.take_cells (x : GSes) : x.cells.take 9 = x.cells := List.take_of_length_le (by simp)
@[simp] theorem GSes.take_own (x : GSes) : x.own.take 9 = x.own := List.take_of_length_le (by simp)
@[simp] theorem GSes.alive_own (x : GSes) : aliveAll x.own = true := by simp [GSes.own, GSys.own]
@[simp] theorem GSes.alive_cells (x : GSes) : aliveAll x.cells = true := by simp [GSes.cells]
theorem GCtx.norm_wf {c : GCtx} (h : c.wf) : c.norm.wf := by
  refine ⟨by simpa [GCtx.norm] using h.1, fun d hd => ?_⟩
  simp only [GCtx.norm, List.mem_map] at hd
  obtain ⟨e, he, rfl⟩ := hd
  exact h.2 e he
theorem GSes.norm_wf {x : GSes} (h : x.wf) : x.norm.wf := ⟨h.1, GCtx.norm_wf h.2.1, Go.Proofs.Yticcekapikfhaaa.norm_wf _ h.2.2⟩
def GSes.same (a b : GSes) : Bool := a.sys.same b.sys && (sameC a.ctx b.ctx && a.term.same b.term)
theorem GSes.same_refl (a : GSes) : a.same a = true := by simp [GSes.same, GSys.same_refl, sameC_refl, Go.Proofs.Yticcekapikfhaaa.same_refl]
theorem eqSession_ok (a b : GSes) (hw : a.wf) : Gives Try.prog n_laws_eqSession [a.lv, b.lv] (· = B (a.same b)) := by
  refine Gives.of_codeOf c_laws_eqSession mixed (by simp) ⟨_, rfl, by simp⟩ ?_
  obtain ⟨hs, hc, ht⟩ := hw
  have t1 := eqSystem_ok a.sys b.sys hs
  have t2 := eqIntSS_ok a.nl b.nl a.ctx b.ctx hc
  have t3 := eqTerm_ok _ a.term (Nat.le_refl _) ht b.term
  simp (disch := omega) [-onBool_some, -onBool_leT, -onBool_leF, -onBool_ltT, -onBool_ltF, -onBool_eqT, -onBool_eqF, k_laws_eqSession, boxLV, frzLV, GSes.cells]
  repeat' (first
    | with_reducible refine onCall_eq (t1) (by simp) ?_
    | with_reducible refine onCall_eq (t2) (by simp) ?_
    | with_reducible refine onCall_eq (t3) (by simp) ?_
    | (with_reducible (first | refine onBoolT (fun hb_ => ?_) (fun hb_ => ?_) | refine onBoolF (fun hb_ => ?_) (fun hb_ => ?_)) <;> simp (disch := omega) [-onBool_some, -onBool_leT, -onBool_leF, -onBool_ltT, -onBool_ltF, -onBool_eqT, -onBool_eqF, hb_])
    | simp (disch := omega) [-onBool_some, -onBool_leT, -onBool_leF, -onBool_ltT, -onBool_ltF, -onBool_eqT, -onBool_eqF])
  all_goals simp_all [GSes.same]
end Go.Proofs.Yticcekapikfhaaa
