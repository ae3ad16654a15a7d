/- The first session, and what the laws mark of it. No conditions. -/
import Derived.Test.YticcekapikfhaaaGm
import Derived.Test.YticcekapikfhaaaGk
namespace Go.Proofs.Yticcekapikfhaaa
open Go Go.TL
set_option linter.unusedSimpArgs false
set_option linter.unusedVariables false
set_option linter.unusedSectionVars false
set_option maxRecDepth 20000
set_option maxHeartbeats 4000000

abbrev nP : List Int := tabL (nPl 1) 3 3 0
abbrev nT : List Int := tabL (nTm 1) 3 3 0
abbrev nB : List Bool := tabL (nBl 1 false) 3 3 0
/-- nothing yet, owned -/
abbrev nilS : LV := .sl true true 1 []
abbrev newSes : LV := .agg [N 3, OI nP, OI nT, OBl nB, nilS, N 1, N 0, nilS, nilS]
theorem specCount_ok : Gives Try.prog n_spec_CountSystem [N 1] (· = .agg [N 3, OI nP, OI nT, OBl nB]) := by
  refine Gives.of_codeOf c_spec_CountSystem mixed (by simp) ⟨_, rfl, by simp⟩ ?_
  have h := l1Numbers_ok 1 (by omega) (by omega) false
  simp (disch := omega) [-onBool_some, -onBool_leT, -onBool_leF, -onBool_ltT, -onBool_ltF, -onBool_eqT, -onBool_eqF, k_spec_CountSystem]
  repeat' (first
    | with_reducible refine onCall_eq (h) (by simp) ?_
    | (with_reducible (first | refine onBoolT (fun hb_ => ?_) (fun hb_ => ?_) | refine onBoolF (fun hb_ => ?_) (fun hb_ => ?_)) <;> simp (disch := omega) [-onBool_some, -onBool_leT, -onBool_leF, -onBool_ltT, -onBool_ltF, -onBool_eqT, -onBool_eqF, hb_])
    | simp (disch := omega) [-onBool_some, -onBool_leT, -onBool_leF, -onBool_ltT, -onBool_ltF, -onBool_eqT, -onBool_eqF])
  all_goals simp
theorem implCount_ok : Gives Try.prog n_impl_CountSystem [N 1] (· = .agg [N 3, OI nP, OI nT, OBl nB]) := (CountSystem_ok 1 (by omega) (by omega)).mono fun r h => by rw [h]; simp
theorem specNewSession_ok : Gives Try.prog n_spec_NewSession [] (· = newSes) := by
  refine Gives.of_codeOf c_spec_NewSession mixed (by simp) ⟨_, rfl, by simp⟩ ?_
  simp (disch := omega) [-onBool_some, -onBool_leT, -onBool_leF, -onBool_ltT, -onBool_ltF, -onBool_eqT, -onBool_eqF, k_spec_NewSession]
  repeat' (first
    | with_reducible refine onCall_eq (specCount_ok) (by simp) ?_
    | (with_reducible (first | refine onBoolT (fun hb_ => ?_) (fun hb_ => ?_) | refine onBoolF (fun hb_ => ?_) (fun hb_ => ?_)) <;> simp (disch := omega) [-onBool_some, -onBool_leT, -onBool_leF, -onBool_ltT, -onBool_ltF, -onBool_eqT, -onBool_eqF, hb_])
    | simp (disch := omega) [-onBool_some, -onBool_leT, -onBool_leF, -onBool_ltT, -onBool_ltF, -onBool_eqT, -onBool_eqF])
theorem implNewSession_ok : Gives Try.prog n_impl_NewSession [] (· = newSes) := by
  refine Gives.of_codeOf c_impl_NewSession mixed (by simp) ⟨_, rfl, by simp⟩ ?_
  simp (disch := omega) [-onBool_some, -onBool_leT, -onBool_leF, -onBool_ltT, -onBool_ltF, -onBool_eqT, -onBool_eqF, k_impl_NewSession]
  repeat' (first
    | with_reducible refine onCall_eq (implCount_ok) (by simp) ?_
    | (with_reducible (first | refine onBoolT (fun hb_ => ?_) (fun hb_ => ?_) | refine onBoolF (fun hb_ => ?_) (fun hb_ => ?_)) <;> simp (disch := omega) [-onBool_some, -onBool_leT, -onBool_leF, -onBool_ltT, -onBool_ltF, -onBool_eqT, -onBool_eqF, hb_])
    | simp (disch := omega) [-onBool_some, -onBool_leT, -onBool_leF, -onBool_ltT, -onBool_ltF, -onBool_eqT, -onBool_eqF])
end Go.Proofs.Yticcekapikfhaaa
