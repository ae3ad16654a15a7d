/- The row of the law FnExactNewSession: the program returns true, without arguments. No further condition. -/
import Derived.Test.YticcekapikfhaaaRows
import Derived.Test.YticcekapikfhaaaGs
import Derived.WalkKit
import Derived.ProofKit
import Derived.OpenShut
import Derived.ShutString
import Derived.ChangeOld
import Derived.Below
import Derived.SizedLaws
namespace Go.Proofs.Yticcekapikfhaaa.fnExactNewSession
open Go.ChangeShapes Go.WideShapes Go.ChangeAt Go.RowKit
open Go.ChangeMaps (open_string shut_string)
open Go.TL (Gives.row GM.all)
set_option linter.unusedVariables false
theorem own : ownKnob Try.prog.godebug = none := by kernel_rfl
theorem laidOut : laidOutB Try.prog = true := by kernel_rfl
set_option maxRecDepth 100000 in
theorem lifted (os : Os) (started : os.Started) (H : Type) (enc : TypeId × Value → H) :
    ReturnsInHanded {} Try.checked os 5 .any (Rows.fnExactNewSessionSpec.pre6 enc Try.prog Try.f5 Rows.fnExactNewSessionRow.domain false) (Rows.fnExactNewSessionSpec.post enc Try.prog Try.f5 false true false false) := by
  refine returnsInHanded_of_change_sized (C := Try.checked) own started (by kernel_rfl) Try.func5
    (ChangeSpec.witness6 (enc := enc) (C := Try.checked) false ⟨#[], #[], []⟩ 8 (by kernel_rfl) (by kernel_rfl) (by kernel_rfl) (by kernel_rfl)) ?_
  intro W base args ds gs before hval0 hW hcnd hsz0 _
  have hW' := hW
  obtain ⟨p, q, hA0, hV, rfl, hfz, hnd⟩ := hW
  have hA : DataW.TrodAll enc Try.prog W 0 (fun _ => true) true Try.f5.params.toList args.toList ds p := hA0
  rw [Try.params5] at hA
  obtain ⟨hargs, rfl, rfl⟩ := trodAll_nil hA
  obtain rfl : args = #[] := by cases args; simp_all
  obtain ⟨rfl, rfl⟩ := trodVars_none hV
  clear hA0 hval0 hsz0
  have hg := Gives.row lawNewSession W [] (by simp [TL.RepVals])
  refine hg.mono fun e W' ⟨he, hst, hsz, hblk⟩ => ?_
  have bel : Below W.heap.size W W' := ⟨hst.1, hst.2.1, hst.2.2, hsz, hblk⟩
  subst he
  exact ⟨_, rfl, _, _, _, [], _, [], hW', trodAll_mk1 (shut_bool Try.underlying4 _), trodAll_mk0, rfl, bel.frame _, fun h => by cases h⟩
theorem over : Rows.fnExactNewSessionRow.holds Try.pinned (OpenSpec.ofChange Rows.fnExactNewSessionSpec) :=
  OpenClaim.holds_of_wide 5 Try.f5 rfl rfl rfl rfl rfl rfl rfl ⟨rfl, rfl, rfl, rfl, rfl⟩ rfl rfl rfl rfl rfl (by kernel_rfl) Try.func5 (by kernel_rfl)
    (of_decide_eq_true (by kernel_rfl)) (by unfold Func.isWrapper; first | (rw [if_pos (by decide +kernel)]; kernel_rfl) | (rw [if_neg (by decide +kernel)]; exact ⟨rfl, rfl⟩))
    (fun os started H enc _ => lifted os started H enc)
theorem proved : Rows.FnExactNewSessionSaid := over
end Go.Proofs.Yticcekapikfhaaa.fnExactNewSession
namespace Go.Proofs.Yticcekapikfhaaa
/-- The row, under a short name, for the claim. -/
theorem fnExactNewSession_holds : Rows.FnExactNewSessionSaid := fnExactNewSession.proved
#print axioms fnExactNewSession_holds
end Go.Proofs.Yticcekapikfhaaa
