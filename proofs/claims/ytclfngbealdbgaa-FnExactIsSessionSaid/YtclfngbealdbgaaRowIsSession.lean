/- The row of the law FnExactIsSession: the program returns true for every session that can be read, which is left as it was. No further condition. -/
import Derived.Test.YtclfngbealdbgaaRows
import Derived.Test.YtclfngbealdbgaaRd
import Derived.WalkKit
import Derived.ProofKit
import Derived.OpenShut
import Derived.ShutString
import Derived.ChangeOld
import Derived.Below
import Derived.SizedLaws
namespace Go.Proofs.Ytclfngbealdbgaa.fnExactIsSession
open Go.ChangeShapes Go.WideShapes Go.ChangeAt Go.RowKit
open Go.ChangeMaps (open_string shut_string)
open Go.TL (Gives.row GM.all)
set_option linter.unusedVariables false
theorem own : ownKnob Try.prog.godebug = none := by kernel_rfl
theorem laidOut : laidOutB Try.prog = true := by kernel_rfl
def tys : Tys Try.prog where
  tI := 3
  tB := 4
  tL := 22
  tLB := 23
  tC := 26
  tT := 29
  tK := 27
  tS := 25
  fT := _
  fS := _
  hI := Try.underlying3
  hB := Try.underlying4
  hL := Try.underlying22
  hLB := Try.underlying23
  hC := Try.underlying26
  hT := Try.underlying29
  hK := Try.underlying27
  hS := Try.underlying25
  cI := by kernel_rfl
  cB := by kernel_rfl
  cL := by kernel_rfl
  cLB := by kernel_rfl
  cT := by kernel_rfl
  cK := by kernel_rfl
  cS := by kernel_rfl
  T0 := rfl
  T1 := rfl
  T2 := rfl
  T3 := rfl
  S0 := rfl
  S1 := rfl
  S2 := rfl
  S3 := rfl
set_option maxRecDepth 100000 in
theorem lifted (os : Os) (started : os.Started) (H : Type) (enc : TypeId × Value → H) :
    ReturnsInHanded {} Try.checked os 3 .any (Rows.fnExactIsSessionSpec.pre6 enc Try.prog Try.f3 Rows.fnExactIsSessionRow.domain false) (Rows.fnExactIsSessionSpec.post enc Try.prog Try.f3 false true false false) := by
  refine returnsInHanded_of_change_sized (C := Try.checked) own started (by kernel_rfl) Try.func3
    (ChangeSpec.witness6 (enc := enc) (C := Try.checked) false ⟨#[], #[.agg #[.int .i64 0, .slice none 0 0, .slice none 0 0, .slice none 0 0, .slice none 0 0, .int .i64 0, .int .i64 0, .slice none 0 0, .slice none 0 0]], []⟩ 8 (by kernel_rfl) (by kernel_rfl) (by kernel_rfl) (by kernel_rfl)) ?_
  intro W base args ds gs before hval0 hW hcnd hsz0 _
  have hval : ∀ (j : Nat) t v, Try.f3.params[j]? = some t → args[j]? = some v → Value.okWide Try.prog W .any base t v := hval0
  have hW' := hW
  obtain ⟨p, q, hA0, hV, rfl, hfz, hnd⟩ := hW
  have hA : DataW.TrodAll enc Try.prog W 0 (fun _ => true) true Try.f3.params.toList args.toList ds p := hA0
  rw [Try.params3] at hA hval
  obtain ⟨v0, vs0, d0, ds0, p0, q0, hargs, rfl, rfl, h0, r0⟩ := trodAll_cons hA
  obtain ⟨rfl, rfl, rfl⟩ := trodAll_nil r0
  obtain rfl : args = #[v0] := by cases args; simp_all
  obtain ⟨rfl, rfl⟩ := trodVars_none hV
  have ok0 := hval 0 31 v0 rfl rfl
  obtain ⟨cs0, rfl⟩ : ∃ cs, v0 = .agg cs := by
    simp only [Value.okWide, Try.underlying31] at ok0
    obtain ⟨cs, h, _⟩ := ok0
    exact ⟨cs, h⟩
  have k0 := h0
  have lt0 : ∀ x ∈ p0, x.block < W.heap.size := by obtain ⟨m, hm⟩ := k0; exact DataW.trod_lt m _ _ _ hm
  obtain ⟨s0, raw0, v0⟩ : ∃ s : GSes, s.raw ∧ Vals W s.cells cs0.toList := by
    obtain ⟨fuel, hf⟩ := h0
    exact rd_ses tys Try.underlying31 (by kernel_rfl) (by kernel_rfl) rfl rfl rfl hf
  clear hA0 hval0 hsz0
  have hg := Gives.row (lawIsSession s0 raw0) W [.agg cs0] (by simp only [TL.RepVals]; exact ⟨_, _, [], [], rfl, rfl, rep_agg v0, rfl, rfl⟩)
  refine hg.mono fun e W' ⟨he, hst, hsz, hblk⟩ => ?_
  have bel : Below W.heap.size W W' := ⟨hst.1, hst.2.1, hst.2.2, hsz, hblk⟩
  subst he
  exact ⟨_, rfl, _, _, _, [], _, [], hW', trodAll_mk1 (shut_bool Try.underlying4 _), (trodAll_cons_mk (Below.trod laidOut (by kernel_rfl) (of_decide_eq_true (by kernel_rfl)) k0 bel lt0) trodAll_mk0), rfl, bel.frame _, fun h => by cases h⟩
theorem over : Rows.fnExactIsSessionRow.holds Try.pinned (OpenSpec.ofChange Rows.fnExactIsSessionSpec) :=
  OpenClaim.holds_of_wide 3 Try.f3 rfl rfl rfl rfl rfl rfl rfl ⟨rfl, rfl, rfl, rfl, rfl⟩ rfl rfl rfl rfl rfl (by kernel_rfl) Try.func3 (by kernel_rfl)
    (of_decide_eq_true (by kernel_rfl)) (by unfold Func.isWrapper; first | (rw [if_pos (by decide +kernel)]; kernel_rfl) | (rw [if_neg (by decide +kernel)]; exact ⟨rfl, rfl⟩))
    (fun os started H enc _ => lifted os started H enc)
theorem proved : Rows.FnExactIsSessionSaid := over
end Go.Proofs.Ytclfngbealdbgaa.fnExactIsSession
namespace Go.Proofs.Ytclfngbealdbgaa
/-- The row, under a short name, for the claim. -/
theorem fnExactIsSession_holds : Rows.FnExactIsSessionSaid := fnExactIsSession.proved
#print axioms fnExactIsSession_holds
end Go.Proofs.Ytclfngbealdbgaa
