/- The row of the law FnPutTyped: the program returns true for all bytes, which are left as they were. No further condition. -/
import Derived.Test.YtclfngbealdbgaaGreatRows
import Derived.WalkKit
import Derived.ProofKit
import Derived.OpenShut
import Derived.ShutString
import Derived.ChangeOld
import Derived.Below
import Derived.SizedLaws
import Derived.Test.YtclfngbealdbgaaGreatZgRowPutTyped
namespace Go.Proofs.YtclfngbealdbgaaGreat.fnPutTyped
open Go.ChangeShapes Go.WideShapes Go.ChangeAt Go.RowKit
open Go.ChangeMaps (open_string shut_string)
open Go.TL (Qd.row GM.all)
set_option linter.unusedVariables false
theorem own : ownKnob Tryz.prog.godebug = none := by kernel_rfl
theorem laidOut : laidOutB Tryz.prog = true := by kernel_rfl
set_option maxRecDepth 100000 in
theorem lifted (os : Os) (started : os.Started) (H : Type) (enc : TypeId × Value → H) :
  ReturnsInHanded {} Tryz.checked os 6 .any (Rows.fnPutTypedSpec.pre6 enc Tryz.prog Tryz.f6 Rows.fnPutTypedRow.domain false) (Rows.fnPutTypedSpec.post enc Tryz.prog Tryz.f6 false true false false) := by
 refine returnsInHanded_of_change_sized (C := Tryz.checked) own started (by kernel_rfl) Tryz.func6
  (ChangeSpec.witness6 (enc := enc) (C := Tryz.checked) false ⟨#[], #[.slice none 0 0], []⟩ 8 (by kernel_rfl) (by kernel_rfl) (by kernel_rfl) (by kernel_rfl)) ?_
 intro W base args ds gs before hval0 hW hcnd hsz0 _
 have hval : ∀ (j : Nat) t v, Tryz.f6.params[j]? = some t → args[j]? = some v → Value.okWide Tryz.prog W .any base t v := hval0
 have hW' := hW
 obtain ⟨p, q, hA0, hV, rfl, hfz, hnd⟩ := hW
 have hA : DataW.TrodAll enc Tryz.prog W 0 (fun _ => true) true Tryz.f6.params.toList args.toList ds p := hA0
 rw [Tryz.params6] at hA hval
 obtain ⟨v0, vs0, d0, ds0, p0, q0, hargs, rfl, rfl, h0, r0⟩ := trodAll_cons hA
 obtain ⟨rfl, rfl, rfl⟩ := trodAll_nil r0
 obtain rfl : args = #[v0] := by cases args; simp_all
 obtain ⟨rfl, rfl⟩ := trodVars_none hV
 have ok0 := hval 0 48 v0 rfl rfl
 obtain ⟨a0, len0, cap0, rfl⟩ := okWide_slice Tryz.underlying48 ok0
 have k0 := h0
 have lt0 : ∀ x ∈ p0, x.block < W.heap.size := by obtain ⟨m, hm⟩ := k0; exact DataW.trod_lt m _ _ _ hm
 obtain ⟨D, hb, v0⟩ : ∃ D : TL.Dr, (∀ b ∈ D.bs, 0 ≤ b ∧ b ≤ 255) ∧ K9 W [D.lv] [.slice a0 len0 cap0] := by
  obtain ⟨fuel, hf⟩ := h0
  exact rd_bytes Tryz.underlying5 (by kernel_rfl) Tryz.underlying48 hf
 clear hA0 hval0 hsz0
 have hg := Qd.row (ZnI D hb) W [.slice a0 len0 cap0] v0.1
 refine hg.mono fun e W' ⟨he, hst, hsz, hblk⟩ => ?_
 have bel : Below W.heap.size W W' := ⟨hst.1, hst.2.1, hst.2.2, hsz, hblk⟩
 subst he
 exact ⟨_, rfl, _, _, _, [], _, [], hW', trodAll_mk1 (shut_bool Tryz.underlying4 _), (trodAll_cons_mk (Below.trod laidOut (by kernel_rfl) (of_decide_eq_true (by kernel_rfl)) k0 bel lt0) trodAll_mk0), rfl, bel.frame _, fun h => by cases h⟩
theorem over : Rows.fnPutTypedRow.holds Tryz.pinned (OpenSpec.ofChange Rows.fnPutTypedSpec) :=
 OpenClaim.holds_of_wide 6 Tryz.f6 rfl rfl rfl rfl rfl rfl rfl ⟨rfl, rfl, rfl, rfl, rfl⟩ rfl rfl rfl rfl rfl (by kernel_rfl) Tryz.func6 (by kernel_rfl)
  (of_decide_eq_true (by kernel_rfl)) (by unfold Func.isWrapper; first | (rw [if_pos (by decide +kernel)]; kernel_rfl) | (rw [if_neg (by decide +kernel)]; exact ⟨rfl, rfl⟩))
  (fun os started H enc _ => lifted os started H enc)
theorem proved : Rows.FnPutTypedSaid := over
end Go.Proofs.YtclfngbealdbgaaGreat.fnPutTyped
namespace Go.Proofs.YtclfngbealdbgaaGreat
theorem fnPutTyped_holds : Rows.FnPutTypedSaid := fnPutTyped.proved
#print axioms fnPutTyped_holds
end Go.Proofs.YtclfngbealdbgaaGreat
