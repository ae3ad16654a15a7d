/- The row of the law FnExactBoxTerm: the program returns true for every system, context and term that can be read, which are left as they were. No further condition. -/
import Derived.Test.YtclfngbealdbgaaGreatRows
import Derived.WalkKit
import Derived.ProofKit
import Derived.OpenShut
import Derived.ShutString
import Derived.ChangeOld
import Derived.Below
import Derived.SizedLaws
import Derived.Test.YtclfngbealdbgaaGreatZgRowBoxTerm
namespace Go.Proofs.YtclfngbealdbgaaGreat.fnExactBoxTerm
open Go.ChangeShapes Go.WideShapes Go.ChangeAt Go.RowKit
open Go.ChangeMaps (open_string shut_string)
open Go.TL (Qe.row GM.all)
set_option linter.unusedVariables false
theorem own : ownKnob Tryz.prog.godebug = none := by kernel_rfl
theorem laidOut : laidOutB Tryz.prog = true := by kernel_rfl
def tys : Tys Tryz.prog where
 tI := 3
 tB := 4
 tL := 22
 tLB := 23
 tC := 26
 tT := 29
 tK := 27
 tS := 25
 fT := _
 fS := _
 hI := Tryz.underlying3
 hB := Tryz.underlying4
 hL := Tryz.underlying22
 hLB := Tryz.underlying23
 hC := Tryz.underlying26
 hT := Tryz.underlying29
 hK := Tryz.underlying27
 hS := Tryz.underlying25
 cI := by kernel_rfl
 cB := by kernel_rfl
 cL := by kernel_rfl
 cLB := by kernel_rfl
 cT := by kernel_rfl
 cK := by kernel_rfl
 cS := by kernel_rfl
 T0 := rfl
 T1 := rfl
 T2 := rfl
 T3 := rfl
 S0 := rfl
 S1 := rfl
 S2 := rfl
 S3 := rfl
set_option maxRecDepth 100000 in
theorem lifted (os : Os) (started : os.Started) (H : Type) (enc : TypeId × Value → H) :
  ReturnsInHanded {} Tryz.checked os 4 .any (Rows.fnExactBoxTermSpec.pre6 enc Tryz.prog Tryz.f4 Rows.fnExactBoxTermRow.domain false) (Rows.fnExactBoxTermSpec.post enc Tryz.prog Tryz.f4 false true false false) := by
 refine returnsInHanded_of_change_sized (C := Tryz.checked) own started (by kernel_rfl) Tryz.func4
  (ChangeSpec.witness6 (enc := enc) (C := Tryz.checked) false ⟨#[], #[.agg #[.int .i64 0, .slice none 0 0, .slice none 0 0, .slice none 0 0], .slice none 0 0, .agg #[.int .i64 0, .int .i64 0, .slice none 0 0, .slice none 0 0]], []⟩ 8 (by kernel_rfl) (by kernel_rfl) (by kernel_rfl) (by kernel_rfl)) ?_
 intro W base args ds gs before hval0 hW hcnd hsz0 _
 have hval : ∀ (j : Nat) t v, Tryz.f4.params[j]? = some t → args[j]? = some v → Value.okWide Tryz.prog W .any base t v := hval0
 have hW' := hW
 obtain ⟨p, q, hA0, hV, rfl, hfz, hnd⟩ := hW
 have hA : DataW.TrodAll enc Tryz.prog W 0 (fun _ => true) true Tryz.f4.params.toList args.toList ds p := hA0
 rw [Tryz.params4] at hA hval
 obtain ⟨v0, vs0, d0, ds0, p0, q0, hargs, rfl, rfl, h0, r0⟩ := trodAll_cons hA
 obtain ⟨v1, vs1, d1, ds1, p1, q1, rfl, rfl, rfl, h1, r1⟩ := trodAll_cons r0
 obtain ⟨v2, vs2, d2, ds2, p2, q2, rfl, rfl, rfl, h2, r2⟩ := trodAll_cons r1
 obtain ⟨rfl, rfl, rfl⟩ := trodAll_nil r2
 obtain rfl : args = #[v0, v1, v2] := by cases args; simp_all
 obtain ⟨rfl, rfl⟩ := trodVars_none hV
 have ok0 := hval 0 25 v0 rfl rfl
 have ok1 := hval 1 26 v1 rfl rfl
 have ok2 := hval 2 29 v2 rfl rfl
 obtain ⟨cs0, rfl⟩ : ∃ cs, v0 = .agg cs := by
  simp only [Value.okWide, Tryz.underlying25] at ok0
  obtain ⟨cs, h, _⟩ := ok0
  exact ⟨cs, h⟩
 obtain ⟨a1, len1, cap1, rfl⟩ := okWide_slice Tryz.underlying26 ok1
 obtain ⟨cs2, rfl⟩ : ∃ cs, v2 = .agg cs := by
  simp only [Value.okWide, Tryz.underlying29] at ok2
  obtain ⟨cs, h, _⟩ := ok2
  exact ⟨cs, h⟩
 have k0 := h0
 have k1 := h1
 have k2 := h2
 have lt0 : ∀ x ∈ p0, x.block < W.heap.size := by obtain ⟨m, hm⟩ := k0; exact DataW.trod_lt m _ _ _ hm
 have lt1 : ∀ x ∈ p1, x.block < W.heap.size := by obtain ⟨m, hm⟩ := k1; exact DataW.trod_lt m _ _ _ hm
 have lt2 : ∀ x ∈ p2, x.block < W.heap.size := by obtain ⟨m, hm⟩ := k2; exact DataW.trod_lt m _ _ _ hm
 obtain ⟨s0, raw0, v0⟩ : ∃ s : GSys, s.raw ∧ YF W s.cells cs0.toList := by
  obtain ⟨fuel, hf⟩ := h0
  exact rd_sys tys hf
 obtain ⟨nlc, c0, raw1, v1⟩ : ∃ (nl : Bool) (c : Wf), c.raw ∧ YF W [LC nl c] [.slice a1 len1 cap1] := by
  obtain ⟨fuel, hf⟩ := h1
  exact rd_ctx tys.hI tys.cI tys.hL tys.cL tys.hC hf
 obtain ⟨g0, raw2, v2⟩ : ∃ t : GTerm, t.raw ∧ YF W t.cells cs2.toList := by
  obtain ⟨fuel, hf⟩ := h2
  exact rd_term tys _ hf
 clear hA0 hval0 hsz0
 have hg := Qe.row (Zod s0 nlc c0 g0 raw0 raw1 raw2) W [.agg cs0, .slice a1 len1 cap1, .agg cs2] (by
  have e1 := v1.1
  simp only [TL.RepVals] at e1 ⊢
  obtain ⟨x, xs, O1, O2, hx, hO, hr, hxs, hO2⟩ := e1
  simp only [List.cons.injEq] at hx
  obtain ⟨rfl, rfl⟩ := hx
  obtain ⟨rfl, rfl⟩ := List.append_eq_nil_iff.1 hO.symm
  exact ⟨_, _, [], [], rfl, rfl, ZpU v0, _, _, [], [], rfl, rfl, hr, _, _, [], [], rfl, rfl, ZpU v2, rfl, rfl⟩)
 refine hg.mono fun e W' ⟨he, hst, hsz, hblk⟩ => ?_
 have bel : Below W.heap.size W W' := ⟨hst.1, hst.2.1, hst.2.2, hsz, hblk⟩
 subst he
 exact ⟨_, rfl, _, _, _, [], _, [], hW', trodAll_mk1 (shut_bool Tryz.underlying4 _), (trodAll_cons_mk (Below.trod laidOut (by kernel_rfl) (of_decide_eq_true (by kernel_rfl)) k0 bel lt0) (trodAll_cons_mk (Below.trod laidOut (by kernel_rfl) (of_decide_eq_true (by kernel_rfl)) k1 bel lt1) (trodAll_cons_mk (Below.trod laidOut (by kernel_rfl) (of_decide_eq_true (by kernel_rfl)) k2 bel lt2) trodAll_mk0))), rfl, bel.frame _, fun h => by cases h⟩
theorem over : Rows.fnExactBoxTermRow.holds Tryz.pinned (OpenSpec.ofChange Rows.fnExactBoxTermSpec) :=
 OpenClaim.holds_of_wide 4 Tryz.f4 rfl rfl rfl rfl rfl rfl rfl ⟨rfl, rfl, rfl, rfl, rfl⟩ rfl rfl rfl rfl rfl (by kernel_rfl) Tryz.func4 (by kernel_rfl)
  (of_decide_eq_true (by kernel_rfl)) (by unfold Func.isWrapper; first | (rw [if_pos (by decide +kernel)]; kernel_rfl) | (rw [if_neg (by decide +kernel)]; exact ⟨rfl, rfl⟩))
  (fun os started H enc _ => lifted os started H enc)
theorem proved : Rows.FnExactBoxTermSaid := over
end Go.Proofs.YtclfngbealdbgaaGreat.fnExactBoxTerm
namespace Go.Proofs.YtclfngbealdbgaaGreat
theorem fnExactBoxTerm_holds : Rows.FnExactBoxTermSaid := fnExactBoxTerm.proved
#print axioms fnExactBoxTerm_holds
end Go.Proofs.YtclfngbealdbgaaGreat
