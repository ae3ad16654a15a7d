/- Contexts and sessions. No conditions. -/
import Derived.Test.YtclfngbealdbgaaGc
import Derived.Test.YtclfngbealdbgaaGg
namespace Go.Proofs.Ytclfngbealdbgaa
open Go Go.TL
open Go.Proofs.Ytclfngbealdbgaa.Ty
set_option linter.unusedSimpArgs false
set_option linter.unusedVariables false
set_option maxRecDepth 20000
set_option maxHeartbeats 4000000

def okT (size : Int) (c : Bool × List Int) : Bool := wty c.2 && gradedB size true c.2
def okAt (size : Int) (ctx : GCtx) (i : Nat) : Bool := okT size (ctx.getD i (true, []))
theorem okAt_in {size : Int} {ctx : GCtx} {i : Nat} (h : i < ctx.length) : okAt size ctx i = okT size ctx[i] := by simp [okAt, h]
def ctxB (size : Int) (ctx : GCtx) : Bool := leB ctx.length 8 && allN (okAt size ctx) ctx.length
theorem l3Context_ok (s : GSys) (t : s.Tab) (nl : Bool) (ctx : GCtx) (hw : ctx.wf) : Gives Try.prog n_spec_l3Context [s.lv, LC nl ctx] (· = B (ctxB s.size ctx)) := by
  refine Gives.of_codeOf c_spec_l3Context mixed (by simp) ⟨_, rfl, by simp⟩ ?_
  have h2 := t.lo; have h16 := t.hi
  have hlen := hw.1
  have hI : I64 s.size := ⟨by omega, by omega⟩
  simp (disch := omega) [-onBool_some, -onBool_leT, -onBool_leF, -onBool_ltT, -onBool_ltF, -onBool_eqT, -onBool_eqF, k_spec_l3Context, boxLV, frzLV]
  (with_reducible first | refine onBoolT (fun h1 => ?_) (fun h1 => ?_) | refine onBoolF (fun h1 => ?_) (fun h1 => ?_))
  · simp (disch := omega) [-onBool_some, -onBool_leT, -onBool_leF, -onBool_ltT, -onBool_ltF, -onBool_eqT, -onBool_eqF]
    rw [ltB_not] at h1; simp at h1; simp [ctxB, h1]
  · simp (disch := omega) [-onBool_some, -onBool_leT, -onBool_leF, -onBool_ltT, -onBool_ltF, -onBool_eqT, -onBool_eqF]
    have e8 : ctxB s.size ctx = allN (okAt s.size ctx) ctx.length := by rw [ltB_not] at h1; simp at h1; simp [ctxB, h1]
    rw [e8]
    refine wpC_for ctx.length 0 (fun i t _ => t 5 = N i ∧ allN (okAt s.size ctx) i = true) (by simp) (by omega) ?_
    rintro i t1 hh hf hi ⟨e5, hj⟩
    (have e1 := hf 1 (by kernel_rfl); have e2 := hf 2 (by kernel_rfl); clear hf; simp [] at e1 e2)
    simp (disch := omega) [-onBool_some, -onBool_leT, -onBool_leF, -onBool_ltT, -onBool_ltF, -onBool_eqT, -onBool_eqF, e1, e2, e5]
    (with_reducible first | refine onBoolT (fun h6 => ?_) (fun h6 => ?_) | refine onBoolF (fun h6 => ?_) (fun h6 => ?_))
    · simp only [ltB_true, ltB_false, leB_true, leB_false, eqB_true, eqB_false, Bool.not_true, Bool.not_false] at h6
      have hL : Lok (ctx[i]'(by omega)).2 := hw.2 _ (List.getElem_mem _)
      have ha := okAt_in (size := s.size) (ctx := ctx) (i := i) (by omega)
      simp (disch := omega) [-onBool_some, -onBool_leT, -onBool_leF, -onBool_ltT, -onBool_ltF, -onBool_eqT, -onBool_eqF, e1, e2, e5, idx_C]
      rcases h : ctx[i]'(by omega) with ⟨nl1, ty⟩
      rw [h] at hL ha
      simp only at hL
      repeat' (first
    | with_reducible refine onCall_eq (l2Type_ok nl1 ty hL) (by simp) ?_
    | with_reducible refine onCall_eq (l2Graded_ok nl1 ty hL s.size hI true) (by simp) ?_
    | (with_reducible (first | refine onBoolT (fun hb_ => ?_) (fun hb_ => ?_) | refine onBoolF (fun hb_ => ?_) (fun hb_ => ?_)) <;> simp (disch := omega) [-onBool_some, -onBool_leT, -onBool_leF, -onBool_ltT, -onBool_ltF, -onBool_eqT, -onBool_eqF, hb_, e1, e2, e5, idx_C, h])
    | simp (disch := omega) [-onBool_some, -onBool_leT, -onBool_leF, -onBool_ltT, -onBool_ltF, -onBool_eqT, -onBool_eqF, e1, e2, e5, idx_C, h])
      all_goals first
        | exact ⟨by omega, i64_wrap (by omega), by simp_all [allN_succ, okT]⟩
        | exact (allN_at (p := okAt s.size ctx) (i := i) (by omega) (by simp_all [okT]))
    · simp only [ltB_true, ltB_false, leB_true, leB_false, eqB_true, eqB_false, Bool.not_true, Bool.not_false] at h6
      simp (disch := omega) [-onBool_some, -onBool_leT, -onBool_leF, -onBool_ltT, -onBool_ltF, -onBool_eqT, -onBool_eqF]
      rw [show i = ctx.length by omega] at hj
      rw [hj]
theorem isContext_1_ok (s : GSys) (t : s.Tab) (c : Bool × List Int) (hL : Lok c.2) : FnB Try.prog (.fn n_impl_isContext_1 [.rp s.cells]) (eC c) (!okT s.size c) := by
  refine ⟨n_impl_isContext_1, [eC c, .rp s.cells], by simp [fnArgs], by simp, ?_⟩
  refine Gives.of_codeOf c_impl_isContext_1 mixed (by simp) ⟨_, rfl, by simp⟩ ?_
  obtain ⟨nl1, ty⟩ := c
  simp (disch := omega) [-onBool_some, -onBool_leT, -onBool_leF, -onBool_ltT, -onBool_ltF, -onBool_eqT, -onBool_eqF, k_impl_isContext_1]
  repeat' (first
    | with_reducible refine onCall_eq (isTypeOf_ok t nl1 ty hL) (by simp) ?_
    | (with_reducible (first | refine onBoolT (fun hb_ => ?_) (fun hb_ => ?_) | refine onBoolF (fun hb_ => ?_) (fun hb_ => ?_)) <;> simp (disch := omega) [-onBool_some, -onBool_leT, -onBool_leF, -onBool_ltT, -onBool_ltF, -onBool_eqT, -onBool_eqF, hb_])
    | simp (disch := omega) [-onBool_some, -onBool_leT, -onBool_leF, -onBool_ltT, -onBool_ltF, -onBool_eqT, -onBool_eqF])
  all_goals simp [okT]
theorem IndexFunc_ok (f : LV) (p : Bool × List Int → Bool) (sf : share f = f) (lf : Low 0 f) (nl : Bool) (ctx : GCtx) (hw : ctx.wf) (hp : ∀ c ∈ ctx, FnB Try.prog f (eC c) (p c)) :
    Gives Try.prog n_slices_IndexFunc_____int___int_ [LC nl ctx, f] (fun r => ∃ n : Int, r = N n ∧ leB 0 n = ctx.any p) := by
  have hlen := hw.1
  refine Gives.of_codeOf c_slices_IndexFunc_____int___int_ mixed (by simp) ⟨N (if ctx.any p = true then 0 else -1), ⟨_, rfl, by split <;> simp_all [leB]⟩, by simp⟩ ?_
  simp (disch := omega) [-onBool_some, -onBool_leT, -onBool_leF, -onBool_ltT, -onBool_ltF, -onBool_eqT, -onBool_eqF, k_slices_IndexFunc_____int___int_]
  refine wpC_for ctx.length 0 (fun i t _ => t 8 = N i ∧ ctx.any p = (ctx.drop i).any p) (by simp) (by omega) ?_
  rintro i t1 hh hf hi ⟨e8, hj⟩
  (have e0 := hf 0 (by kernel_rfl); have e1 := hf 1 (by kernel_rfl); have e6 := hf 6 (by kernel_rfl); have e7 := hf 7 (by kernel_rfl); clear hf; simp [sf] at e0 e1 e6 e7)
  simp (disch := omega) [-onBool_some, -onBool_leT, -onBool_leF, -onBool_ltT, -onBool_ltF, -onBool_eqT, -onBool_eqF, e0, e1, e6, e7, e8]
  (with_reducible first | refine onBoolT (fun h6 => ?_) (fun h6 => ?_) | refine onBoolF (fun h6 => ?_) (fun h6 => ?_))
  · simp only [ltB_true, ltB_false, leB_true, leB_false, eqB_true, eqB_false, Bool.not_true, Bool.not_false] at h6
    have hd := List.drop_eq_getElem_cons (l := ctx) (i := i) (by omega)
    have hpc := hp (ctx[i]'(by omega)) (List.getElem_mem _)
    simp (disch := omega) [-onBool_some, -onBool_leT, -onBool_leF, -onBool_ltT, -onBool_ltF, -onBool_eqT, -onBool_eqF, e0, e1, e6, e7, e8, idx_C, sf]
    repeat' (first
    | with_reducible refine onFn_B hpc ?_
    | (with_reducible (first | refine onBoolT (fun hb_ => ?_) (fun hb_ => ?_) | refine onBoolF (fun hb_ => ?_) (fun hb_ => ?_)) <;> simp (disch := omega) [-onBool_some, -onBool_leT, -onBool_leF, -onBool_ltT, -onBool_ltF, -onBool_eqT, -onBool_eqF, hb_, e0, e1, e6, e7, e8, idx_C, sf])
    | simp (disch := omega) [-onBool_some, -onBool_leT, -onBool_leF, -onBool_ltT, -onBool_ltF, -onBool_eqT, -onBool_eqF, e0, e1, e6, e7, e8, idx_C, sf])
    · rw [hj, hd, List.any_cons, hb_, Bool.true_or, leB_true]; omega
    · exact ⟨by omega, i64_wrap (by omega), by rw [hj, hd, List.any_cons, hb_, Bool.false_or]⟩
  · simp only [ltB_true, ltB_false, leB_true, leB_false, eqB_true, eqB_false, Bool.not_true, Bool.not_false] at h6
    simp (disch := omega) [-onBool_some, -onBool_leT, -onBool_leF, -onBool_ltT, -onBool_ltF, -onBool_eqT, -onBool_eqF]
    rw [hj, show i = ctx.length by omega, List.drop_length]; simp [leB]
theorem onCall_R {P : Program} {K : St → Prop} {s : St} {rw : Bool} {d : Nat} {f : FuncId} {vals : List LV} {R : LV → Prop} (c : Gives P f vals R) (hl : LowAll 0 vals) (hk : ∀ r, R r → K { t := upd s.t d r, h := s.h }) : onCall P rw f vals (some d) K s := onCall_gives c hl hk
theorem ContainsFunc_ok (f : LV) (p : Bool × List Int → Bool) (sf : share f = f) (lf : Low 0 f) (nl : Bool) (ctx : GCtx) (hw : ctx.wf) (hp : ∀ c ∈ ctx, FnB Try.prog f (eC c) (p c)) :
    Gives Try.prog n_slices_ContainsFunc_____int___int_ [LC nl ctx, f] (· = B (ctx.any p)) := by
  refine Gives.of_codeOf c_slices_ContainsFunc_____int___int_ mixed (by simp) ⟨_, rfl, by simp⟩ ?_
  simp (disch := omega) [-onBool_some, -onBool_leT, -onBool_leF, -onBool_ltT, -onBool_ltF, -onBool_eqT, -onBool_eqF, k_slices_ContainsFunc_____int___int_, sf]
  refine onCall_R (IndexFunc_ok f p sf lf nl ctx hw hp) (by simp [lf]) ?_
  rintro r ⟨n, rfl, hn⟩
  simp (disch := omega) [-onBool_some, -onBool_leT, -onBool_leF, -onBool_ltT, -onBool_ltF, -onBool_eqT, -onBool_eqF, sf, hn]
theorem any_allN {ctx : GCtx} {size : Int} : ∀ n, n ≤ ctx.length → allN (okAt size ctx) n = !((ctx.take n).any fun c => !okT size c)
  | 0, _ => by simp
  | n + 1, h => by
    rw [allN_succ, any_allN n (by omega), okAt_in (by omega), List.take_succ_eq_append_getElem (by omega), List.any_append]
    simp [Bool.not_or]
theorem isContext_ok (s : GSys) (t : s.Tab) (nl : Bool) (ctx : GCtx) (hw : ctx.wf) : Gives Try.prog n_impl_isContext [s.lv, LC nl ctx] (· = B (ctxB s.size ctx)) := by
  refine Gives.of_codeOf c_impl_isContext mixed (by simp) ⟨_, rfl, by simp⟩ ?_
  have hlen := hw.1
  have hc := ContainsFunc_ok (.fn n_impl_isContext_1 [.rp s.cells]) (fun c => !okT s.size c) (by simp) (by simp) nl ctx hw (fun c hc => isContext_1_ok s t c (hw.2 c hc))
  have ha := any_allN (ctx := ctx) (size := s.size) ctx.length (by omega)
  rw [List.take_length] at ha
  simp (disch := omega) [-onBool_some, -onBool_leT, -onBool_leF, -onBool_ltT, -onBool_ltF, -onBool_eqT, -onBool_eqF, k_impl_isContext, boxLV, frzLV]
  repeat' (first
    | with_reducible refine onCall_eq (hc) (by simp) ?_
    | (with_reducible (first | refine onBoolT (fun hb_ => ?_) (fun hb_ => ?_) | refine onBoolF (fun hb_ => ?_) (fun hb_ => ?_)) <;> simp (disch := omega) [-onBool_some, -onBool_leT, -onBool_leF, -onBool_ltT, -onBool_ltF, -onBool_eqT, -onBool_eqF, hb_])
    | simp (disch := omega) [-onBool_some, -onBool_leT, -onBool_leF, -onBool_ltT, -onBool_ltF, -onBool_eqT, -onBool_eqF])
  all_goals simp_all [ctxB]
/-- a session -/
structure GSes where
  sys : GSys
  nl : Bool
  ctx : GCtx
  term : GTerm
def GSes.cells (x : GSes) : List LV := x.sys.cells ++ (LC x.nl x.ctx :: x.term.cells)
abbrev GSes.lv (x : GSes) : LV := .agg x.cells
def GSes.wf (x : GSes) : Prop := x.sys.wf ∧ x.ctx.wf ∧ x.term.wf
def GSes.ok (x : GSes) : Bool := x.sys.sys && (ctxB x.sys.size x.ctx && x.term.writ)
theorem implIsSession_ok (x : GSes) (hw : x.wf) : Gives Try.prog n_impl_IsSession [x.lv] (· = B x.ok) := by
  refine Gives.of_codeOf c_impl_IsSession mixed (by simp) ⟨_, rfl, by simp⟩ ?_
  obtain ⟨hs, hc, ht⟩ := hw
  have h1 := implIsSystem_ok x.sys hs
  have h3 := implIsWritten_ok x.term ht
  cases hb : x.sys.sys with
  | true =>
    have h2 := isContext_ok x.sys (GSys.sys_of hb) x.nl x.ctx hc
    simp (disch := omega) [-onBool_some, -onBool_leT, -onBool_leF, -onBool_ltT, -onBool_ltF, -onBool_eqT, -onBool_eqF, k_impl_IsSession, boxLV, frzLV, GSes.cells]
    repeat' (first
    | with_reducible refine onCall_eq (h1) (by simp) ?_
    | with_reducible refine onCall_eq (h2) (by simp) ?_
    | with_reducible refine onCall_eq (h3) (by simp) ?_
    | (with_reducible (first | refine onBoolT (fun hb_ => ?_) (fun hb_ => ?_) | refine onBoolF (fun hb_ => ?_) (fun hb_ => ?_)) <;> simp (disch := omega) [-onBool_some, -onBool_leT, -onBool_leF, -onBool_ltT, -onBool_ltF, -onBool_eqT, -onBool_eqF, hb_, hb])
    | simp (disch := omega) [-onBool_some, -onBool_leT, -onBool_leF, -onBool_ltT, -onBool_ltF, -onBool_eqT, -onBool_eqF, hb])
    all_goals simp_all [GSes.ok]
  | false =>
    simp (disch := omega) [-onBool_some, -onBool_leT, -onBool_leF, -onBool_ltT, -onBool_ltF, -onBool_eqT, -onBool_eqF, k_impl_IsSession, boxLV, frzLV, GSes.cells]
    repeat' (first
    | with_reducible refine onCall_eq (h1) (by simp) ?_
    | with_reducible refine onCall_eq (h3) (by simp) ?_
    | (with_reducible (first | refine onBoolT (fun hb_ => ?_) (fun hb_ => ?_) | refine onBoolF (fun hb_ => ?_) (fun hb_ => ?_)) <;> simp (disch := omega) [-onBool_some, -onBool_leT, -onBool_leF, -onBool_ltT, -onBool_ltF, -onBool_eqT, -onBool_eqF, hb_, hb])
    | simp (disch := omega) [-onBool_some, -onBool_leT, -onBool_leF, -onBool_ltT, -onBool_ltF, -onBool_eqT, -onBool_eqF, hb])
    all_goals simp_all [GSes.ok]
theorem specIsSession_ok (x : GSes) (hw : x.wf) : Gives Try.prog n_spec_IsSession [x.lv] (· = B x.ok) := by
  refine Gives.of_codeOf c_spec_IsSession mixed (by simp) ⟨_, rfl, by simp⟩ ?_
  obtain ⟨hs, hc, ht⟩ := hw
  have h1 := specIsSystem_ok x.sys hs
  have h3 := specIsWritten_ok x.term ht
  cases hb : x.sys.sys with
  | true =>
    have h2 := l3Context_ok x.sys (GSys.sys_of hb) x.nl x.ctx hc
    simp (disch := omega) [-onBool_some, -onBool_leT, -onBool_leF, -onBool_ltT, -onBool_ltF, -onBool_eqT, -onBool_eqF, k_spec_IsSession, boxLV, frzLV, GSes.cells]
    repeat' (first
    | with_reducible refine onCall_eq (h1) (by simp) ?_
    | with_reducible refine onCall_eq (h2) (by simp) ?_
    | with_reducible refine onCall_eq (h3) (by simp) ?_
    | (with_reducible (first | refine onBoolT (fun hb_ => ?_) (fun hb_ => ?_) | refine onBoolF (fun hb_ => ?_) (fun hb_ => ?_)) <;> simp (disch := omega) [-onBool_some, -onBool_leT, -onBool_leF, -onBool_ltT, -onBool_ltF, -onBool_eqT, -onBool_eqF, hb_, hb])
    | simp (disch := omega) [-onBool_some, -onBool_leT, -onBool_leF, -onBool_ltT, -onBool_ltF, -onBool_eqT, -onBool_eqF, hb])
    all_goals simp_all [GSes.ok]
  | false =>
    simp (disch := omega) [-onBool_some, -onBool_leT, -onBool_leF, -onBool_ltT, -onBool_ltF, -onBool_eqT, -onBool_eqF, k_spec_IsSession, boxLV, frzLV, GSes.cells]
    repeat' (first
    | with_reducible refine onCall_eq (h1) (by simp) ?_
    | with_reducible refine onCall_eq (h3) (by simp) ?_
    | (with_reducible (first | refine onBoolT (fun hb_ => ?_) (fun hb_ => ?_) | refine onBoolF (fun hb_ => ?_) (fun hb_ => ?_)) <;> simp (disch := omega) [-onBool_some, -onBool_leT, -onBool_leF, -onBool_ltT, -onBool_ltF, -onBool_eqT, -onBool_eqF, hb_, hb])
    | simp (disch := omega) [-onBool_some, -onBool_leT, -onBool_leF, -onBool_ltT, -onBool_ltF, -onBool_eqT, -onBool_eqF, hb])
    all_goals simp_all [GSes.ok]
end Go.Proofs.Ytclfngbealdbgaa
