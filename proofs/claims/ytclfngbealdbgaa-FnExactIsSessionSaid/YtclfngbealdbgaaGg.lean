/- Terms: the check of the program. No conditions. -/
import Derived.Test.YtclfngbealdbgaaGf
namespace Go.Proofs.Ytclfngbealdbgaa
open Go Go.TL
open Go.Proofs.Ytclfngbealdbgaa.Ty
set_option linter.unusedSimpArgs false
set_option linter.unusedVariables false
set_option linter.unusedSectionVars false
set_option maxRecDepth 20000
set_option maxHeartbeats 4000000

/-- a function value that tells of v whether b -/
def FnB (P : Program) (f v : LV) (b : Bool) : Prop := ∃ fid vals, fnArgs f [v] = some (fid, vals) ∧ LowAll 0 vals ∧ Gives P fid vals (· = B b)
theorem onFn_B {P : Program} {f v : LV} {b : Bool} {d : Nat} {K : St → Prop} {s : St} (h : FnB P f v b) (hk : K { t := upd s.t d (B b), h := s.h }) : onFn P false f [v] (some d) K s := by
  obtain ⟨fid, vals, h1, h2, h3⟩ := h
  exact ⟨fid, vals, h1, onCall_eq (rw := false) h3 h2 hk⟩
def numG (pg : Int → Bool) (nv : Int) (op n : Int) : Bool :=
  if eqB op 0 = true then within n 0 (nv - 1) else if eqB op 1 = true then within n 0 2 else if hasB op = true then pg n else eqB n 0
def tyG (pt : List Int → Bool) (op : Int) (ty : List Int) : Bool := if typedB op = true then pt ty else eqB ty.length 0
def nodeG (pg : Int → Bool) (pt : List Int → Bool) (nv : Int) (op n : Int) (ty : List Int) (len : Nat) : Bool := eqB len (manyI op) && (numG pg nv op n && tyG pt op ty)
mutual
def formG (pg : Int → Bool) (pt : List Int → Bool) (nv : Int) : GTerm → Bool
  | .mk op n _ ty _ ks => nodeG pg pt nv op n ty ks.length && formsG pg pt nv op 0 ks
def formsG (pg : Int → Bool) (pt : List Int → Bool) (nv : Int) (op : Int) (k : Nat) : List GTerm → Bool
  | [] => true
  | t :: ts => formG pg pt (nv + addsI op k) t && formsG pg pt nv op (k + 1) ts
end
section
variable {pg : Int → Bool} {pt : List Int → Bool} {size : Int} {closed : Bool} (hg : ∀ n, pg n = (ltB n size && (leB (-1) n && (!closed || leB 0 n)))) (ht : ∀ ty, pt ty = (wty ty && gradedB size closed ty))
include hg ht
mutual
theorem formG_eq : ∀ (t : GTerm) (nv : Int), formG pg pt nv t = formB nv size closed t
  | .mk op n nl1 ty nl2 ks, nv => by
    simp only [formG, formB, formsG_eq ks, nodeG, nodeB, numG, numB, tyG, tyB, hg, ht]
theorem formsG_eq : ∀ (ks : List GTerm) (nv op : Int) (k : Nat), formsG pg pt nv op k ks = formsB nv size closed op k ks
  | [], _, _, _ => by simp [formsG, formsB]
  | t :: ts, nv, op, k => by simp only [formsG, formsB, formG_eq t, formsG_eq ts]
end
end
def chkI (f : Bool) (nodes : Int) (sz : Nat) : Int := if f = true ∧ nodes + sz ≤ 400 then nodes + sz else 401
theorem many_form {op : Int} (h : within op 0 12 = false) : manyI op = -1 := by
  rw [within_false] at h
  unfold manyI; repeat' split
  all_goals omega
theorem many_form' {op : Int} {n : Nat} (h : eqB n (manyI op) = true) : within op 0 12 = true := by
  cases hc : within op 0 12 with
  | true => rfl
  | false => rw [many_form hc, eqB_true] at h; omega
theorem check_ok (fg ft : LV) (pg : Int → Bool) (pt : List Int → Bool) (sg : share fg = fg) (st : share ft = ft) (lg : Low 0 fg) (lt : Low 0 ft)
    (hg : ∀ n, I64 n → FnB Try.prog fg (N n) (pg n)) (ht : ∀ nl ty, Lok ty → FnB Try.prog ft (L nl ty) (pt ty)) : ∀ (d : Nat) (t : GTerm), t.size ≤ d → t.wf → ∀ nv nodes : Int, 0 ≤ nodes → nodes ≤ 400 → 0 ≤ nv → nv ≤ 8 + 2 * nodes →
    Gives Try.prog n_impl_check [t.lv, N nv, fg, ft, N nodes] (· = N (chkI (formG pg pt nv t) nodes t.size)) := by
  intro d
  induction d with
  | zero => intro t h; have := t.size_pos; omega
  | succ d ih =>
    rintro ⟨op, n, nl1, ty, nl2, ks⟩ hd hw nv nodes h0 h1 h2 h3
    simp only [GTerm.wf] at hw
    obtain ⟨hop, hn, hty, hk, hks⟩ := hw
    simp only [GTerm.size, GTerm.lv, GTerm.cells] at hd ⊢
    refine Gives.of_codeOf c_impl_check mixed (by simp) ⟨_, rfl, by simp⟩ ?_
    simp (disch := omega) [-onBool_some, -onBool_leT, -onBool_leF, -onBool_ltT, -onBool_ltF, -onBool_eqT, -onBool_eqF, k_impl_check, boxLV, frzLV, GTerm.cells, i64_wrap, sg, st]
    refine onCall_eq (formOf_ok op) (by simp) ?_
    by_cases hf : within op 0 12 = true
    · rw [formV, if_pos hf]
      simp (disch := omega) [-onBool_some, -onBool_leT, -onBool_leF, -onBool_ltT, -onBool_ltF, -onBool_eqT, -onBool_eqF, sg, st]
      (with_reducible first | refine onBoolT (fun h4 => ?_) (fun h4 => ?_) | refine onBoolF (fun h4 => ?_) (fun h4 => ?_))
      · simp (disch := omega) [-onBool_some, -onBool_leT, -onBool_leF, -onBool_ltT, -onBool_ltF, -onBool_eqT, -onBool_eqF, h4]
        simp only [ltB_true, ltB_false, leB_true, leB_false, eqB_true, eqB_false, Bool.not_true, Bool.not_false] at h4
        unfold chkI; rw [if_neg (by omega)]
      · simp (disch := omega) [-onBool_some, -onBool_leT, -onBool_leF, -onBool_ltT, -onBool_ltF, -onBool_eqT, -onBool_eqF, h4]
        simp only [ltB_true, ltB_false, leB_true, leB_false, eqB_true, eqB_false, Bool.not_true, Bool.not_false] at h4
        (with_reducible first | refine onBoolT (fun h5 => ?_) (fun h5 => ?_) | refine onBoolF (fun h5 => ?_) (fun h5 => ?_))
        · simp only [wpC_skip, thenL_normal]
          refine wpC_cut (fun t h => t 12 = B (numG pg nv op n) ∧ h[1]? = some (some [wordV op, N (manyI op), B (hasB op), B (typedB op)])) ?_ ?_
          · repeat' (first
    | with_reducible refine onCall_eq (within_ok _ _ _) (by simp) ?_
    | with_reducible refine onFn_B (hg n hn) ?_
    | (with_reducible (first | refine onBoolT (fun hb_ => ?_) (fun hb_ => ?_) | refine onBoolF (fun hb_ => ?_) (fun hb_ => ?_)) <;> simp (disch := omega) [-onBool_some, -onBool_leT, -onBool_leF, -onBool_ltT, -onBool_ltF, -onBool_eqT, -onBool_eqF, hb_, sg, st, i64_wrap])
    | simp (disch := omega) [-onBool_some, -onBool_leT, -onBool_leF, -onBool_ltT, -onBool_ltF, -onBool_eqT, -onBool_eqF, sg, st, i64_wrap])
            all_goals simp_all [numG]
          · rintro t1 hh hf1 ⟨e12, eh⟩
            (have e1 := hf1 1 (by kernel_rfl); have e2 := hf1 2 (by kernel_rfl); have e3 := hf1 3 (by kernel_rfl); have e4 := hf1 4 (by kernel_rfl); have e5 := hf1 5 (by kernel_rfl); have e11 := hf1 11 (by kernel_rfl); clear hf1; simp [sg, st] at e1 e2 e3 e4 e5 e11)
            obtain ⟨q, hq⟩ : ∃ q, (numG pg nv op n && tyG pt op ty) = q := ⟨_, rfl⟩
            refine wpC_cut (fun t h => t 12 = B q) ?_ ?_
            · repeat' (first
    | with_reducible refine onFn_B (ht nl1 ty hty) ?_
    | (with_reducible (first | refine onBoolT (fun hb_ => ?_) (fun hb_ => ?_) | refine onBoolF (fun hb_ => ?_) (fun hb_ => ?_)) <;> simp (disch := omega) [-onBool_some, -onBool_leT, -onBool_leF, -onBool_ltT, -onBool_ltF, -onBool_eqT, -onBool_eqF, hb_, sg, st, e1, e2, e3, e4, e5, e11, e12, eh])
    | simp (disch := omega) [-onBool_some, -onBool_leT, -onBool_leF, -onBool_ltT, -onBool_ltF, -onBool_eqT, -onBool_eqF, sg, st, e1, e2, e3, e4, e5, e11, e12, eh])
              all_goals rw [← hq]
              all_goals simp_all [tyG]
            · rintro t2 hh hf1 f12
              (have f1 := hf1 1 (by kernel_rfl); have f2 := hf1 2 (by kernel_rfl); have f3 := hf1 3 (by kernel_rfl); have f4 := hf1 4 (by kernel_rfl); have f5 := hf1 5 (by kernel_rfl); clear hf1; simp [e1, e2, e3, e4, e5] at f1 f2 f3 f4 f5)
              simp (disch := omega) [-onBool_some, -onBool_leT, -onBool_leF, -onBool_ltT, -onBool_ltF, -onBool_eqT, -onBool_eqF, f12]
              (with_reducible first | refine onBoolT (fun h6 => ?_) (fun h6 => ?_) | refine onBoolF (fun h6 => ?_) (fun h6 => ?_))
              · have hN : nodeG pg pt nv op n ty ks.length = true := by simp only [nodeG, h5, hq, h6, Bool.true_and]
                simp (disch := omega) [-onBool_some, -onBool_leT, -onBool_leF, -onBool_ltT, -onBool_ltF, -onBool_eqT, -onBool_eqF, f1, f2, f3, f4, f5]
                refine wpC_for ks.length 0 (fun i t _ => ∃ nd : Int, t 84 = N i ∧ t 4 = N nd ∧ nodes + 1 ≤ nd ∧ nd ≤ 400 ∧ chkI (formG pg pt nv (.mk op n nl1 ty nl2 ks)) nodes (sizes ks + 1) = chkI (formsG pg pt nv op i (ks.drop i)) nd (sizes (ks.drop i)))
                  ⟨nodes + 1, by simp, by simp [f4], by omega, by omega, ?_⟩ (by omega) ?_
                · simp only [formG, hN, Bool.true_and, List.drop_zero, chkI]
                  congr 1 <;> grind
                rintro i t3 hh hf1 hi ⟨nd, g84, g4, hnd, hnd2, he⟩
                (have g1 := hf1 1 (by kernel_rfl); have g2 := hf1 2 (by kernel_rfl); have g3 := hf1 3 (by kernel_rfl); have g5 := hf1 5 (by kernel_rfl); have g82 := hf1 82 (by kernel_rfl); have g83 := hf1 83 (by kernel_rfl); clear hf1; simp [f1, f2, f3, f5] at g1 g2 g3 g5 g82 g83)
                simp (disch := omega) [-onBool_some, -onBool_leT, -onBool_leF, -onBool_ltT, -onBool_ltF, -onBool_eqT, -onBool_eqF, g1, g2, g3, g4, g5, g82, g83, g84]
                (with_reducible first | refine onBoolT (fun h7 => ?_) (fun h7 => ?_) | refine onBoolF (fun h7 => ?_) (fun h7 => ?_))
                · simp only [ltB_true, ltB_false, leB_true, leB_false, eqB_true, eqB_false, Bool.not_true, Bool.not_false] at h7
                  have hsd := sizes_drop (ks := ks) (i := i) (by omega)
                  have hsk := size_kid (ks := ks) (i := i) (by omega)
                  have hwk : (ks[i]'(by omega)).wf := wfs_iff.1 hks _ (List.getElem_mem _)
                  have hA : 0 ≤ addsI op i ∧ addsI op i ≤ 2 := by unfold addsI; repeat' split
                                                                  all_goals omega
                  have hc := ih (ks[i]'(by omega)) (by omega) hwk (nv + addsI op i) nd (by omega) (by omega) (by omega) (by omega)
                  have hfd : formsG pg pt nv op i (ks.drop i) = (formG pg pt (nv + addsI op i) (ks[i]'(by omega)) && formsG pg pt nv op (i + 1) (ks.drop (i + 1))) := by
                    rw [List.drop_eq_getElem_cons (by omega), formsG]
                  simp (disch := omega) [-onBool_some, -onBool_leT, -onBool_leF, -onBool_ltT, -onBool_ltF, -onBool_eqT, -onBool_eqF, g1, g2, g3, g4, g5, g82, g83, g84, idx_T, sg, st]
                  repeat' (first
    | with_reducible refine onCall_eq (adds_ok op i) (by simp) ?_
    | with_reducible refine onCall_eq hc (by simp [lg, lt]) ?_
    | (with_reducible (first | refine onBoolT (fun hb_ => ?_) (fun hb_ => ?_) | refine onBoolF (fun hb_ => ?_) (fun hb_ => ?_)) <;> simp (disch := omega) [-onBool_some, -onBool_leT, -onBool_leF, -onBool_ltT, -onBool_ltF, -onBool_eqT, -onBool_eqF, hb_, g1, g2, g3, g4, g5, g82, g83, g84, i64_wrap, sg, st])
    | simp (disch := omega) [-onBool_some, -onBool_leT, -onBool_leF, -onBool_ltT, -onBool_ltF, -onBool_eqT, -onBool_eqF, g1, g2, g3, g4, g5, g82, g83, g84, i64_wrap, sg, st])
                  all_goals simp only [ltB_true, ltB_false, leB_true, leB_false, eqB_true, eqB_false, Bool.not_true, Bool.not_false] at hb_
                  all_goals rw [he, hfd, hsd]
                  · unfold chkI at hb_ ⊢
                    grind
                  · refine ⟨by omega, ?_⟩
                    unfold chkI at hb_ ⊢
                    grind
                · simp only [ltB_true, ltB_false, leB_true, leB_false, eqB_true, eqB_false, Bool.not_true, Bool.not_false] at h7
                  simp (disch := omega) [-onBool_some, -onBool_leT, -onBool_leF, -onBool_ltT, -onBool_ltF, -onBool_eqT, -onBool_eqF, g4]
                  rw [he, show i = ks.length by omega, List.drop_length]; simp [formsG, chkI, sizes]; omega
              · simp (disch := omega) [-onBool_some, -onBool_leT, -onBool_leF, -onBool_ltT, -onBool_ltF, -onBool_eqT, -onBool_eqF]
                unfold chkI formG nodeG; rw [hq]; simp [h5, h6]
        · simp (disch := omega) [-onBool_some, -onBool_leT, -onBool_leF, -onBool_ltT, -onBool_ltF, -onBool_eqT, -onBool_eqF]
          unfold chkI formG nodeG; simp [h5]
    · simp only [Bool.not_eq_true] at hf
      rw [formV, if_neg (by simp [hf])]
      simp (disch := omega) [-onBool_some, -onBool_leT, -onBool_leF, -onBool_ltT, -onBool_ltF, -onBool_eqT, -onBool_eqF, sg, st]
      unfold chkI formG nodeG
      rw [many_form hf, show eqB (ks.length : Int) (-1) = false by rw [eqB_false]; omega]
      simp

theorem wty_graded {ty : List Int} (h : wty ty = true) : gradedB 16 false ty = true := by
  rw [gradedB, allN_iff]
  intro i hi
  have := wty_codes h i hi
  simp only [gradedAt, okC, gradeI]
  generalize ty.getD i 0 = c at *
  have h3 : ltB (if 35 ≤ c then -1 else if 19 ≤ c then c - 19 else c - 3) 16 = true := by
    rw [ltB_true]; repeat' split
    all_goals omega
  rw [h3]; simp
theorem writtenSize_1_ok (n : Int) (h : I64 n) : FnB Try.prog (.fn n_impl_writtenSize_1 []) (N n) (within n (-1) 15) := by
  refine ⟨n_impl_writtenSize_1, [N n], by simp [fnArgs], by simp, ?_⟩
  refine Gives.of_codeOf c_impl_writtenSize_1 mixed (by simp) ⟨_, rfl, by simp⟩ ?_
  simp (disch := omega) [-onBool_some, -onBool_leT, -onBool_leF, -onBool_ltT, -onBool_ltF, -onBool_eqT, -onBool_eqF, k_impl_writtenSize_1]
  repeat' (first
    | with_reducible refine onCall_eq (within_ok _ _ _) (by simp) ?_
    | (with_reducible (first | refine onBoolT (fun hb_ => ?_) (fun hb_ => ?_) | refine onBoolF (fun hb_ => ?_) (fun hb_ => ?_)) <;> simp (disch := omega) [-onBool_some, -onBool_leT, -onBool_leF, -onBool_ltT, -onBool_ltF, -onBool_eqT, -onBool_eqF, hb_])
    | simp (disch := omega) [-onBool_some, -onBool_leT, -onBool_leF, -onBool_ltT, -onBool_ltF, -onBool_eqT, -onBool_eqF])
theorem isWrittenType_fn (nl : Bool) (ty : List Int) (h : Lok ty) : FnB Try.prog (.fn n_impl_isWrittenType []) (L nl ty) (wty ty) :=
  ⟨n_impl_isWrittenType, [L nl ty], by simp [fnArgs], by simp, isWrittenType_ok nl ty h⟩
/-- a written term -/
def GTerm.writ (t : GTerm) : Bool := decide (t.size ≤ 400) && formB 8 16 false t
theorem writtenSize_ok (t : GTerm) (hw : t.wf) : Gives Try.prog n_impl_writtenSize [t.lv] (· = N (chkI (formB 8 16 false t) 0 t.size)) := by
  refine Gives.of_codeOf c_impl_writtenSize mixed (by simp) ⟨_, rfl, by simp⟩ ?_
  have hc := check_ok (.fn n_impl_writtenSize_1 []) (.fn n_impl_isWrittenType []) (fun n => within n (-1) 15) wty (by simp) (by simp) (by simp) (by simp) writtenSize_1_ok isWrittenType_fn t.size t (by omega) hw 8 0 (by omega) (by omega) (by omega) (by omega)
  rw [formG_eq (size := 16) (closed := false) (fun n => by rw [Bool.eq_iff_iff]; simp [within, ltB_true, ltB_false, leB_true, leB_false, eqB_true, eqB_false, Bool.not_true, Bool.not_false]; omega) (fun ty => by
    cases h : wty ty with
    | false => simp
    | true => simp [wty_graded h])] at hc
  simp (disch := omega) [-onBool_some, -onBool_leT, -onBool_leF, -onBool_ltT, -onBool_ltF, -onBool_eqT, -onBool_eqF, k_impl_writtenSize, boxLV, frzLV]
  repeat' (first
    | with_reducible refine onCall_eq (hc) (by simp) ?_
    | (with_reducible (first | refine onBoolT (fun hb_ => ?_) (fun hb_ => ?_) | refine onBoolF (fun hb_ => ?_) (fun hb_ => ?_)) <;> simp (disch := omega) [-onBool_some, -onBool_leT, -onBool_leF, -onBool_ltT, -onBool_ltF, -onBool_eqT, -onBool_eqF, hb_])
    | simp (disch := omega) [-onBool_some, -onBool_leT, -onBool_leF, -onBool_ltT, -onBool_ltF, -onBool_eqT, -onBool_eqF])
theorem implIsWritten_ok (t : GTerm) (hw : t.wf) : Gives Try.prog n_impl_IsWritten [t.lv] (· = B t.writ) := by
  refine Gives.of_codeOf c_impl_IsWritten mixed (by simp) ⟨_, rfl, by simp⟩ ?_
  have h2 : leB (chkI (formB 8 16 false t) 0 t.size) 400 = t.writ := by
    rw [Bool.eq_iff_iff]
    simp only [ltB_true, ltB_false, leB_true, leB_false, eqB_true, eqB_false, Bool.not_true, Bool.not_false, chkI, GTerm.writ, Bool.and_eq_true, decide_eq_true_eq]
    split <;> grind
  simp (disch := omega) [-onBool_some, -onBool_leT, -onBool_leF, -onBool_ltT, -onBool_ltF, -onBool_eqT, -onBool_eqF, k_impl_IsWritten, boxLV, frzLV]
  repeat' (first
    | with_reducible refine onCall_eq (writtenSize_ok t hw) (by simp) ?_
    | (with_reducible (first | refine onBoolT (fun hb_ => ?_) (fun hb_ => ?_) | refine onBoolF (fun hb_ => ?_) (fun hb_ => ?_)) <;> simp (disch := omega) [-onBool_some, -onBool_leT, -onBool_leF, -onBool_ltT, -onBool_ltF, -onBool_eqT, -onBool_eqF, hb_, h2])
    | simp (disch := omega) [-onBool_some, -onBool_leT, -onBool_leF, -onBool_ltT, -onBool_ltF, -onBool_eqT, -onBool_eqF, h2])
theorem specIsWritten_ok (t : GTerm) (hw : t.wf) : Gives Try.prog n_spec_IsWritten [t.lv] (· = B t.writ) := by
  refine Gives.of_codeOf c_spec_IsWritten mixed (by simp) ⟨_, rfl, by simp⟩ ?_
  have hl := l2Left_ok t.size t (by omega) hw 400 (by omega) (by omega)
  have h16 : I64 16 := ⟨by omega, by omega⟩
  have h2 : leB 0 (leftI t.size 400) = decide (t.size ≤ 400) := by
    rw [Bool.eq_iff_iff]
    simp only [ltB_true, ltB_false, leB_true, leB_false, eqB_true, eqB_false, Bool.not_true, Bool.not_false, leftI, decide_eq_true_eq]
    split <;> omega
  by_cases hs : t.size ≤ 400
  · have hf := l2Term_ok 16 false h16 t.size t (by omega) hw 8 (by omega) (by omega)
    simp (disch := omega) [-onBool_some, -onBool_leT, -onBool_leF, -onBool_ltT, -onBool_ltF, -onBool_eqT, -onBool_eqF, k_spec_IsWritten, boxLV, frzLV]
    repeat' (first
    | with_reducible refine onCall_eq (hl) (by simp) ?_
    | with_reducible refine onCall_eq (hf) (by simp) ?_
    | (with_reducible (first | refine onBoolT (fun hb_ => ?_) (fun hb_ => ?_) | refine onBoolF (fun hb_ => ?_) (fun hb_ => ?_)) <;> simp (disch := omega) [-onBool_some, -onBool_leT, -onBool_leF, -onBool_ltT, -onBool_ltF, -onBool_eqT, -onBool_eqF, hb_, h2])
    | simp (disch := omega) [-onBool_some, -onBool_leT, -onBool_leF, -onBool_ltT, -onBool_ltF, -onBool_eqT, -onBool_eqF, h2])
    all_goals simp_all [GTerm.writ]
  · simp (disch := omega) [-onBool_some, -onBool_leT, -onBool_leF, -onBool_ltT, -onBool_ltF, -onBool_eqT, -onBool_eqF, k_spec_IsWritten, boxLV, frzLV]
    repeat' (first
    | with_reducible refine onCall_eq (hl) (by simp) ?_
    | (with_reducible (first | refine onBoolT (fun hb_ => ?_) (fun hb_ => ?_) | refine onBoolF (fun hb_ => ?_) (fun hb_ => ?_)) <;> simp (disch := omega) [-onBool_some, -onBool_leT, -onBool_leF, -onBool_ltT, -onBool_ltF, -onBool_eqT, -onBool_eqF, hb_, h2])
    | simp (disch := omega) [-onBool_some, -onBool_leT, -onBool_leF, -onBool_ltT, -onBool_ltF, -onBool_eqT, -onBool_eqF, h2])
    · simp at hb_; omega
    · simp_all [GTerm.writ]; omega
end Go.Proofs.Ytclfngbealdbgaa
