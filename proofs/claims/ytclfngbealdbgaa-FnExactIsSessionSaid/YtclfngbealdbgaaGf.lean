/- Terms: their forms. No conditions. -/
import Derived.Test.YtclfngbealdbgaaGi
import Derived.Test.YtclfngbealdbgaaGe
namespace Go.Proofs.Ytclfngbealdbgaa
open Go Go.TL
open Go.Proofs.Ytclfngbealdbgaa.Ty
set_option linter.unusedSimpArgs false
set_option linter.unusedVariables false
set_option maxRecDepth 20000
set_option maxHeartbeats 4000000

/-! forms -/
def numB (nv size : Int) (closed : Bool) (op n : Int) : Bool :=
  if eqB op 0 = true then within n 0 (nv - 1) else if eqB op 1 = true then within n 0 2 else if hasB op = true then ltB n size && (leB (-1) n && (!closed || leB 0 n)) else eqB n 0
def tyB (size : Int) (closed : Bool) (op : Int) (ty : List Int) : Bool := if typedB op = true then wty ty && gradedB size closed ty else eqB ty.length 0
def nodeB (nv size : Int) (closed : Bool) (op n : Int) (ty : List Int) (len : Nat) : Bool := eqB len (manyI op) && (numB nv size closed op n && tyB size closed op ty)
mutual
def formB (nv size : Int) (closed : Bool) : GTerm → Bool
  | .mk op n _ ty _ ks => nodeB nv size closed op n ty ks.length && formsB nv size closed op 0 ks
def formsB (nv size : Int) (closed : Bool) (op : Int) (k : Nat) : List GTerm → Bool
  | [] => true
  | t :: ts => formB (nv + addsI op k) size closed t && formsB nv size closed op (k + 1) ts
end
theorem l2Node_ok (nv size : Int) (closed : Bool) (t : GTerm) (hw : t.wf) (hs : I64 size) (hv : 0 ≤ nv ∧ nv ≤ 1000000) :
    Gives Try.prog n_spec_l2Node [t.lv, N nv, N size, B closed] (· = B (match t with | .mk op n _ ty _ ks => nodeB nv size closed op n ty ks.length)) := by
  obtain ⟨op, n, nl1, ty, nl2, ks⟩ := t
  simp only [GTerm.wf] at hw
  obtain ⟨hop, hn, hty, hk, hks⟩ := hw
  refine Gives.of_codeOf c_spec_l2Node mixed (by simp) ⟨_, rfl, by simp⟩ ?_
  simp (disch := omega) [-onBool_some, -onBool_leT, -onBool_leF, -onBool_ltT, -onBool_ltF, -onBool_eqT, -onBool_eqF, k_spec_l2Node, boxLV, frzLV, GTerm.cells]
  repeat' (first
    | with_reducible refine onCall_eq (l2Many_ok op) (by simp) ?_
    | with_reducible refine onCall_eq (in_ok _ _ _) (by simp) ?_
    | with_reducible refine onCall_eq (l2Has_ok op) (by simp) ?_
    | with_reducible refine onCall_eq (l2Typed_ok op) (by simp) ?_
    | with_reducible refine onCall_eq (l2Type_ok nl1 ty hty) (by simp) ?_
    | with_reducible refine onCall_eq (l2Graded_ok nl1 ty hty size hs _) (by simp) ?_
    | (with_reducible (first | refine onBoolT (fun hb_ => ?_) (fun hb_ => ?_) | refine onBoolF (fun hb_ => ?_) (fun hb_ => ?_)) <;> simp (disch := omega) [-onBool_some, -onBool_leT, -onBool_leF, -onBool_ltT, -onBool_ltF, -onBool_eqT, -onBool_eqF, hb_, i64_wrap])
    | simp (disch := omega) [-onBool_some, -onBool_leT, -onBool_leF, -onBool_ltT, -onBool_ltF, -onBool_eqT, -onBool_eqF, i64_wrap])
  all_goals simp_all [nodeB, numB, tyB, ltB_not]


theorem l2Left_ok : ∀ (d : Nat) (t : GTerm), t.size ≤ d → t.wf → ∀ left : Int, 0 ≤ left → left ≤ 1000000 → Gives Try.prog n_spec_l2Left [t.lv, N left] (· = N (leftI t.size left)) := by
  intro d
  induction d with
  | zero => intro t h; have := t.size_pos; omega
  | succ d ih =>
    rintro ⟨op, n, nl1, ty, nl2, ks⟩ hd hw left h0 h1
    simp only [GTerm.wf] at hw
    obtain ⟨hop, hn, hty, hk, hks⟩ := hw
    simp only [GTerm.size, GTerm.lv, GTerm.cells] at hd ⊢
    refine Gives.of_codeOf c_spec_l2Left mixed (by simp) ⟨_, rfl, by simp⟩ ?_
    simp (disch := omega) [-onBool_some, -onBool_leT, -onBool_leF, -onBool_ltT, -onBool_ltF, -onBool_eqT, -onBool_eqF, k_spec_l2Left, boxLV, frzLV, GTerm.cells, i64_wrap]
    refine wpC_for ks.length 0 (fun i t _ => ∃ m : Int, t 5 = N i ∧ t 1 = N m ∧ -1 ≤ m ∧ m ≤ left ∧ leftI (sizes ks + 1) left = leftI (sizes (ks.drop i)) m) ⟨left - 1, by simp, by simp, by omega, by omega, by unfold leftI; simp; split <;> split <;> omega⟩ (by omega) ?_
    rintro i t1 hh hf hi ⟨m, e5, e1, hm, hml, he⟩
    (have e2 := hf 2 (by kernel_rfl); clear hf; simp [] at e2)
    simp (disch := omega) [-onBool_some, -onBool_leT, -onBool_leF, -onBool_ltT, -onBool_ltF, -onBool_eqT, -onBool_eqF, e1, e2, e5]
    (with_reducible first | refine onBoolT (fun h6 => ?_) (fun h6 => ?_) | refine onBoolF (fun h6 => ?_) (fun h6 => ?_))
    · simp (disch := omega) [-onBool_some, -onBool_leT, -onBool_leF, -onBool_ltT, -onBool_ltF, -onBool_eqT, -onBool_eqF, e1, e2, e5, h6]
      simp only [ltB_true, ltB_false, leB_true, leB_false, eqB_true, eqB_false, Bool.not_true, Bool.not_false] at h6
      have hsd := sizes_drop (ks := ks) (i := i) (by omega)
      have hsk := size_kid (ks := ks) (i := i) (by omega)
      have hwk : (ks[i]'(by omega)).wf := wfs_iff.1 hks _ (List.getElem_mem _)
      (with_reducible first | refine onBoolT (fun h7 => ?_) (fun h7 => ?_) | refine onBoolF (fun h7 => ?_) (fun h7 => ?_))
      · simp only [ltB_true, ltB_false, leB_true, leB_false, eqB_true, eqB_false, Bool.not_true, Bool.not_false] at h7
        have hc := ih (ks[i]'(by omega)) (by omega) hwk m h7 (by omega)
        simp (disch := omega) [-onBool_some, -onBool_leT, -onBool_leF, -onBool_ltT, -onBool_ltF, -onBool_eqT, -onBool_eqF, e1, e2, e5, idx_T]
        repeat' (first
    | with_reducible refine onCall_eq (hc) (by simp) ?_
    | (with_reducible (first | refine onBoolT (fun hb_ => ?_) (fun hb_ => ?_) | refine onBoolF (fun hb_ => ?_) (fun hb_ => ?_)) <;> simp (disch := omega) [-onBool_some, -onBool_leT, -onBool_leF, -onBool_ltT, -onBool_ltF, -onBool_eqT, -onBool_eqF, hb_, e1, e2, e5])
    | simp (disch := omega) [-onBool_some, -onBool_leT, -onBool_leF, -onBool_ltT, -onBool_ltF, -onBool_eqT, -onBool_eqF, e1, e2, e5])
        rw [he, hsd]
        refine ⟨by omega, i64_wrap (by omega), ?_⟩
        unfold leftI; repeat' split
        all_goals omega
      · simp only [ltB_true, ltB_false, leB_true, leB_false, eqB_true, eqB_false, Bool.not_true, Bool.not_false] at h7
        simp (disch := omega) [-onBool_some, -onBool_leT, -onBool_leF, -onBool_ltT, -onBool_ltF, -onBool_eqT, -onBool_eqF, e1, e2, e5]
        rw [he, show m = -1 by omega]; unfold leftI; split <;> omega
    · simp (disch := omega) [-onBool_some, -onBool_leT, -onBool_leF, -onBool_ltT, -onBool_ltF, -onBool_eqT, -onBool_eqF, e1, e2, e5, h6]
      simp only [ltB_true, ltB_false, leB_true, leB_false, eqB_true, eqB_false, Bool.not_true, Bool.not_false] at h6
      rw [he, show i = ks.length by omega, List.drop_length]; simp [sizes, leftI]; try omega
theorem l2Term_ok (size : Int) (closed : Bool) (hs : I64 size) : ∀ (d : Nat) (t : GTerm), t.size ≤ d → t.wf → ∀ nv : Int, 0 ≤ nv → nv + 2 * t.size ≤ 1000000 → Gives Try.prog n_spec_l2Term [t.lv, N nv, N size, B closed] (· = B (formB nv size closed t)) := by
  intro d
  induction d with
  | zero => intro t h; have := t.size_pos; omega
  | succ d ih =>
    rintro ⟨op, n, nl1, ty, nl2, ks⟩ hd hw nv h0 h1
    have hN := l2Node_ok nv size closed (.mk op n nl1 ty nl2 ks) hw hs ⟨h0, by omega⟩
    simp only [GTerm.wf] at hw
    obtain ⟨hop, hn, hty, hk, hks⟩ := hw
    simp only [GTerm.size, GTerm.lv, GTerm.cells] at hd h1 hN ⊢
    refine Gives.of_codeOf c_spec_l2Term mixed (by simp) ⟨_, rfl, by simp⟩ ?_
    simp (disch := omega) [-onBool_some, -onBool_leT, -onBool_leF, -onBool_ltT, -onBool_ltF, -onBool_eqT, -onBool_eqF, k_spec_l2Term, boxLV, frzLV, GTerm.cells]
    refine onCall_eq hN (by simp) ?_
    simp (disch := omega) [-onBool_some, -onBool_leT, -onBool_leF, -onBool_ltT, -onBool_ltF, -onBool_eqT, -onBool_eqF]
    (with_reducible first | refine onBoolT (fun h3 => ?_) (fun h3 => ?_) | refine onBoolF (fun h3 => ?_) (fun h3 => ?_))
    · simp (disch := omega) [-onBool_some, -onBool_leT, -onBool_leF, -onBool_ltT, -onBool_ltF, -onBool_eqT, -onBool_eqF]
      refine wpC_for ks.length 0 (fun i t _ => t 9 = N i ∧ formB nv size closed (.mk op n nl1 ty nl2 ks) = formsB nv size closed op i (ks.drop i)) (by simp [formB, h3]) (by omega) ?_
      rintro i t1 hh hf hi ⟨e9, he⟩
      (have e1 := hf 1 (by kernel_rfl); have e2 := hf 2 (by kernel_rfl); have e3 := hf 3 (by kernel_rfl); have e4 := hf 4 (by kernel_rfl); clear hf; simp [] at e1 e2 e3 e4)
      simp (disch := omega) [-onBool_some, -onBool_leT, -onBool_leF, -onBool_ltT, -onBool_ltF, -onBool_eqT, -onBool_eqF, e1, e2, e3, e4, e9]
      (with_reducible first | refine onBoolT (fun h6 => ?_) (fun h6 => ?_) | refine onBoolF (fun h6 => ?_) (fun h6 => ?_))
      · simp only [ltB_true, ltB_false, leB_true, leB_false, eqB_true, eqB_false, Bool.not_true, Bool.not_false] at h6
        have hsk := size_kid (ks := ks) (i := i) (by omega)
        have hwk : (ks[i]'(by omega)).wf := wfs_iff.1 hks _ (List.getElem_mem _)
        have hA : 0 ≤ addsI op i ∧ addsI op i ≤ 2 := by unfold addsI; repeat' split
                                                        all_goals omega
        have hc := ih (ks[i]'(by omega)) (by omega) hwk (nv + addsI op i) (by omega) (by omega)
        have hfd : formsB nv size closed op i (ks.drop i) = (formB (nv + addsI op i) size closed (ks[i]'(by omega)) && formsB nv size closed op (i + 1) (ks.drop (i + 1))) := by
          rw [List.drop_eq_getElem_cons (by omega), formsB]
        simp (disch := omega) [-onBool_some, -onBool_leT, -onBool_leF, -onBool_ltT, -onBool_ltF, -onBool_eqT, -onBool_eqF, e1, e2, e3, e4, e9, idx_T]
        repeat' (first
    | with_reducible refine onCall_eq (l2Adds_ok op i) (by simp) ?_
    | with_reducible refine onCall_eq (hc) (by simp) ?_
    | (with_reducible (first | refine onBoolT (fun hb_ => ?_) (fun hb_ => ?_) | refine onBoolF (fun hb_ => ?_) (fun hb_ => ?_)) <;> simp (disch := omega) [-onBool_some, -onBool_leT, -onBool_leF, -onBool_ltT, -onBool_ltF, -onBool_eqT, -onBool_eqF, hb_, e1, e2, e3, e4, e9, i64_wrap])
    | simp (disch := omega) [-onBool_some, -onBool_leT, -onBool_leF, -onBool_ltT, -onBool_ltF, -onBool_eqT, -onBool_eqF, e1, e2, e3, e4, e9, i64_wrap])
        · exact ⟨by omega, by rw [he, hfd, hb_, Bool.true_and]⟩
        · rw [he, hfd, hb_, Bool.false_and]
      · simp only [ltB_true, ltB_false, leB_true, leB_false, eqB_true, eqB_false, Bool.not_true, Bool.not_false] at h6
        simp (disch := omega) [-onBool_some, -onBool_leT, -onBool_leF, -onBool_ltT, -onBool_ltF, -onBool_eqT, -onBool_eqF, e1, e2]
        rw [he, show i = ks.length by omega, List.drop_length]; simp [formsB]
    · simp (disch := omega) [-onBool_some, -onBool_leT, -onBool_leF, -onBool_ltT, -onBool_ltF, -onBool_eqT, -onBool_eqF]
      simp [formB, h3]
end Go.Proofs.Ytclfngbealdbgaa
