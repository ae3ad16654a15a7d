/- Copies and comparisons of terms, systems and sessions, as the laws make them. No conditions. -/
import Derived.Test.YticcekapikfhaaaGj
namespace Go.Proofs.Yticcekapikfhaaa
open Go Go.TL
set_option linter.unusedSimpArgs false
set_option linter.unusedVariables false
set_option maxRecDepth 20000
set_option maxHeartbeats 4000000

theorem eqTermS_ok (n1 n2 : Bool) (a b : List GTerm) (ha : a.length ≤ 1099511627776) (hk : ∀ x ∈ a, ∀ y : GTerm, Gives Try.prog n_laws_eqTerm [x.lv, y.lv] (· = B (x.same y))) :
    Gives Try.prog n_laws_eqTermS [.sl false n1 4 (rowsOf a), .sl false n2 4 (rowsOf b)] (· = B (sames a b)) := by
  refine Gives.of_codeOf c_laws_eqTermS mixed (by simp) ⟨_, rfl, by simp⟩ ?_
  simp (disch := omega) [-onBool_some, -onBool_leT, -onBool_leF, -onBool_ltT, -onBool_ltF, -onBool_eqT, -onBool_eqF, k_laws_eqTermS]
  (with_reducible first | refine onBoolT (fun h1 => ?_) (fun h1 => ?_) | refine onBoolF (fun h1 => ?_) (fun h1 => ?_))
  · simp (disch := omega) [-onBool_some, -onBool_leT, -onBool_leF, -onBool_ltT, -onBool_ltF, -onBool_eqT, -onBool_eqF, h1]
    simp only [ltB_true, ltB_false, leB_true, leB_false, eqB_true, eqB_false, Bool.not_true, Bool.not_false] at h1
    refine wpC_for a.length 0 (fun i t _ => t 5 = N i ∧ sames a b = sames (a.drop i) (b.drop i)) (by simp) (by omega) ?_
    rintro i t1 hh hf hi ⟨e5, hj⟩
    (have e0 := hf 0 (by kernel_rfl); have e1 := hf 1 (by kernel_rfl); clear hf; simp [] at e0 e1)
    simp (disch := omega) [-onBool_some, -onBool_leT, -onBool_leF, -onBool_ltT, -onBool_ltF, -onBool_eqT, -onBool_eqF, e0, e1, e5]
    (with_reducible first | refine onBoolT (fun h6 => ?_) (fun h6 => ?_) | refine onBoolF (fun h6 => ?_) (fun h6 => ?_))
    · simp only [ltB_true, ltB_false, leB_true, leB_false, eqB_true, eqB_false, Bool.not_true, Bool.not_false] at h6
      have hd1 := List.drop_eq_getElem_cons (l := a) (i := i) (by omega)
      have hd2 := List.drop_eq_getElem_cons (l := b) (i := i) (by omega)
      have hq2 : sames a b = ((a[i]'(by omega)).same (b[i]'(by omega)) && sames (a.drop (i + 1)) (b.drop (i + 1))) := by rw [hj, hd1, hd2, sames]
      clear hd1 hd2 hj
      have hc := hk (a[i]'(by omega)) (List.getElem_mem _) (b[i]'(by omega))
      simp (disch := omega) [-onBool_some, -onBool_leT, -onBool_leF, -onBool_ltT, -onBool_ltF, -onBool_eqT, -onBool_eqF, e0, e1, e5, idx_T]
      repeat' (first
    | with_reducible refine onCall_eq (hc) (by simp) ?_
    | (with_reducible (first | refine onBoolT (fun hb_ => ?_) (fun hb_ => ?_) | refine onBoolF (fun hb_ => ?_) (fun hb_ => ?_)) <;> simp (disch := omega) [-onBool_some, -onBool_leT, -onBool_leF, -onBool_ltT, -onBool_ltF, -onBool_eqT, -onBool_eqF, hb_, e0, e1, e5, idx_T, i64_wrap])
    | simp (disch := omega) [-onBool_some, -onBool_leT, -onBool_leF, -onBool_ltT, -onBool_ltF, -onBool_eqT, -onBool_eqF, e0, e1, e5, idx_T, i64_wrap])
      · exact ⟨by omega, by rw [hq2, hb_, Bool.true_and]⟩
      · rw [hq2, hb_, Bool.false_and]
    · simp only [ltB_true, ltB_false, leB_true, leB_false, eqB_true, eqB_false, Bool.not_true, Bool.not_false] at h6
      simp (disch := omega) [-onBool_some, -onBool_leT, -onBool_leF, -onBool_ltT, -onBool_ltF, -onBool_eqT, -onBool_eqF]
      rw [hj, List.drop_of_length_le (by omega), List.drop_of_length_le (by omega), sames]
  · simp (disch := omega) [-onBool_some, -onBool_leT, -onBool_leF, -onBool_ltT, -onBool_ltF, -onBool_eqT, -onBool_eqF, h1]
    simp only [ltB_true, ltB_false, leB_true, leB_false, eqB_true, eqB_false, Bool.not_true, Bool.not_false] at h1
    exact sames_len (by omega)
theorem eqTerm_ok : ∀ (d : Nat) (a : GTerm), a.size ≤ d → a.wf → ∀ b : GTerm, Gives Try.prog n_laws_eqTerm [a.lv, b.lv] (· = B (a.same b)) := by
  intro d
  induction d with
  | zero => intro t h; have := t.size_pos; omega
  | succ d ih =>
    rintro ⟨op, n, nl1, ty, nl2, ks⟩ hd hw ⟨op', n', nl1', ty', nl2', ks'⟩
    simp only [GTerm.wf] at hw
    obtain ⟨hop, hn, hty, hk, hks⟩ := hw
    simp only [GTerm.size, GTerm.lv, GTerm.cells] at hd ⊢
    have h1 := eqIntS_ok nl1 nl1' ty ty' hty.1
    have h2 := eqTermS_ok nl2 nl2' ks ks' hk (fun k hk' => ih k (by
        obtain ⟨i, hi, rfl⟩ := List.getElem_of_mem hk'
        have := size_kid hi; omega) (wfs_iff.1 hks k hk'))
    refine Gives.of_codeOf c_laws_eqTerm mixed (by simp) ⟨_, rfl, by simp⟩ ?_
    rw [GTerm.same]
    generalize (ty == ty') = q1 at *
    simp (disch := omega) [-onBool_some, -onBool_leT, -onBool_leF, -onBool_ltT, -onBool_ltF, -onBool_eqT, -onBool_eqF, k_laws_eqTerm, boxLV, frzLV]
    repeat' (first
    | with_reducible refine onCall_eq (h1) (by simp) ?_
    | with_reducible refine onCall_eq (h2) (by simp) ?_
    | (with_reducible (first | refine onBoolT (fun hb_ => ?_) (fun hb_ => ?_) | refine onBoolF (fun hb_ => ?_) (fun hb_ => ?_)) <;> simp (disch := omega) [-onBool_some, -onBool_leT, -onBool_leF, -onBool_ltT, -onBool_ltF, -onBool_eqT, -onBool_eqF, hb_])
    | simp (disch := omega) [-onBool_some, -onBool_leT, -onBool_leF, -onBool_ltT, -onBool_ltF, -onBool_eqT, -onBool_eqF])
    all_goals simp_all
end Go.Proofs.Yticcekapikfhaaa
