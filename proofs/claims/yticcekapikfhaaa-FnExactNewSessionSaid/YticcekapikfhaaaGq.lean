/- Marks of the first session. No conditions. -/
import Derived.Test.YticcekapikfhaaaGn
import Derived.Test.YticcekapikfhaaaGp
namespace Go.Proofs.Yticcekapikfhaaa
open Go Go.TL
set_option linter.unusedSimpArgs false
set_option linter.unusedVariables false
set_option linter.unusedSectionVars false
set_option maxRecDepth 20000
set_option maxHeartbeats 4000000

theorem markIntS_nil (nl : Bool) (k : Int) : Gives Try.prog n_laws_markIntS [.sl false nl 1 [], N k] (· = N k) := by
  refine Gives.of_codeOf c_laws_markIntS mixed (by simp) ⟨_, rfl, by simp⟩ ?_
  simp (disch := omega) [-onBool_some, -onBool_leT, -onBool_leF, -onBool_ltT, -onBool_ltF, -onBool_eqT, -onBool_eqF, k_laws_markIntS]
  refine wpC_for 0 0 (fun i t h => t 5 = N 0 ∧ t 1 = N k) (by simp) (by omega) ?_
  rintro i t1 hh hf hi ⟨e5, e1⟩
  (have e0 := hf 0 (by kernel_rfl); clear hf; simp [] at e0)
  simp (disch := omega) [-onBool_some, -onBool_leT, -onBool_leF, -onBool_ltT, -onBool_ltF, -onBool_eqT, -onBool_eqF, e0, e1, e5]
theorem markIntSS_nil (nl : Bool) (k : Int) : Gives Try.prog n_laws_markIntSS [.sl false nl 1 [], N k] (· = N k) := by
  refine Gives.of_codeOf c_laws_markIntSS mixed (by simp) ⟨_, rfl, by simp⟩ ?_
  simp (disch := omega) [-onBool_some, -onBool_leT, -onBool_leF, -onBool_ltT, -onBool_ltF, -onBool_eqT, -onBool_eqF, k_laws_markIntSS]
  refine wpC_for 0 0 (fun i t h => t 5 = N 0 ∧ t 1 = N k) (by simp) (by omega) ?_
  rintro i t1 hh hf hi ⟨e5, e1⟩
  (have e0 := hf 0 (by kernel_rfl); clear hf; simp [] at e0)
  simp (disch := omega) [-onBool_some, -onBool_leT, -onBool_leF, -onBool_ltT, -onBool_ltF, -onBool_eqT, -onBool_eqF, e0, e1, e5]
theorem heldIntSS_nil (nl : Bool) (k : Int) : Gives Try.prog n_laws_heldIntSS [.sl false nl 1 [], N k] (· = N k) := by
  refine Gives.of_codeOf c_laws_heldIntSS mixed (by simp) ⟨_, rfl, by simp⟩ ?_
  simp (disch := omega) [-onBool_some, -onBool_leT, -onBool_leF, -onBool_ltT, -onBool_ltF, -onBool_eqT, -onBool_eqF, k_laws_heldIntSS]
  refine wpC_for 0 0 (fun i t h => t 5 = N 0 ∧ t 1 = N k) (by simp) (by omega) ?_
  rintro i t1 hh hf hi ⟨e5, e1⟩
  (have e0 := hf 0 (by kernel_rfl); clear hf; simp [] at e0)
  simp (disch := omega) [-onBool_some, -onBool_leT, -onBool_leF, -onBool_ltT, -onBool_ltF, -onBool_eqT, -onBool_eqF, e0, e1, e5]
theorem markTermS_nil (nl : Bool) (k : Int) : Gives Try.prog n_laws_markTermS [.sl false nl 1 [], N k] (· = N k) := by
  refine Gives.of_codeOf c_laws_markTermS mixed (by simp) ⟨_, rfl, by simp⟩ ?_
  simp (disch := omega) [-onBool_some, -onBool_leT, -onBool_leF, -onBool_ltT, -onBool_ltF, -onBool_eqT, -onBool_eqF, k_laws_markTermS]
  refine wpC_for 0 0 (fun i t h => t 5 = N 0 ∧ t 1 = N k) (by simp) (by omega) ?_
  rintro i t1 hh hf hi ⟨e5, e1⟩
  (have e0 := hf 0 (by kernel_rfl); clear hf; simp [] at e0)
  simp (disch := omega) [-onBool_some, -onBool_leT, -onBool_leF, -onBool_ltT, -onBool_ltF, -onBool_eqT, -onBool_eqF, e0, e1, e5]
theorem heldTermS_nil (nl : Bool) (k : Int) : Gives Try.prog n_laws_heldTermS [.sl false nl 1 [], N k] (· = N k) := by
  refine Gives.of_codeOf c_laws_heldTermS mixed (by simp) ⟨_, rfl, by simp⟩ ?_
  simp (disch := omega) [-onBool_some, -onBool_leT, -onBool_leF, -onBool_ltT, -onBool_ltF, -onBool_eqT, -onBool_eqF, k_laws_heldTermS]
  refine wpC_for 0 0 (fun i t h => t 5 = N 0 ∧ t 1 = N k) (by simp) (by omega) ?_
  rintro i t1 hh hf hi ⟨e5, e1⟩
  (have e0 := hf 0 (by kernel_rfl); clear hf; simp [] at e0)
  simp (disch := omega) [-onBool_some, -onBool_leT, -onBool_leF, -onBool_ltT, -onBool_ltF, -onBool_eqT, -onBool_eqF, e0, e1, e5]
theorem markTerm_nil (op n : Int) (na nb : Bool) (k : Int) : Gives Try.prog n_laws_markTerm [.agg [N op, N n, .sl false na 1 [], .sl false nb 1 []], N k] (· = N k) := by
  refine Gives.of_codeOf c_laws_markTerm mixed (by simp) ⟨_, rfl, by simp⟩ ?_
  simp (disch := omega) [-onBool_some, -onBool_leT, -onBool_leF, -onBool_ltT, -onBool_ltF, -onBool_eqT, -onBool_eqF, k_laws_markTerm, boxLV, frzLV]
  repeat' (first
    | with_reducible refine onCall_eq (markIntS_nil _ _) (by simp) ?_
    | with_reducible refine onCall_eq (markTermS_nil _ _) (by simp) ?_
    | (with_reducible (first | refine onBoolT (fun hb_ => ?_) (fun hb_ => ?_) | refine onBoolF (fun hb_ => ?_) (fun hb_ => ?_)) <;> simp (disch := omega) [-onBool_some, -onBool_leT, -onBool_leF, -onBool_ltT, -onBool_ltF, -onBool_eqT, -onBool_eqF, hb_])
    | simp (disch := omega) [-onBool_some, -onBool_leT, -onBool_leF, -onBool_ltT, -onBool_ltF, -onBool_eqT, -onBool_eqF])
theorem heldIntS_nil (nl : Bool) (k : Int) (hk : 0 ≤ k ∧ k ≤ 4611686018427387904) : Gives Try.prog n_laws_heldIntS [.sl false nl 1 [], N k] (· = N k) := by
  have := heldIntS_ok nl k 0 ⟨hk.1, by omega⟩
  simp [marksF] at this
  exact this
theorem heldTerm_nil (op n : Int) (na nb : Bool) (k : Int) (hk : 0 ≤ k ∧ k ≤ 4611686018427387904) : Gives Try.prog n_laws_heldTerm [.agg [N op, N n, .sl false na 1 [], .sl false nb 1 []], N k] (· = N k) := by
  refine Gives.of_codeOf c_laws_heldTerm mixed (by simp) ⟨_, rfl, by simp⟩ ?_
  have h0 := hk.1
  simp (disch := omega) [-onBool_some, -onBool_leT, -onBool_leF, -onBool_ltT, -onBool_ltF, -onBool_eqT, -onBool_eqF, k_laws_heldTerm, boxLV, frzLV]
  repeat' (first
    | with_reducible refine onCall_eq (heldIntS_nil _ k hk) (by simp) ?_
    | with_reducible refine onCall_eq (heldTermS_nil _ _) (by simp) ?_
    | (with_reducible (first | refine onBoolT (fun hb_ => ?_) (fun hb_ => ?_) | refine onBoolF (fun hb_ => ?_) (fun hb_ => ?_)) <;> simp (disch := omega) [-onBool_some, -onBool_leT, -onBool_leF, -onBool_ltT, -onBool_ltF, -onBool_eqT, -onBool_eqF, hb_])
    | simp (disch := omega) [-onBool_some, -onBool_leT, -onBool_leF, -onBool_ltT, -onBool_ltF, -onBool_eqT, -onBool_eqF])
  all_goals simp only [ltB_true, ltB_false, leB_true, leB_false, eqB_true, eqB_false, Bool.not_true, Bool.not_false] at hb_
  all_goals omega
theorem heldSystem_ok (n1 n2 n3 : Bool) (size : Int) (p t b : Nat) (k : Int) (hk : 0 ≤ k ∧ k + (p + t + b) ≤ 4611686018427387904) :
    Gives Try.prog n_laws_heldSystem [.agg [N size, L n1 (marksF mI k p), L n2 (marksF mI (k + p) t), LB n3 (marksF mB (k + p + t) b)], N k] (· = N (k + p + t + b)) := by
  refine Gives.of_codeOf c_laws_heldSystem mixed (by simp) ⟨_, rfl, by simp⟩ ?_
  have a1 := heldIntS_ok n1 k p (by omega)
  have a2 := heldIntS_ok n2 (k + p) t (by omega)
  have a3 := heldBoolS_ok n3 (k + p + t) b (by omega)
  simp (disch := omega) [-onBool_some, -onBool_leT, -onBool_leF, -onBool_ltT, -onBool_ltF, -onBool_eqT, -onBool_eqF, k_laws_heldSystem, boxLV, frzLV]
  repeat' (first
    | with_reducible refine onCall_eq (a1) (by simp) ?_
    | with_reducible refine onCall_eq (a2) (by simp) ?_
    | with_reducible refine onCall_eq (a3) (by simp) ?_
    | (with_reducible (first | refine onBoolT (fun hb_ => ?_) (fun hb_ => ?_) | refine onBoolF (fun hb_ => ?_) (fun hb_ => ?_)) <;> simp (disch := omega) [-onBool_some, -onBool_leT, -onBool_leF, -onBool_ltT, -onBool_ltF, -onBool_eqT, -onBool_eqF, hb_])
    | simp (disch := omega) [-onBool_some, -onBool_leT, -onBool_leF, -onBool_ltT, -onBool_ltF, -onBool_eqT, -onBool_eqF])
  all_goals simp only [ltB_true, ltB_false, leB_true, leB_false, eqB_true, eqB_false, Bool.not_true, Bool.not_false] at hb_
  all_goals omega
theorem heldSession_ok (n1 n2 n3 nc na nb : Bool) (size op n : Int) (p t b : Nat) (k : Int) (hk : 0 ≤ k ∧ k + (p + t + b) ≤ 4611686018427387904) :
    Gives Try.prog n_laws_heldSession [.agg [N size, L n1 (marksF mI k p), L n2 (marksF mI (k + p) t), LB n3 (marksF mB (k + p + t) b), .sl false nc 1 [], N op, N n, .sl false na 1 [], .sl false nb 1 []], N k] (· = N (k + p + t + b)) := by
  refine Gives.of_codeOf c_laws_heldSession mixed (by simp) ⟨_, rfl, by simp⟩ ?_
  have a1 := heldSystem_ok n1 n2 n3 size p t b k hk
  have hk2 : 0 ≤ k + p + t + b ∧ k + p + t + b ≤ 4611686018427387904 := by omega
  simp (disch := omega) [-onBool_some, -onBool_leT, -onBool_leF, -onBool_ltT, -onBool_ltF, -onBool_eqT, -onBool_eqF, k_laws_heldSession, boxLV, frzLV]
  repeat' (first
    | with_reducible refine onCall_eq (a1) (by simp) ?_
    | with_reducible refine onCall_eq (heldIntSS_nil _ _) (by simp) ?_
    | with_reducible refine onCall_eq (heldTerm_nil _ _ _ _ _ hk2) (by simp) ?_
    | (with_reducible (first | refine onBoolT (fun hb_ => ?_) (fun hb_ => ?_) | refine onBoolF (fun hb_ => ?_) (fun hb_ => ?_)) <;> simp (disch := omega) [-onBool_some, -onBool_leT, -onBool_leF, -onBool_ltT, -onBool_ltF, -onBool_eqT, -onBool_eqF, hb_])
    | simp (disch := omega) [-onBool_some, -onBool_leT, -onBool_leF, -onBool_ltT, -onBool_ltF, -onBool_eqT, -onBool_eqF])
  all_goals simp only [ltB_true, ltB_false, leB_true, leB_false, eqB_true, eqB_false, Bool.not_true, Bool.not_false] at hb_
  all_goals omega
theorem markSession_ok (u1 n1 u2 n2 u3 n3 nc na nb : Bool) (size op n : Int) (p t : List Int) (b : List Bool) (k : Int) (hk : 0 ≤ k ∧ k + (p.length + t.length + b.length) ≤ 4611686018427387904) (h1 h2 : List Box) (y1 y2 y3 : LV) (b1 b2 b3 : List Box)
    (t1 : Th (OU u1 n1 p) h1.length y1 b1) (t2 : Th (OU u2 n2 t) (h1 ++ b1).length y2 b2) (t3 : Th (OB u3 n3 b) (h1 ++ b1 ++ b2).length y3 b3) :
    LCalls Try.prog n_laws_markSession [.agg [N size, y1, y2, y3, .sl false nc 1 [], N op, N n, .sl false na 1 [], .sl false nb 1 []], N k] (h1 ++ b1 ++ b2 ++ b3 ++ h2) (fun r h' => r = N (k + p.length + t.length + b.length) ∧ ∃ c1 c2 c3, c1.length = b1.length ∧ c2.length = b2.length ∧ c3.length = b3.length ∧
      Th (OU u1 n1 (marksF mI k p.length)) h1.length y1 c1 ∧ Th (OU u2 n2 (marksF mI (k + p.length) t.length)) (h1 ++ c1).length y2 c2 ∧ Th (OB u3 n3 (marksF mB (k + p.length + t.length) b.length)) (h1 ++ c1 ++ c2).length y3 c3 ∧ ∃ ex, h' = h1 ++ c1 ++ c2 ++ c3 ++ h2 ++ ex) := by
  have s1 := Th.share _ _ _ _ t1
  have s2 := Th.share _ _ _ _ t2
  have s3 := Th.share _ _ _ _ t3
  have m1 := markSystem_ok u1 n1 u2 n2 u3 n3 size p t b k hk h1 (h2 ++ [none]) y1 y2 y3 b1 b2 b3 t1 t2 t3
  obtain ⟨H, hH⟩ : ∃ H, h1 ++ b1 ++ b2 ++ b3 ++ h2 = H := ⟨_, rfl⟩
  rw [show h1 ++ b1 ++ b2 ++ b3 ++ (h2 ++ [none]) = H ++ [none] by rw [← hH]; simp] at m1
  rw [hH]
  refine LCalls.of_codeOf c_laws_markSession mixed (by simp) ?_ ?_
  · obtain ⟨r1, _, rfl, c1, c2, c3, l1, l2, l3, g1, g2, g3, ex, rfl⟩ := m1.2.1
    exact ⟨_, _, rfl, c1, c2, c3, l1, l2, l3, g1, g2, g3, [], rfl⟩
  · simp (disch := omega) [-onBool_some, -onBool_leT, -onBool_leF, -onBool_ltT, -onBool_ltF, -onBool_eqT, -onBool_eqF, k_laws_markSession, boxLV, frzLV, s1, s2, s3]
    refine onCall_any m1 ?_
    rintro r h' ⟨rfl, c1, c2, c3, l1, l2, l3, g1, g2, g3, ex, rfl⟩
    generalize hH2 : h1 ++ c1 ++ c2 ++ c3 ++ (h2 ++ [none]) ++ ex = H2 at *
    simp (disch := omega) [-onBool_some, -onBool_leT, -onBool_leF, -onBool_ltT, -onBool_ltF, -onBool_eqT, -onBool_eqF, s1, s2, s3]
    repeat' (first
    | with_reducible refine onCall_eq (markIntSS_nil _ _) (by simp) ?_
    | with_reducible refine onCall_eq (markTerm_nil _ _ _ _ _) (by simp) ?_
    | (with_reducible (first | refine onBoolT (fun hb_ => ?_) (fun hb_ => ?_) | refine onBoolF (fun hb_ => ?_) (fun hb_ => ?_)) <;> simp (disch := omega) [-onBool_some, -onBool_leT, -onBool_leF, -onBool_ltT, -onBool_ltF, -onBool_eqT, -onBool_eqF, hb_, s1, s2, s3])
    | simp (disch := omega) [-onBool_some, -onBool_leT, -onBool_leF, -onBool_ltT, -onBool_ltF, -onBool_eqT, -onBool_eqF, s1, s2, s3])
    have hl := congrArg List.length hH
    have hl2 := congrArg List.length hH2
    simp only [List.length_append, List.length_cons, List.length_nil] at hl hl2
    refine post_tmp (.inr rfl) (by simp; omega) ⟨by simp, c1, l1, c2, l2, c3, l3, g1, by simpa using g2, by simpa using g3, [none] ++ ex, by simp [← hH2]⟩
end Go.Proofs.Yticcekapikfhaaa
