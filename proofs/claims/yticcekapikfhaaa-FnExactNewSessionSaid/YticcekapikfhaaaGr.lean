/- The law of NewSession. No conditions. -/
import Derived.Test.YticcekapikfhaaaGq
import Derived.Test.YticcekapikfhaaaGl
namespace Go.Proofs.Yticcekapikfhaaa
open Go Go.TL
set_option linter.unusedSimpArgs false
set_option linter.unusedVariables false
set_option linter.unusedSectionVars false
set_option maxRecDepth 20000
set_option maxHeartbeats 4000000

theorem eqTermS_nil (n1 n2 : Bool) : Gives Try.prog n_laws_eqTermS [.sl false n1 1 [], .sl false n2 1 []] (· = B true) := by
  refine Gives.of_codeOf c_laws_eqTermS mixed (by simp) ⟨_, rfl, by simp⟩ ?_
  simp (disch := omega) [-onBool_some, -onBool_leT, -onBool_leF, -onBool_ltT, -onBool_ltF, -onBool_eqT, -onBool_eqF, k_laws_eqTermS]
  refine wpC_for 0 0 (fun i t h => t 5 = N 0) (by simp) (by omega) ?_
  rintro i t1 hh hf hi e5
  (have e0 := hf 0 (by kernel_rfl); clear hf; simp [] at e0)
  simp (disch := omega) [-onBool_some, -onBool_leT, -onBool_leF, -onBool_ltT, -onBool_ltF, -onBool_eqT, -onBool_eqF, e0, e5]
theorem eqTerm_nil (op n : Int) (n1 n2 n3 n4 : Bool) : Gives Try.prog n_laws_eqTerm [.agg [N op, N n, .sl false n1 1 [], .sl false n2 1 []], .agg [N op, N n, .sl false n3 1 [], .sl false n4 1 []]] (· = B true) := by
  refine Gives.of_codeOf c_laws_eqTerm mixed (by simp) ⟨_, rfl, by simp⟩ ?_
  have h1 : Gives Try.prog n_laws_eqIntS [.sl false n1 1 [], .sl false n3 1 []] (· = B true) := (eqIntS_ok n1 n3 [] [] (by simp)).mono fun r h => by rw [h]; rfl
  simp (disch := omega) [-onBool_some, -onBool_leT, -onBool_leF, -onBool_ltT, -onBool_ltF, -onBool_eqT, -onBool_eqF, k_laws_eqTerm, boxLV, frzLV]
  repeat' (first
    | with_reducible refine onCall_eq (h1) (by simp) ?_
    | with_reducible refine onCall_eq (eqTermS_nil _ _) (by simp) ?_
    | (with_reducible (first | refine onBoolT (fun hb_ => ?_) (fun hb_ => ?_) | refine onBoolF (fun hb_ => ?_) (fun hb_ => ?_)) <;> simp (disch := omega) [-onBool_some, -onBool_leT, -onBool_leF, -onBool_ltT, -onBool_ltF, -onBool_eqT, -onBool_eqF, hb_])
    | simp (disch := omega) [-onBool_some, -onBool_leT, -onBool_leF, -onBool_ltT, -onBool_ltF, -onBool_eqT, -onBool_eqF])
/-- the first session, shared -/
abbrev newShared : LV := .agg [N 3, L false nP, L false nT, LB false nB, .sl false true 1 [], N 1, N 0, .sl false true 1 [], .sl false true 1 []]
theorem nP_eq : nP = [0, 1, 2, 1, 2, 2, 2, 2, 2] := by decide
theorem nT_eq : nT = [0, 0, 0, 0, 1, 2, 0, 2, 2] := by decide
theorem nP_i (n : Int) (h : n ∈ nP) : I64 n := by
  rw [nP_eq] at h; simp at h; unfold I64; omega
theorem nT_i (n : Int) (h : n ∈ nT) : I64 n := by
  rw [nT_eq] at h; simp at h; unfold I64; omega
theorem eqSession_new : Gives Try.prog n_laws_eqSession [newShared, newShared] (· = B true) := by
  refine Gives.of_codeOf c_laws_eqSession mixed (by simp) ⟨_, rfl, by simp⟩ ?_
  have lP : nP.length = 9 := by rw [tabL_len]
  have lT : nT.length = 9 := by rw [tabL_len]
  have lB : nB.length = 9 := by rw [tabL_len]
  have h1 : Gives Try.prog n_laws_eqSystem [.agg [N 3, L false nP, L false nT, LB false nB], .agg [N 3, L false nP, L false nT, LB false nB]] (· = B true) := by
    refine (eqSystem_ok ⟨3, false, nP, false, nT, false, nB⟩ ⟨3, false, nP, false, nT, false, nB⟩ ⟨⟨by simp, by simp⟩, by simp only [lP]; omega, by simp only [lT]; omega, by simp only [lB]; omega, nP_i, nT_i⟩).mono fun r h => by rw [h, GSys.same_refl]
  have h2 : Gives Try.prog n_laws_eqIntSS [.sl false true 1 [], .sl false true 1 []] (· = B true) := (eqIntSS_ok true true [] [] ⟨by simp, by simp⟩).mono fun r h => by rw [h, sameC_refl]
  simp (disch := omega) [-onBool_some, -onBool_leT, -onBool_leF, -onBool_ltT, -onBool_ltF, -onBool_eqT, -onBool_eqF, k_laws_eqSession, boxLV, frzLV]
  repeat' (first
    | with_reducible refine onCall_eq (h1) (by simp) ?_
    | with_reducible refine onCall_eq (h2) (by simp) ?_
    | with_reducible refine onCall_eq (eqTerm_nil _ _ _ _ _ _) (by simp) ?_
    | (with_reducible (first | refine onBoolT (fun hb_ => ?_) (fun hb_ => ?_) | refine onBoolF (fun hb_ => ?_) (fun hb_ => ?_)) <;> simp (disch := omega) [-onBool_some, -onBool_leT, -onBool_leF, -onBool_ltT, -onBool_ltF, -onBool_eqT, -onBool_eqF, hb_])
    | simp (disch := omega) [-onBool_some, -onBool_leT, -onBool_leF, -onBool_ltT, -onBool_ltF, -onBool_eqT, -onBool_eqF])
theorem nP_e : nP.isEmpty = false := by rw [nP_eq]; rfl
theorem nT_e : nT.isEmpty = false := by rw [nT_eq]; rfl
theorem nB_e : nB.isEmpty = false := by
  have : nB.length = 9 := by rw [tabL_len]
  cases h : nB with
  | nil => rw [h] at this; simp at this
  | cons a b => rfl
theorem whole_new : Whole newSes := by
  have w1 := whole_sc (fun n : Int => Value.int .i64 n) true false nP (.inr ⟨rfl, rfl⟩)
  have w2 := whole_sc (fun n : Int => Value.int .i64 n) true false nT (.inr ⟨rfl, rfl⟩)
  have w3 := whole_sc (fun n : Bool => Value.bool n) true false nB (.inr ⟨rfl, rfl⟩)
  simp only [newSes, Whole, WholeAll, WholeRow, nP_e, nT_e, nB_e] at w1 w2 w3 ⊢
  exact ⟨trivial, w1, w2, w3, ⟨.inl trivial, trivial⟩, trivial, trivial, ⟨.inl trivial, trivial⟩, ⟨.inl trivial, trivial⟩, trivial⟩
/-- the first session, thawed -/
theorem th_new {n : Nat} {y : LV} {bs : List Box} (h : Th newSes n y bs) : ∃ y1 y2 y3 b1 b2 b3, y = .agg [N 3, y1, y2, y3, .sl false true 1 [], N 1, N 0, .sl false true 1 [], .sl false true 1 []] ∧ bs = b1 ++ (b2 ++ b3) ∧
    Th (OU true false nP) n y1 b1 ∧ Th (OU true false nT) (n + b1.length) y2 b2 ∧ Th (OB true false nB) (n + b1.length + b2.length) y3 b3 := by
  have e1 : OI nP = OU true false nP := by rw [OI, nP_e]
  have e2 : OI nT = OU true false nT := by rw [OI, nT_e]
  have e3 : OBl nB = OB true false nB := by rw [OBl, nB_e]
  rw [newSes, e1, e2, e3] at h
  clear e1 e2 e3
  revert h
  generalize OU true false nP = p
  generalize OU true false nT = q
  generalize OB true false nB = r
  simp only [Th, ThAll]
  rintro ⟨ys, rfl, _, _, _, _, ⟨rfl, rfl⟩, ⟨y1, b1, _, _, g1, ⟨y2, b2, _, _, g2, ⟨y3, b3, _, _, g3, ⟨y4, b4, _, _, g4, ⟨y5, b5, _, _, ⟨rfl, rfl⟩, ⟨y6, b6, _, _, ⟨rfl, rfl⟩, ⟨y7, b7, _, _, g7, ⟨y8, b8, _, _, g8, ⟨rfl, rfl⟩, rfl, rfl⟩, rfl, rfl⟩, rfl, rfl⟩, rfl, rfl⟩, rfl, rfl⟩, rfl, rfl⟩, rfl, rfl⟩, rfl, rfl⟩, rfl, rfl⟩
  simp at g4 g7 g8
  obtain ⟨rfl, rfl⟩ := g4
  obtain ⟨rfl, rfl⟩ := g7
  obtain ⟨rfl, rfl⟩ := g8
  exact ⟨y1, y2, y3, b1, b2, b3, by simp, by simp, by simpa using g1, by simpa using g2, by simpa using g3⟩
end Go.Proofs.Yticcekapikfhaaa
