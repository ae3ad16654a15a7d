/- The law of boxed types, told of its bytes. No conditions. -/
import Derived.Test.YticcekapikfhaaaHc
namespace Go.Proofs.Yticcekapikfhaaa
open Go Go.TL
open Go.Proofs.Yticcekapikfhaaa.Ty
set_option linter.unusedSimpArgs false
set_option linter.unusedVariables false
set_option maxRecDepth 20000
set_option maxHeartbeats 4000000

theorem len_codes {l : List Int} (h : wty l = true) : ∀ n ∈ l, 0 ≤ n ∧ n ≤ 36 := by
  intro n hn
  obtain ⟨i, hi, rfl⟩ := List.getElem_of_mem hn
  have := wty_codes h i hi
  simpa [List.getD_eq_getElem?_getD, hi] using this
theorem lawForgetsBoxes (D : Dr) (hb : ∀ b ∈ D.bs, 0 ≤ b ∧ b ≤ 255) : Gives Try.prog n_laws_FnForgetsBoxes [D.lv] (· = B true) := by
  refine Gives.of_codeOf c_laws_FnForgetsBoxes mixed (by simp) ⟨_, rfl, by simp⟩ ?_
  simp (disch := omega) [-onBool_some, -onBool_leT, -onBool_leF, -onBool_ltT, -onBool_ltF, -onBool_eqT, -onBool_eqF, k_laws_FnForgetsBoxes]
  refine onCall_eq (big_ok D) (by simp) ?_
  cases hB : ltB 1048576 (D.bs.length : Int)
  rotate_left
  · simp (disch := omega) [-onBool_some, -onBool_leT, -onBool_leF, -onBool_ltT, -onBool_ltF, -onBool_eqT, -onBool_eqF]
  rw [ltB_false] at hB
  have ok : D.ok := ⟨by omega, hb⟩
  simp (disch := omega) [-onBool_some, -onBool_leT, -onBool_leF, -onBool_ltT, -onBool_ltF, -onBool_eqT, -onBool_eqF]
  refine onCall_gives (DrawBoxType_ok D ok) (by simp) ?_
  rintro r ⟨u, l, rfl, hl, hI⟩
  simp (disch := omega) [-onBool_some, -onBool_leT, -onBool_leF, -onBool_ltT, -onBool_ltF, -onBool_eqT, -onBool_eqF]
  have fg := ForgetType_ok false l ⟨by omega, hI⟩ (by omega)
  cases hw : wty l
  · rw [hw] at fg
    refine onCall_eq (BoxType_no false l (by omega) hI hw) (by simp) ?_
    simp (disch := omega) [-onBool_some, -onBool_leT, -onBool_leF, -onBool_ltT, -onBool_ltF, -onBool_eqT, -onBool_eqF]
    refine onCall_eq fg (by simp) ?_
    simp (disch := omega) [-onBool_some, -onBool_leT, -onBool_leF, -onBool_ltT, -onBool_ltF, -onBool_eqT, -onBool_eqF]
    refine onCall_eq (specBoxType_no false l (by omega) hI hw) (by simp) ?_
    simp (disch := omega) [-onBool_some, -onBool_leT, -onBool_leF, -onBool_ltT, -onBool_ltF, -onBool_eqT, -onBool_eqF]
  · rw [hw] at fg
    obtain ⟨t, tok, rfl, h40⟩ := wty_tree hw
    have b1 := BoxType_yes t tok h40 hI
    have b2 := specBoxType_yes t tok h40 hI
    by_cases hs : t.boxed.length ≤ 40
    · rw [if_pos hs] at b1
      have hp : 0 < t.boxed.length := by have := RT.boxed_len t; have := t.flat_pos; omega
      obtain ⟨t2, tok2, e2⟩ := RT.boxed_tree t tok
      have hw2 : wty t.boxed = true := by rw [← e2]; exact tree_wty tok2 (by rw [e2]; exact hs)
      have hI2 : ∀ n ∈ t.boxed, I64 n := fun n hn => by have := len_codes hw2 n hn; unfold I64; omega
      have fl := forgot_length t.flat
      obtain ⟨t3, tok3, e3⟩ := RT.forgot_tree t tok
      have hw3 : wty (forgot t.flat) = true := by rw [← e3]; exact tree_wty tok3 (by rw [e3]; omega)
      have hI3 : ∀ n ∈ forgot t.flat, I64 n := fun n hn => by have := len_codes hw3 n hn; unfold I64; omega
      have f2 := ForgetType_ok false t.boxed ⟨by omega, hI2⟩ (by omega)
      have f3 := ForgetType_ok (forgot t.flat).isEmpty (forgot t.flat) ⟨by omega, hI3⟩ (by omega)
      rw [hw2, if_pos rfl, RT.forgot_boxed] at f2
      rw [hw3, if_pos rfl, forgot_forgot] at f3
      have sm := forgot_small (RT.codes t tok)
      have bl := RT.boxed_len t
      have ln := forgot_len t.flat
      have ca := count_arrow (l := t.flat)
      have cb := count_box (l := t.flat)
      have k1 := List.countP_le_length (p := isArrow) (l := t.flat)
      have k2 := List.countP_le_length (p := isBox) (l := t.flat)
      have bt := fun lo hi => between_ok false t.flat lo hi (by omega)
      have i1 := ints_ok (forgot t.flat).isEmpty (forgot t.flat).isEmpty (forgot t.flat) (forgot t.flat) (by omega)
      generalize forgot t.flat = y at *
      generalize t.boxed = x at *
      generalize t.flat = l at *
      refine onCall_eq b1 (by simp) ?_
      simp (disch := omega) [-onBool_some, -onBool_leT, -onBool_leF, -onBool_ltT, -onBool_ltF, -onBool_eqT, -onBool_eqF]
      refine onCall_eq fg (by simp) ?_
      simp (disch := omega) [-onBool_some, -onBool_leT, -onBool_leF, -onBool_ltT, -onBool_ltF, -onBool_eqT, -onBool_eqF]
      have hx0 : eqB (x.length : Int) 0 = false := by rw [eqB_false]; omega
      simp (disch := omega) [-onBool_some, -onBool_leT, -onBool_leF, -onBool_ltT, -onBool_ltF, -onBool_eqT, -onBool_eqF, hx0]
      refine onCall_eq (bt 3 18) (by simp) ?_
      simp (disch := omega) [-onBool_some, -onBool_leT, -onBool_leF, -onBool_ltT, -onBool_ltF, -onBool_eqT, -onBool_eqF, hx0]
      refine onCall_eq (bt 35 35) (by simp) ?_
      simp (disch := omega) [-onBool_some, -onBool_leT, -onBool_leF, -onBool_ltT, -onBool_ltF, -onBool_eqT, -onBool_eqF, i64_wrap]
      refine onCall_eq (bt 19 34) (by simp) ?_
      simp (disch := omega) [-onBool_some, -onBool_leT, -onBool_leF, -onBool_ltT, -onBool_ltF, -onBool_eqT, -onBool_eqF, i64_wrap]
      refine onCall_eq (bt 36 36) (by simp) ?_
      have q1 : (eqB (x.length : Int) (l.length + (l.countP (btw 3 18) + l.countP (btw 35 35)))) = true := by rw [eqB_true]; omega
      have q2 : (eqB (y.length : Int) (l.length - (l.countP (btw 19 34) + l.countP (btw 36 36)))) = true := by rw [eqB_true]; omega
      simp (disch := omega) [-onBool_some, -onBool_leT, -onBool_leF, -onBool_ltT, -onBool_ltF, -onBool_eqT, -onBool_eqF, i64_wrap, q1, q2]
      refine wpC_forM y.length 0 (fun i t h => h = [] ∧ t 8 = N i ∧ t 4 = OU true false x ∧ t 5 = OF y) (fun t h => h = [] ∧ t 4 = OU true false x ∧ t 5 = OF y) (by simp) (by omega) ?_ ?_
      · rintro i t1 hh hf hi ⟨rfl, e8, e4, e5⟩
        clear hf
        simp (disch := omega) [-onBool_some, -onBool_leT, -onBool_leF, -onBool_ltT, -onBool_ltF, -onBool_eqT, -onBool_eqF, e5, e8]
        (with_reducible first | refine onBoolT (fun h1 => ?_) (fun h1 => ?_) | refine onBoolF (fun h1 => ?_) (fun h1 => ?_))
        · simp only [ltB_true, ltB_false, leB_true, leB_false, eqB_true, eqB_false, Bool.not_true, Bool.not_false] at h1

          simp (disch := omega) [-onBool_some, -onBool_leT, -onBool_leF, -onBool_ltT, -onBool_ltF, -onBool_eqT, -onBool_eqF, e5, e8, h1, idx_L]
          have hy := sm _ (List.getElem_mem (show i < y.length by omega))
          have hy2 : ltB 4 y[i] = false := by rw [ltB_false]; omega
          simp (disch := omega) [-onBool_some, -onBool_leT, -onBool_leF, -onBool_ltT, -onBool_ltF, -onBool_eqT, -onBool_eqF, e4, e5, e8, hy2, i64_wrap]
          omega
        · simp (disch := omega) [-onBool_some, -onBool_leT, -onBool_leF, -onBool_ltT, -onBool_ltF, -onBool_eqT, -onBool_eqF, e4, e5, e8]
      · rintro t1 hh hf ⟨rfl, e4, e5⟩
        clear hf
        simp (disch := omega) [-onBool_some, -onBool_leT, -onBool_leF, -onBool_ltT, -onBool_ltF, -onBool_eqT, -onBool_eqF, e4, e5]
        refine onCall_eq f2 (by simp) ?_
        simp (disch := omega) [-onBool_some, -onBool_leT, -onBool_leF, -onBool_ltT, -onBool_ltF, -onBool_eqT, -onBool_eqF, e4, e5]
        refine onCall_eq i1 (by simp) ?_
        simp (disch := omega) [-onBool_some, -onBool_leT, -onBool_leF, -onBool_ltT, -onBool_ltF, -onBool_eqT, -onBool_eqF, e4, e5]
        refine onCall_eq f3 (by simp) ?_
        simp (disch := omega) [-onBool_some, -onBool_leT, -onBool_leF, -onBool_ltT, -onBool_ltF, -onBool_eqT, -onBool_eqF, e4, e5]
        refine onCall_eq i1 (by simp) ?_
        simp (disch := omega) [-onBool_some, -onBool_leT, -onBool_leF, -onBool_ltT, -onBool_ltF, -onBool_eqT, -onBool_eqF, e4, e5]
    · rw [if_neg hs] at b1 b2
      refine onCall_eq b1 (by simp) ?_
      simp (disch := omega) [-onBool_some, -onBool_leT, -onBool_leF, -onBool_ltT, -onBool_ltF, -onBool_eqT, -onBool_eqF]
      refine onCall_eq fg (by simp) ?_
      simp (disch := omega) [-onBool_some, -onBool_leT, -onBool_leF, -onBool_ltT, -onBool_ltF, -onBool_eqT, -onBool_eqF]
      refine onCall_eq b2 (by simp) ?_
      simp (disch := omega) [-onBool_some, -onBool_leT, -onBool_leF, -onBool_ltT, -onBool_ltF, -onBool_eqT, -onBool_eqF]
end Go.Proofs.Yticcekapikfhaaa
