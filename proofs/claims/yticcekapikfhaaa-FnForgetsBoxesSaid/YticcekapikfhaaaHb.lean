/- What the reference's functions on types do, over trees. No conditions. -/
import Derived.Test.YticcekapikfhaaaHa
namespace Go.Proofs.Yticcekapikfhaaa
open Go Go.TL
open Go.Proofs.Yticcekapikfhaaa.Ty
set_option linter.unusedSimpArgs false

def codeI (a : Bool) (g : Int) : Int := if g < 0 then (if a = true then 35 else 36) else (if a = true then g + 3 else g + 19)
theorem code_ok (a : Bool) (g : Int) (h : I64 g) (hg : g ≤ 1000) : Gives Try.prog n_spec_l2Code [B a, N g] (· = N (codeI a g)) := by
  refine Gives.of_codeOf c_spec_l2Code mixed (by simp) ⟨_, rfl, by simp⟩ ?_
  unfold I64 at h
  cases a
  all_goals
    simp (disch := omega) [-onBool_some, -onBool_leT, -onBool_leF, -onBool_ltT, -onBool_ltF, -onBool_eqT, -onBool_eqF, k_spec_l2Code]
    repeat' (first
    | (with_reducible (first | refine onBoolT (fun hb_ => ?_) (fun hb_ => ?_) | refine onBoolF (fun hb_ => ?_) (fun hb_ => ?_)) <;> simp (disch := omega) [-onBool_some, -onBool_leT, -onBool_leF, -onBool_ltT, -onBool_ltF, -onBool_eqT, -onBool_eqF, hb_])
    | simp (disch := omega) [-onBool_some, -onBool_leT, -onBool_leF, -onBool_ltT, -onBool_ltF, -onBool_eqT, -onBool_eqF])
  all_goals (try simp only [ltB_true, ltB_false, leB_true, leB_false, eqB_true, eqB_false, Bool.not_true, Bool.not_false] at *)
  all_goals simp_all [codeI, ltB_true, ltB_false]
  all_goals (try (rw [i64_wrap (by omega)]))
  all_goals omega
theorem l2TypeF_ok (nl : Bool) (l : List Int) (hl : l.length ≤ 1048576) (hw : ∀ n ∈ l, I64 n) : Gives Try.prog n_spec_l2Type [L nl l] (· = B (wty l)) := l2Type_ok nl l ⟨by omega, hw⟩
theorem codeI_arrow {c : Int} (h : isArrow c = true) : codeI false (gradeI c) = if c = 35 then 36 else c + 16 := by
  rw [gl_arrow] at h
  unfold codeI gradeI
  by_cases h3 : c = 35
  · subst h3; simp
  · rw [if_neg (show ¬ 35 ≤ c by omega), if_neg (show ¬ 19 ≤ c by omega), if_neg (show ¬ c - 3 < 0 by omega), if_neg h3]
    simp; omega

theorem l10Box_ok (nl : Bool) (l : List Int) (hl : l.length ≤ 1048576) (hw : ∀ n ∈ l, I64 n) (d : Nat) : ∀ (t : RT) (pre post : List Int), t.flat.length ≤ d → t.ok → l = pre ++ t.flat ++ post →
    Gives Try.prog n_spec_l10Box [L nl l, N pre.length] (· = .tup [.sl true false 1 (t.boxed.map fun n => [N n]), N (pre.length + t.flat.length)]) := by
  induction d with
  | zero => intro t _ _ h; have := t.flat_pos; omega
  | succ d ih =>
    rintro ⟨c, ks⟩ pre post hd hok hL
    refine Gives.of_codeOf c_spec_l10Box mixed (by simp) ⟨_, rfl, by simp⟩ ?_
    have hf : (RT.nd c ks).flat = c :: flats ks := by simp [RT.flat]
    have hc : I64 c := hw c (by rw [hL, hf]; simp)
    have hi : idxLV 1 (L nl l) (pre.length : Int) = some (.rp [N c]) := by
      have h7 := idx_map (fun n => [N n]) pre (flats ks ++ post) c false nl 1
      rw [show shareAll [N c] = [N c] by simp] at h7
      rw [hL, hf, show pre ++ (c :: flats ks) ++ post = pre ++ c :: (flats ks ++ post) by simp]
      exact h7
    have hlen : l.length = pre.length + (1 + (flats ks).length) + post.length := by rw [hL, hf]; simp; omega
    simp (contextual := true) (disch := omega) [k_spec_l10Box, hi, i64_wrap]
    have hkN : kidsN c = some ks.length := by simp only [RT.ok] at hok; exact hok.1
    have hkI : kidsI c = ks.length := by simp [kidsI, hkN]
    have hk2 := kidsN_le hkN
    have hoks : oks ks := by simp only [RT.ok] at hok; exact hok.2
    have hbl := (RT.nd c ks).boxed_length
    rw [hf] at hbl
    simp only [List.length_cons] at hbl
    generalize hfr : (if isArrow c = true then [4, if c = 35 then 36 else c + 16] else [c]) = front at *
    have hbx : (RT.nd c ks).boxed = front ++ boxedAll ks := by simp only [RT.boxed]; rw [hfr]
    have hfl : front.length ≤ 2 := by rw [← hfr]; split <;> simp
    refine onCall_eq (arrow_ok c) (by simp) ?_
    simp (contextual := true) (disch := omega)
    refine ⟨fun ha => ?_, fun ha => ?_⟩
    · rw [if_pos ha] at hfr
      have hc0 : 0 ≤ c := by rw [gl_arrow] at ha; omega
      have hg : I64 (gradeI c) ∧ gradeI c ≤ 1000 := by
        rw [gl_arrow] at ha
        unfold gradeI I64
        repeat' split
        all_goals omega
      refine onCall_eq (grade_ok c hc hc0) (by simp) ?_
      simp (contextual := true) (disch := omega)
      refine onCall_eq (code_ok false (gradeI c) hg.1 hg.2) (by simp) ?_
      rw [codeI_arrow ha]
      simp (contextual := true) (disch := omega)
      refine wpC_loopI (fun k s => ∃ dn rest, ks = dn ++ rest ∧ k = rest.length ∧ s.h = [] ∧ s.t 0 = L nl l ∧ s.t 1 = N (pre.length + 1 + (flats dn).length) ∧ s.t 6 = N c ∧ s.t 8 = N dn.length ∧
        s.t 7 = .sl true false 1 ((front ++ boxedAll dn).map fun n => [N n])) ks.length ?_ ?_
      · refine ⟨[], ks, rfl, rfl, ?_⟩
        simp [flats, boxedAll, ← hfr]
      · rintro k s ⟨dn, rest, hks, hk, g1, g2, g3, g4, g5, g6⟩
        simp (contextual := true) (disch := omega) [g1, g2, g3, g4, g5, g6]
        refine onCall_eq (kids_ok c) (by simp) ?_
        rw [hkI]
        simp (contextual := true) (disch := omega) [g1, g2, g3, g4, g5, g6]
        refine ⟨fun _ h8 => ?_, fun _ h8 => ?_⟩
        · match rest with
          | [] => exfalso; rw [hks] at h8; simp at h8
          | t :: rest =>
            have ht : t.flat.length ≤ d := by
              have := flats_mem (ts := ks) (t := t) (by rw [hks]; simp)
              rw [hf] at hd
              simp at hd; omega
            have hsplit : l = (pre ++ [c] ++ flats dn) ++ t.flat ++ (flats rest ++ post) := by
              rw [hL, hf, hks, flats_app]; simp [flats]
            have := ih t (pre ++ [c] ++ flats dn) (flats rest ++ post) ht (oks_iff.1 hoks t (by rw [hks]; simp)) hsplit
            rw [show ((pre ++ [c] ++ flats dn).length : Int) = pre.length + 1 + (flats dn).length by simp; omega] at this
            refine onCall_eq this (by simp) ?_
            have hb2 : front.length + (boxedAll dn).length + t.boxed.length ≤ 2 * l.length := by
              rw [hbx, hks, boxedAll_app] at hbl
              simp [boxedAll] at hbl
              rw [hks] at hlen
              omega
            have hfl2 : (flats dn).length + t.flat.length ≤ l.length := by
              rw [hsplit]; simp; omega
            simp (contextual := true) (disch := omega) [g1, g2, g3, g4, g5, g6, appLV, i64_wrap]
            refine ⟨by unfold most; omega, rest.length, by simp [hk], dn ++ [t], rest, by simp [hks], rfl, by simp [flats_app, flats]; omega, by simp, by simp [boxedAll_app, boxedAll]⟩
        · have : rest = [] := by
            cases rest with
            | nil => rfl
            | cons a r => exfalso; rw [hks] at h8; simp at h8; omega
          subst this
          simp at hks
          subst hks
          simp (contextual := true) (disch := omega) [g3, g6, hbx, hf]
          try omega
    · rw [if_neg (by simp [ha])] at hfr
      refine wpC_loopI (fun k s => ∃ dn rest, ks = dn ++ rest ∧ k = rest.length ∧ s.h = [] ∧ s.t 0 = L nl l ∧ s.t 1 = N (pre.length + 1 + (flats dn).length) ∧ s.t 6 = N c ∧ s.t 8 = N dn.length ∧
        s.t 7 = .sl true false 1 ((front ++ boxedAll dn).map fun n => [N n])) ks.length ?_ ?_
      · refine ⟨[], ks, rfl, rfl, ?_⟩
        simp [flats, boxedAll, ← hfr]
      · rintro k s ⟨dn, rest, hks, hk, g1, g2, g3, g4, g5, g6⟩
        simp (contextual := true) (disch := omega) [g1, g2, g3, g4, g5, g6]
        refine onCall_eq (kids_ok c) (by simp) ?_
        rw [hkI]
        simp (contextual := true) (disch := omega) [g1, g2, g3, g4, g5, g6]
        refine ⟨fun _ h8 => ?_, fun _ h8 => ?_⟩
        · match rest with
          | [] => exfalso; rw [hks] at h8; simp at h8
          | t :: rest =>
            have ht : t.flat.length ≤ d := by
              have := flats_mem (ts := ks) (t := t) (by rw [hks]; simp)
              rw [hf] at hd
              simp at hd; omega
            have hsplit : l = (pre ++ [c] ++ flats dn) ++ t.flat ++ (flats rest ++ post) := by
              rw [hL, hf, hks, flats_app]; simp [flats]
            have := ih t (pre ++ [c] ++ flats dn) (flats rest ++ post) ht (oks_iff.1 hoks t (by rw [hks]; simp)) hsplit
            rw [show ((pre ++ [c] ++ flats dn).length : Int) = pre.length + 1 + (flats dn).length by simp; omega] at this
            refine onCall_eq this (by simp) ?_
            have hb2 : front.length + (boxedAll dn).length + t.boxed.length ≤ 2 * l.length := by
              rw [hbx, hks, boxedAll_app] at hbl
              simp [boxedAll] at hbl
              rw [hks] at hlen
              omega
            have hfl2 : (flats dn).length + t.flat.length ≤ l.length := by
              rw [hsplit]; simp; omega
            simp (contextual := true) (disch := omega) [g1, g2, g3, g4, g5, g6, appLV, i64_wrap]
            refine ⟨by unfold most; omega, rest.length, by simp [hk], dn ++ [t], rest, by simp [hks], rfl, by simp [flats_app, flats]; omega, by simp, by simp [boxedAll_app, boxedAll]⟩
        · have : rest = [] := by
            cases rest with
            | nil => rfl
            | cons a r => exfalso; rw [hks] at h8; simp at h8; omega
          subst this
          simp at hks
          subst hks
          simp (contextual := true) (disch := omega) [g3, g6, hbx, hf]
          try omega

theorem specBoxType_no (nl : Bool) (l : List Int) (hl : l.length ≤ 1048576) (hw : ∀ n ∈ l, I64 n) (h : wty l = false) : Gives Try.prog n_spec_BoxType [L nl l] (· = .sl false true 1 []) := by
  refine Gives.of_codeOf c_spec_BoxType mixed (by simp) ⟨_, rfl, by simp⟩ ?_
  simp (contextual := true) (disch := omega) [k_spec_BoxType]
  refine onCall_eq (l2TypeF_ok nl l hl hw) (by simp) ?_
  simp [h]
theorem specBoxType_yes (t : RT) (hok : t.ok) (hl : t.flat.length ≤ 40) (hw : ∀ n ∈ t.flat, I64 n) : Gives Try.prog n_spec_BoxType [L false t.flat] (· = if t.boxed.length ≤ 40 then .sl true false 1 (t.boxed.map fun n => [N n]) else .sl false true 1 []) := by
  refine Gives.of_codeOf c_spec_BoxType mixed (by simp) ⟨_, rfl, by split <;> simp⟩ ?_
  simp (contextual := true) (disch := omega) [k_spec_BoxType]
  refine onCall_eq (l2TypeF_ok false t.flat (by omega) hw) (by simp) ?_
  simp (contextual := true) [tree_wty hok hl]
  have := l10Box_ok false t.flat (by omega) hw _ t [] [] (Nat.le_refl _) hok (by simp)
  simp only [List.length_nil, Int.natCast_zero, Int.zero_add] at this
  refine onCall_eq this (by simp) ?_
  simp (contextual := true) (disch := omega)
  exact ⟨fun _ _ => by omega, fun _ _ => by omega⟩

end Go.Proofs.Yticcekapikfhaaa
