/- What the reference's functions on types do, over trees. No conditions. -/
import Derived.Test.YticcekapikfhaaaFc
namespace Go.Proofs.Yticcekapikfhaaa
open Go Go.TL
open Go.Proofs.Yticcekapikfhaaa.Ty
set_option linter.unusedSimpArgs false

theorem in_ok (a lo hi : Int) : Gives Try.prog n_spec_l1In [N a, N lo, N hi] (· = B (within a lo hi)) := by
  refine Gives.of_codeOf c_spec_l1In mixed (by simp) ⟨_, rfl, by simp⟩ ?_
  simp (contextual := true) (disch := omega) [k_spec_l1In, within]

theorem gl_arrow (c : Int) : isArrow c = true ↔ (3 ≤ c ∧ c ≤ 18) ∨ c = 35 := by simp [isArrow]
theorem gl_box (c : Int) : isBox c = true ↔ (19 ≤ c ∧ c ≤ 34) ∨ c = 36 := by simp [isBox]
theorem isArrow_within (c : Int) : isArrow c = (within c 3 18 || eqB c 35) := by
  unfold isArrow within leB eqB
  by_cases h : c = 35 <;> simp [h]
theorem isBox_within (c : Int) : isBox c = (within c 19 34 || eqB c 36) := by
  unfold isBox within leB eqB
  by_cases h : c = 36 <;> simp [h]
theorem arrow_ok (c : Int) : Gives Try.prog n_spec_l2Arrow [N c] (· = B (isArrow c)) := by
  refine Gives.of_codeOf c_spec_l2Arrow mixed (by simp) ⟨_, rfl, by simp⟩ ?_
  simp (contextual := true) (disch := omega) [k_spec_l2Arrow]
  refine onCall_eq (in_ok _ _ _) (by simp) ?_
  simp (contextual := true) (disch := omega) [isArrow_within]
theorem box_ok (c : Int) : Gives Try.prog n_spec_l2Box [N c] (· = B (isBox c)) := by
  refine Gives.of_codeOf c_spec_l2Box mixed (by simp) ⟨_, rfl, by simp⟩ ?_
  simp (contextual := true) (disch := omega) [k_spec_l2Box]
  refine onCall_eq (in_ok _ _ _) (by simp) ?_
  simp (contextual := true) (disch := omega) [isBox_within]

def kidsI (c : Int) : Int := match kidsN c with
  | some n => n
  | none => -1
theorem kids_ok (c : Int) : Gives Try.prog n_spec_l2Kids [N c] (· = N (kidsI c)) := by
  refine Gives.of_codeOf c_spec_l2Kids mixed (by simp) ⟨_, rfl, by simp⟩ ?_
  simp (contextual := true) (disch := omega) [k_spec_l2Kids]
  refine ⟨fun _ _ _ => ?_, fun _ n0 => ⟨fun _ _ _ => ?_, fun _ n1 => ⟨fun _ _ _ => ?_, fun _ n2 => ?_⟩⟩⟩
  · simp [kidsI, kidsN', show c = 0 by omega]
  · simp [kidsI, kidsN', show c = 1 by omega]
  · simp [kidsI, kidsN', show c = 2 by omega]
  · refine onCall_eq (arrow_ok c) (by simp) ?_
    simp (contextual := true) (disch := omega)
    refine ⟨fun ha => ?_, fun ha => ?_⟩
    · rw [gl_arrow] at ha
      simp only [kidsI, kidsN']
      rw [if_neg n0, if_pos (by omega)]; rfl
    · refine onCall_eq (box_ok c) (by simp) ?_
      simp (contextual := true) (disch := omega)
      have ha' : ¬ ((3 ≤ c ∧ c ≤ 18) ∨ c = 35) := by rw [← gl_arrow, ha]; simp
      refine ⟨fun hb => ?_, fun hb => ?_⟩
      · rw [gl_box] at hb
        simp only [kidsI, kidsN']
        rw [if_neg n0, if_neg (by omega), if_pos (by omega)]; rfl
      · have hb' : ¬ ((19 ≤ c ∧ c ≤ 34) ∨ c = 36) := by rw [← gl_box, hb]; simp
        simp only [kidsI, kidsN']
        rw [if_neg n0, if_neg (by omega), if_neg (by omega)]

def gradeI (c : Int) : Int := if 35 ≤ c then -1 else if 19 ≤ c then c - 19 else c - 3
theorem grade_ok (c : Int) (h : I64 c) (hg : 0 ≤ c) : Gives Try.prog n_spec_l2Grade [N c] (· = N (gradeI c)) := by
  refine Gives.of_codeOf c_spec_l2Grade mixed (by simp) ⟨_, rfl, by simp⟩ ?_
  obtain ⟨h1, h2⟩ := h
  simp (contextual := true) (disch := omega) [k_spec_l2Grade, i64_wrap, gradeI]
  refine ⟨fun _ _ => by omega, fun _ _ => ⟨fun _ _ => by omega, fun _ _ => ?_⟩⟩
  rw [if_neg (by omega), if_neg (by omega)]

def codeI (a : Bool) (g : Int) : Int := if g < 0 then (if a = true then 35 else 36) else (if a = true then g + 3 else g + 19)
theorem code_ok (a : Bool) (g : Int) (h : I64 g) (hg : g ≤ 1000) : Gives Try.prog n_spec_l2Code [B a, N g] (· = N (codeI a g)) := by
  refine Gives.of_codeOf c_spec_l2Code mixed (by simp) ⟨_, rfl, by simp⟩ ?_
  obtain ⟨h1, h2⟩ := h
  simp (contextual := true) (disch := omega) [k_spec_l2Code, i64_wrap, codeI]
  refine ⟨fun _ => ⟨fun _ _ _ => by omega, fun _ _ => ?_⟩, fun _ _ _ => ?_⟩
  · rw [if_neg (by omega)]; omega
  · rw [if_neg (by omega)]; omega

theorem l2End_ok (nl : Bool) (l : List Int) (hl : l.length ≤ 1048576) (hw : ∀ n ∈ l, I64 n) (i : Nat) : Gives Try.prog n_spec_l2End [L nl l, N i] (· = N (tEnd l i)) := by
  refine Gives.of_codeOf c_spec_l2End mixed (by simp) ⟨_, rfl, by simp⟩ ?_
  simp (contextual := true) (disch := omega) [k_spec_l2End]
  refine wpC_loopI (fun k s => ∃ (j m : Nat), tEnd l i = endOf (m + 1) (l.drop j) l.length ∧ k = l.length - j ∧ s.h = [] ∧ s.t 0 = L nl l ∧ s.t 6 = N j ∧ s.t 5 = N (m + 1) ∧ m ≤ j) (l.length - i) ?_ ?_
  · refine ⟨i, 0, ?_, rfl, ?_⟩
    · unfold tEnd; rw [if_pos (by omega)]; simp
    · simp
  · rintro k s ⟨j, m, he, hk, h1, h2, h3, h4, h5⟩
    simp (contextual := true) (disch := omega) [h1, h2, h3, h4]
    refine ⟨fun _ h6 => ?_, fun _ h6 => ?_⟩
    · have hd : l.drop j = l[j] :: l.drop (j + 1) := List.drop_eq_getElem_cons h6
      have hi : idxLV 1 (L nl l) (j : Int) = some (.rp [N l[j]]) := by
        have hs : l = l.take j ++ l[j] :: l.drop (j + 1) := by rw [← hd, List.take_append_drop]
        have h7 := idx_map (fun n => [N n]) (l.take j) (l.drop (j + 1)) l[j] false nl 1
        rw [← hs, List.length_take, Nat.min_eq_left (by omega)] at h7
        simpa using h7
      generalize l[j] = c at hd hi
      have key : tEnd l i = match kidsN c with
          | none => -1
          | some q => endOf (m + q) (l.drop (j + 1)) l.length := by
        rw [he, hd]
        unfold endOf
        simp only [Ty.skip]
        cases kidsN c <;> rfl
      simp (contextual := true) (disch := omega) [hi, h1, h2, h3, h4]
      refine onCall_eq (kids_ok c) (by simp) ?_
      cases hq : kidsN c with
      | none =>
        rw [hq] at key
        have hk1 : kidsI c = -1 := by simp [kidsI, hq]
        rw [hk1]
        simp (contextual := true) (disch := omega) [h1, h2, h3, h4, key]
        try exact fun h => by rw [ltB_false] at h; omega
      | some q =>
        rw [hq] at key
        have hk1 : kidsI c = q := by simp [kidsI, hq]
        have hq2 := kidsN_le hq
        rw [hk1]
        simp (contextual := true) (disch := omega) [h1, h2, h3, h4, i64_wrap]
        refine ⟨fun _ h => by omega, fun _ => ⟨fun _ h _ => ?_, fun _ h => ?_⟩⟩
        · have e0 : m + q = 0 := by omega
          rw [key]
          show _ = endOf (m + q) _ _
          rw [e0]; simp [endOf, Ty.skip]; omega
        · refine ⟨l.length - (j + 1), by omega, j + 1, m + q - 1, ?_, rfl, by omega, by omega, by omega⟩
          rw [key, show m + q - 1 + 1 = m + q by omega]
    · rw [he, List.drop_eq_nil_of_le (by omega)]; simp [endOf, Ty.skip]

theorem l2Type_ok (nl : Bool) (l : List Int) (hl : l.length ≤ 1048576) (hw : ∀ n ∈ l, I64 n) : Gives Try.prog n_spec_l2Type [L nl l] (· = B (wty l)) := by
  refine Gives.of_codeOf c_spec_l2Type mixed (by simp) ⟨_, rfl, by simp⟩ ?_
  simp (contextual := true) (disch := omega) [k_spec_l2Type]
  have hE := l2End_ok nl l hl hw 0
  have hW := wty_iff l
  simp only [within, Int.natCast_zero] at hW hE
  refine ⟨fun ha hb => ?_, fun ha hb => ?_⟩
  · refine onCall_eq hE (by simp) ?_
    simp (contextual := true) (disch := omega)
    rw [hW]
    have h2 := tEnd_range (l := l) (i := 0) (by omega)
    refine ⟨fun h3 _ h4 => ?_, fun h3 _ => by rw [h3]; simp⟩
    rw [h3, ha]
    have : leB 1 (l.length : Int) = true := by rw [leB_true]; omega
    rw [this]
    simp only [Bool.and_self]
    rw [ltB_true]; omega
  · rw [hW, ha]; simp

theorem codeI_arrow {c : Int} (h : isArrow c = true) : codeI false (gradeI c) = if c = 35 then 36 else c + 16 := by
  rw [gl_arrow] at h
  unfold codeI gradeI
  by_cases h3 : c = 35
  · subst h3; simp
  · rw [if_neg (show ¬ 35 ≤ c by omega), if_neg (show ¬ 19 ≤ c by omega), if_neg (show ¬ c - 3 < 0 by omega), if_neg h3]
    simp; omega

theorem l10Box_ok (nl : Bool) (l : List Int) (hl : l.length ≤ 1048576) (hw : ∀ n ∈ l, I64 n) (d : Nat) : ∀ (t : RT) (pre post : List Int), t.flat.length ≤ d → t.ok → l = pre ++ t.flat ++ post →
    Gives Try.prog n_spec_l10Box [L nl l, N pre.length] (· = .tup [.sl true false 1 (t.boxed.map fun n => [N n]), N (pre.length + t.flat.length)]) := by
  induction d with
  | zero => intro t _ _ h; have := t.flat_pos; omega
  | succ d ih =>
    rintro ⟨c, ks⟩ pre post hd hok hL
    refine Gives.of_codeOf c_spec_l10Box mixed (by simp) ⟨_, rfl, by simp⟩ ?_
    have hf : (RT.nd c ks).flat = c :: flats ks := by simp [RT.flat]
    have hc : I64 c := hw c (by rw [hL, hf]; simp)
    have hi : idxLV 1 (L nl l) (pre.length : Int) = some (.rp [N c]) := by
      have h7 := idx_map (fun n => [N n]) pre (flats ks ++ post) c false nl 1
      rw [show shareAll [N c] = [N c] by simp] at h7
      rw [hL, hf, show pre ++ (c :: flats ks) ++ post = pre ++ c :: (flats ks ++ post) by simp]
      exact h7
    have hlen : l.length = pre.length + (1 + (flats ks).length) + post.length := by rw [hL, hf]; simp; omega
    simp (contextual := true) (disch := omega) [k_spec_l10Box, hi, i64_wrap]
    have hkN : kidsN c = some ks.length := by simp only [RT.ok] at hok; exact hok.1
    have hkI : kidsI c = ks.length := by simp [kidsI, hkN]
    have hk2 := kidsN_le hkN
    have hoks : oks ks := by simp only [RT.ok] at hok; exact hok.2
    have hbl := (RT.nd c ks).boxed_length
    rw [hf] at hbl
    simp only [List.length_cons] at hbl
    generalize hfr : (if isArrow c = true then [4, if c = 35 then 36 else c + 16] else [c]) = front at *
    have hbx : (RT.nd c ks).boxed = front ++ boxedAll ks := by simp only [RT.boxed]; rw [hfr]
    have hfl : front.length ≤ 2 := by rw [← hfr]; split <;> simp
    refine onCall_eq (arrow_ok c) (by simp) ?_
    simp (contextual := true) (disch := omega)
    refine ⟨fun ha => ?_, fun ha => ?_⟩
    · rw [if_pos ha] at hfr
      have hc0 : 0 ≤ c := by rw [gl_arrow] at ha; omega
      have hg : I64 (gradeI c) ∧ gradeI c ≤ 1000 := by
        rw [gl_arrow] at ha
        unfold gradeI I64
        repeat' split
        all_goals omega
      refine onCall_eq (grade_ok c hc hc0) (by simp) ?_
      simp (contextual := true) (disch := omega)
      refine onCall_eq (code_ok false (gradeI c) hg.1 hg.2) (by simp) ?_
      rw [codeI_arrow ha]
      simp (contextual := true) (disch := omega)
      refine wpC_loopI (fun k s => ∃ dn rest, ks = dn ++ rest ∧ k = rest.length ∧ s.h = [] ∧ s.t 0 = L nl l ∧ s.t 1 = N (pre.length + 1 + (flats dn).length) ∧ s.t 6 = N c ∧ s.t 8 = N dn.length ∧
        s.t 7 = .sl true false 1 ((front ++ boxedAll dn).map fun n => [N n])) ks.length ?_ ?_
      · refine ⟨[], ks, rfl, rfl, ?_⟩
        simp [flats, boxedAll, ← hfr]
      · rintro k s ⟨dn, rest, hks, hk, g1, g2, g3, g4, g5, g6⟩
        simp (contextual := true) (disch := omega) [g1, g2, g3, g4, g5, g6]
        refine onCall_eq (kids_ok c) (by simp) ?_
        rw [hkI]
        simp (contextual := true) (disch := omega) [g1, g2, g3, g4, g5, g6]
        refine ⟨fun _ h8 => ?_, fun _ h8 => ?_⟩
        · match rest with
          | [] => exfalso; rw [hks] at h8; simp at h8
          | t :: rest =>
            have ht : t.flat.length ≤ d := by
              have := flats_mem (ts := ks) (t := t) (by rw [hks]; simp)
              rw [hf] at hd
              simp at hd; omega
            have hsplit : l = (pre ++ [c] ++ flats dn) ++ t.flat ++ (flats rest ++ post) := by
              rw [hL, hf, hks, flats_app]; simp [flats]
            have := ih t (pre ++ [c] ++ flats dn) (flats rest ++ post) ht (oks_iff.1 hoks t (by rw [hks]; simp)) hsplit
            rw [show ((pre ++ [c] ++ flats dn).length : Int) = pre.length + 1 + (flats dn).length by simp; omega] at this
            refine onCall_eq this (by simp) ?_
            have hb2 : front.length + (boxedAll dn).length + t.boxed.length ≤ 2 * l.length := by
              rw [hbx, hks, boxedAll_app] at hbl
              simp [boxedAll] at hbl
              rw [hks] at hlen
              omega
            have hfl2 : (flats dn).length + t.flat.length ≤ l.length := by
              rw [hsplit]; simp; omega
            simp (contextual := true) (disch := omega) [g1, g2, g3, g4, g5, g6, appLV, i64_wrap]
            refine ⟨by unfold most; omega, rest.length, by simp [hk], dn ++ [t], rest, by simp [hks], rfl, by simp [flats_app, flats]; omega, by simp, by simp [boxedAll_app, boxedAll]⟩
        · have : rest = [] := by
            cases rest with
            | nil => rfl
            | cons a r => exfalso; rw [hks] at h8; simp at h8; omega
          subst this
          simp at hks
          subst hks
          simp (contextual := true) (disch := omega) [g3, g6, hbx, hf]
          try omega
    · rw [if_neg (by simp [ha])] at hfr
      refine wpC_loopI (fun k s => ∃ dn rest, ks = dn ++ rest ∧ k = rest.length ∧ s.h = [] ∧ s.t 0 = L nl l ∧ s.t 1 = N (pre.length + 1 + (flats dn).length) ∧ s.t 6 = N c ∧ s.t 8 = N dn.length ∧
        s.t 7 = .sl true false 1 ((front ++ boxedAll dn).map fun n => [N n])) ks.length ?_ ?_
      · refine ⟨[], ks, rfl, rfl, ?_⟩
        simp [flats, boxedAll, ← hfr]
      · rintro k s ⟨dn, rest, hks, hk, g1, g2, g3, g4, g5, g6⟩
        simp (contextual := true) (disch := omega) [g1, g2, g3, g4, g5, g6]
        refine onCall_eq (kids_ok c) (by simp) ?_
        rw [hkI]
        simp (contextual := true) (disch := omega) [g1, g2, g3, g4, g5, g6]
        refine ⟨fun _ h8 => ?_, fun _ h8 => ?_⟩
        · match rest with
          | [] => exfalso; rw [hks] at h8; simp at h8
          | t :: rest =>
            have ht : t.flat.length ≤ d := by
              have := flats_mem (ts := ks) (t := t) (by rw [hks]; simp)
              rw [hf] at hd
              simp at hd; omega
            have hsplit : l = (pre ++ [c] ++ flats dn) ++ t.flat ++ (flats rest ++ post) := by
              rw [hL, hf, hks, flats_app]; simp [flats]
            have := ih t (pre ++ [c] ++ flats dn) (flats rest ++ post) ht (oks_iff.1 hoks t (by rw [hks]; simp)) hsplit
            rw [show ((pre ++ [c] ++ flats dn).length : Int) = pre.length + 1 + (flats dn).length by simp; omega] at this
            refine onCall_eq this (by simp) ?_
            have hb2 : front.length + (boxedAll dn).length + t.boxed.length ≤ 2 * l.length := by
              rw [hbx, hks, boxedAll_app] at hbl
              simp [boxedAll] at hbl
              rw [hks] at hlen
              omega
            have hfl2 : (flats dn).length + t.flat.length ≤ l.length := by
              rw [hsplit]; simp; omega
            simp (contextual := true) (disch := omega) [g1, g2, g3, g4, g5, g6, appLV, i64_wrap]
            refine ⟨by unfold most; omega, rest.length, by simp [hk], dn ++ [t], rest, by simp [hks], rfl, by simp [flats_app, flats]; omega, by simp, by simp [boxedAll_app, boxedAll]⟩
        · have : rest = [] := by
            cases rest with
            | nil => rfl
            | cons a r => exfalso; rw [hks] at h8; simp at h8; omega
          subst this
          simp at hks
          subst hks
          simp (contextual := true) (disch := omega) [g3, g6, hbx, hf]
          try omega

theorem specBoxType_no (nl : Bool) (l : List Int) (hl : l.length ≤ 1048576) (hw : ∀ n ∈ l, I64 n) (h : wty l = false) : Gives Try.prog n_spec_BoxType [L nl l] (· = .sl false true 1 []) := by
  refine Gives.of_codeOf c_spec_BoxType mixed (by simp) ⟨_, rfl, by simp⟩ ?_
  simp (contextual := true) (disch := omega) [k_spec_BoxType]
  refine onCall_eq (l2Type_ok nl l hl hw) (by simp) ?_
  simp [h]
theorem specBoxType_yes (t : RT) (hok : t.ok) (hl : t.flat.length ≤ 40) (hw : ∀ n ∈ t.flat, I64 n) : Gives Try.prog n_spec_BoxType [L false t.flat] (· = if t.boxed.length ≤ 40 then .sl true false 1 (t.boxed.map fun n => [N n]) else .sl false true 1 []) := by
  refine Gives.of_codeOf c_spec_BoxType mixed (by simp) ⟨_, rfl, by split <;> simp⟩ ?_
  simp (contextual := true) (disch := omega) [k_spec_BoxType]
  refine onCall_eq (l2Type_ok false t.flat (by omega) hw) (by simp) ?_
  simp (contextual := true) [tree_wty hok hl]
  have := l10Box_ok false t.flat (by omega) hw _ t [] [] (Nat.le_refl _) hok (by simp)
  simp only [List.length_nil, Int.natCast_zero, Int.zero_add] at this
  refine onCall_eq this (by simp) ?_
  simp (contextual := true) (disch := omega)
  exact ⟨fun _ _ => by omega, fun _ _ => by omega⟩

theorem eqInts_ok (n1 n2 : Bool) (a b : List Int) (ha : a.length ≤ 1099511627776) : Gives Try.prog n_laws_eqIntS [L n1 a, L n2 b] (· = B (a == b)) := by
  refine Gives.of_codeOf c_laws_eqIntS mixed (by simp) ⟨_, rfl, by simp⟩ ?_
  simp (contextual := true) (disch := omega) [k_laws_eqIntS]
  refine ⟨fun _ h1 h2 => ?_, fun _ h e => h (by rw [e])⟩
  refine wpC_loopI (fun k s => ∃ dn ra rb, a = dn ++ ra ∧ b = dn ++ rb ∧ k = ra.length ∧ s.h = [] ∧ s.t 0 = L n1 a ∧ s.t 1 = L n2 b ∧ s.t 5 = N dn.length) a.length ?_ ?_
  · exact ⟨[], a, b, rfl, rfl, rfl, by simp⟩
  · rintro k s ⟨dn, ra, rb, e1, e2, hk, g1, g2, g3, g4⟩
    simp (contextual := true) (disch := omega) [g1, g2, g3, g4]
    refine ⟨fun _ h5 => ?_, fun _ h5 => ?_⟩
    · match ra, rb with
      | [], _ => exfalso; rw [e1] at h5; simp at h5
      | x :: ra, [] => exfalso; rw [e1, e2] at h1; simp at h1; omega
      | x :: ra, y :: rb =>
        have i1 : idxLV 1 (L n1 a) (dn.length : Int) = some (.rp [N x]) := by
          have h7 := idx_map (fun n => [N n]) dn ra x false n1 1
          rw [show shareAll [N x] = [N x] by simp] at h7
          rw [e1]; exact h7
        have i2 : idxLV 1 (L n2 b) (dn.length : Int) = some (.rp [N y]) := by
          have h7 := idx_map (fun n => [N n]) dn rb y false n2 1
          rw [show shareAll [N y] = [N y] by simp] at h7
          rw [e2]; exact h7
        simp (contextual := true) (disch := omega) [i1, i2, g1, g2, g3, g4, i64_wrap]
        refine ⟨fun _ p q => ?_, fun _ p => ?_⟩
        · have : x = y := by omega
          subst this
          exact ⟨ra.length, by simp [hk], dn ++ [x], ra, by simp [e1], ⟨rb, by simp [e2]⟩, rfl, by simp⟩
        · intro e
          rw [e1, e2] at e
          simp at e
          exact p e.1
    · have e3 : ra = [] := by
        cases ra with
        | nil => rfl
        | cons u v => exfalso; rw [e1] at h5; simp at h5; omega
      have e4 : rb = [] := by
        cases rb with
        | nil => rfl
        | cons u v => exfalso; rw [e1, e2, e3] at h2; simp at h2; omega
      rw [e1, e2, e3, e4]

end Go.Proofs.Yticcekapikfhaaa
