/- The law of boxed types, in plain terms; ForgetType of the program. No conditions. -/
import Derived.Test.YticcekapikfhaaaHb
import Derived.Test.YticcekapikfhaaaDe
namespace Go.Proofs.Yticcekapikfhaaa
open Go Go.TL
open Go.Proofs.Yticcekapikfhaaa.Ty
set_option linter.unusedSimpArgs false
set_option linter.unusedVariables false
set_option linter.unusedSectionVars false
set_option maxRecDepth 20000
set_option maxHeartbeats 4000000

abbrev OF (l : List Int) : LV := .sl (!l.isEmpty) l.isEmpty 1 (l.map fun n => [N n])
theorem app_F {l : List Int} {x : Int} (h : l.length < 1099511627776) : appLV 1 (OF l) (.sl true false 1 [[N x]]) = some (OF (l ++ [x])) := by
  simp only [appLV]
  rw [if_pos ⟨by cases l <;> simp, .inl trivial, .inl trivial, by simp [most]; omega⟩]
  cases l <;> simp
theorem shape_fin : ∀ n : Fin 37, eqB (shapeOf ((n.val : Nat) : Int)).1 4 = isBox ((n.val : Nat) : Int) ∧ eqB (shapeOf ((n.val : Nat) : Int)).1 3 = isArrow ((n.val : Nat) : Int) ∧ (isBox ((n.val : Nat) : Int) && isArrow ((n.val : Nat) : Int)) = false := by decide
theorem shape_is {c : Int} (h : 0 ≤ c ∧ c ≤ 36) : eqB (shapeOf c).1 4 = isBox c ∧ eqB (shapeOf c).1 3 = isArrow c ∧ (isBox c && isArrow c) = false := by
  have := shape_fin ⟨c.toNat, by omega⟩
  simp only [show ((c.toNat : Nat) : Int) = c by omega] at this
  exact this
theorem ForgetType_ok (nl : Bool) (l : List Int) (hl : Lok l) (hs : l.length ≤ 1000000) : Gives Try.prog n_impl_ForgetType [L nl l] (· = if wty l = true then OF (forgot l) else OF []) := by
  refine Gives.of_codeOf c_impl_ForgetType mixed (by simp) ⟨_, rfl, by split <;> simp⟩ ?_
  simp (disch := omega) [-onBool_some, -onBool_leT, -onBool_leF, -onBool_ltT, -onBool_ltF, -onBool_eqT, -onBool_eqF, k_impl_ForgetType]
  refine onCall_eq (isWrittenType_ok nl l hl) (by simp) ?_
  simp (disch := omega) [-onBool_some, -onBool_leT, -onBool_leF, -onBool_ltT, -onBool_ltF, -onBool_eqT, -onBool_eqF]
  cases hw : wty l
  · simp (disch := omega) [-onBool_some, -onBool_leT, -onBool_leF, -onBool_ltT, -onBool_ltF, -onBool_eqT, -onBool_eqF]
  · simp (disch := omega) [-onBool_some, -onBool_leT, -onBool_leF, -onBool_ltT, -onBool_ltF, -onBool_eqT, -onBool_eqF]
    refine wpC_forM l.length 0 (fun i t _ => t 13 = N i ∧ t 3 = OF (forgot (l.take i))) (fun t _ => t 3 = OF (forgot l)) ⟨by simp, by simp [forgot]⟩ (by omega) ?_ ?_
    · rintro i t1 hh hf hi ⟨e13, e3⟩
      (have e11 := hf 11 (by kernel_rfl); have e12 := hf 12 (by kernel_rfl); clear hf; simp [] at e11 e12)
      have hfl := forgot_length (l.take i)
      simp at hfl
      by_cases h1 : i < l.length
      · have hb : ltB (i : Int) l.length = true := by rw [ltB_true]; omega
        have hx : l.getD i 0 = l[i] := by simp [List.getD_eq_getElem?_getD, h1]
        have hcode := wty_codes hw i h1
        rw [hx] at hcode
        have hsn : forgot (l.take (i + 1)) = forgot (l.take i) ++ (if isBox l[i] = true then [] else if isArrow l[i] = true then [4] else [l[i]]) := by rw [List.take_succ_eq_append_getElem h1, forgot_snoc]
        have hsh := shape_ok l[i] (hl.at h1)
        have ap := fun x => app_F (x := x) (l := forgot (l.take i)) (by omega)
        simp (disch := omega) [-onBool_some, -onBool_leT, -onBool_leF, -onBool_ltT, -onBool_ltF, -onBool_eqT, -onBool_eqF, e3, e11, e12, e13, hb, idx_L l false nl i (by omega) (by omega)]
        refine onCall_eq hsh (by simp) ?_
        obtain ⟨k1, k2, k3⟩ := shape_is hcode
        simp (disch := omega) [-onBool_some, -onBool_leT, -onBool_leF, -onBool_ltT, -onBool_ltF, -onBool_eqT, -onBool_eqF, e3, e11, e12, e13, hb, k1, k2]
        rw [hsn]
        cases hB : isBox l[i]
        · cases hA : isArrow l[i]
          · simp (disch := omega) [-onBool_some, -onBool_leT, -onBool_leF, -onBool_ltT, -onBool_ltF, -onBool_eqT, -onBool_eqF, e3, e11, e12, e13, hb, k1, k2, hA, ap, i64_wrap]
            omega
          · simp (disch := omega) [-onBool_some, -onBool_leT, -onBool_leF, -onBool_ltT, -onBool_ltF, -onBool_eqT, -onBool_eqF, e3, e11, e12, e13, hb, k1, k2, hA, ap, i64_wrap]
            omega
        · simp (disch := omega) [-onBool_some, -onBool_leT, -onBool_leF, -onBool_ltT, -onBool_ltF, -onBool_eqT, -onBool_eqF, e3, e11, e12, e13, hb, k1, k2, i64_wrap]
          omega
      · have hb : ltB (i : Int) l.length = false := by rw [ltB_false]; omega
        simp (disch := omega) [-onBool_some, -onBool_leT, -onBool_leF, -onBool_ltT, -onBool_ltF, -onBool_eqT, -onBool_eqF, e3, e11, e12, e13, hb]
        rw [List.take_of_length_le (by omega)]
        exact ⟨rfl, rfl⟩
    · rintro t1 hh hf e3
      simp (disch := omega) [-onBool_some, -onBool_leT, -onBool_leF, -onBool_ltT, -onBool_ltF, -onBool_eqT, -onBool_eqF, e3]
/-! plain facts -/
theorem countP_flats (p : Int → Bool) : ∀ ts : List RT, (flats ts).countP p = (ts.map fun t => t.flat.countP p).sum
  | [] => by simp [flats]
  | t :: ts => by simp [flats, countP_flats p ts]
mutual
theorem RT.boxed_len : ∀ (t : RT), t.boxed.length = t.flat.length + t.flat.countP isArrow
  | .nd c ks => by
    have := boxedAll_len ks
    simp only [RT.boxed, RT.flat, List.length_append, List.length_cons, List.countP_cons]
    split <;> simp <;> omega
theorem boxedAll_len : ∀ (ts : List RT), (boxedAll ts).length = (flats ts).length + (flats ts).countP isArrow
  | [] => by simp [boxedAll, flats]
  | t :: ts => by
    have h1 := RT.boxed_len t
    have h2 := boxedAll_len ts
    simp only [boxedAll, flats, List.length_append, List.countP_append]; omega
end
theorem forgot_app (a b : List Int) : forgot (a ++ b) = forgot a ++ forgot b := by simp [forgot]
theorem forgot_cons (c : Int) (l : List Int) : forgot (c :: l) = (if isBox c = true then [] else if isArrow c = true then [4] else [c]) ++ forgot l := by simp [forgot]
theorem forgot_len (l : List Int) : (forgot l).length + l.countP isBox = l.length := by
  induction l with
  | nil => simp [forgot]
  | cons c l ih =>
    rw [forgot_cons, List.length_append, List.countP_cons, List.length_cons]
    by_cases hb : isBox c = true
    · simp [hb]; omega
    · simp [hb]; split <;> simp <;> omega
theorem arrow_box {c : Int} (h : isArrow c = true) : isBox (if c = 35 then 36 else c + 16) = true ∧ isArrow (if c = 35 then 36 else c + 16) = false ∧ isBox c = false := by
  rw [gl_arrow] at h
  rcases h with h | h
  · rw [if_neg (by omega)]
    simp [isBox, isArrow]; omega
  · subst h; decide
theorem b4 : isBox 4 = false ∧ isArrow 4 = true := by decide
mutual
theorem RT.forgot_boxed : ∀ (t : RT), forgot t.boxed = forgot t.flat
  | .nd c ks => by
    have := forgot_boxedAll ks
    simp only [RT.boxed, RT.flat]
    rw [forgot_app, this, forgot_cons]
    by_cases h : isArrow c = true
    · obtain ⟨h1, h2, h3⟩ := arrow_box h
      rw [if_pos h, forgot_cons, forgot_cons, if_neg (by simp [b4]), if_pos b4.2, if_pos h1, if_neg (by simp [h3]), if_pos h]
      simp [forgot]
    · rw [if_neg h, forgot_cons]; simp [forgot]
theorem forgot_boxedAll : ∀ (ts : List RT), forgot (boxedAll ts) = forgot (flats ts)
  | [] => by simp [boxedAll, flats]
  | t :: ts => by simp only [boxedAll, flats]; rw [forgot_app, forgot_app, RT.forgot_boxed t, forgot_boxedAll ts]
end
theorem forgot_forgot (l : List Int) : forgot (forgot l) = forgot l := by
  induction l with
  | nil => simp [forgot]
  | cons c l ih =>
    rw [forgot_cons, forgot_app, ih]
    congr 1
    split
    · simp [forgot]
    · split
      · decide
      · rename_i h1 h2
        rw [forgot_cons, if_neg h1, if_neg h2]; simp [forgot]
theorem forgot_small {l : List Int} (h : ∀ n ∈ l, 0 ≤ n ∧ n ≤ 36) : ∀ n ∈ forgot l, n ≤ 4 := by
  intro n hn
  simp only [forgot, List.mem_flatMap] at hn
  obtain ⟨c, hc, hn⟩ := hn
  have := h c hc
  split at hn
  · simp at hn
  · split at hn
    · simp at hn; omega
    · rename_i h1 h2
      simp at hn
      subst hn
      rw [gl_box] at h1
      rw [gl_arrow] at h2
      omega
theorem kids_arrow {c : Int} (h : isArrow c = true) : kidsN c = some 2 := by
  unfold kidsN
  rw [gl_arrow] at h
  rw [if_neg (by omega), if_pos]
  right; right; rw [gl_arrow]; exact h
theorem kids_box {c : Int} (h : isBox c = true) : kidsN c = some 1 := by
  have h' := h
  rw [gl_box] at h
  unfold kidsN
  rw [if_neg (by omega), if_neg (by rw [gl_arrow]; omega), if_pos h']
mutual
theorem RT.boxed_tree : ∀ (t : RT), t.ok → ∃ u : RT, u.ok ∧ u.flat = t.boxed
  | .nd c ks, h => by
    simp only [RT.ok] at h
    obtain ⟨us, h1, h2, h3⟩ := boxedAll_tree ks h.2
    by_cases ha : isArrow c = true
    · have hk := kids_arrow ha
      rw [hk] at h
      have h4 : ks.length = 2 := by have := h.1; simp at this; omega
      obtain ⟨u1, u2, rfl⟩ : ∃ u1 u2, us = [u1, u2] := by
        match us, h1 with
        | [a, b], _ => exact ⟨a, b, rfl⟩
        | [], h1 => simp at h1; omega
        | [_], h1 => simp at h1; omega
        | _ :: _ :: _ :: _, h1 => simp at h1; omega
      simp only [oks] at h2
      refine ⟨.nd 4 [.nd (if c = 35 then 36 else c + 16) [u1], u2], ?_, ?_⟩
      · simp only [RT.ok, oks]
        exact ⟨by show kidsN 4 = some 2; decide, ⟨kids_box (arrow_box ha).1, h2.1, trivial⟩, h2.2.1, trivial⟩
      · simp only [RT.boxed, ha, if_true, ← h3, RT.flat, flats]; simp
    · refine ⟨.nd c us, ?_, ?_⟩
      · simp only [RT.ok]; exact ⟨by rw [h1]; exact h.1, h2⟩
      · simp only [RT.boxed, RT.flat]; rw [if_neg ha, h3]; rfl
theorem boxedAll_tree : ∀ (ts : List RT), oks ts → ∃ us : List RT, us.length = ts.length ∧ oks us ∧ flats us = boxedAll ts
  | [], _ => ⟨[], rfl, by simp [oks], by simp [flats, boxedAll]⟩
  | t :: ts, h => by
    simp only [oks] at h
    obtain ⟨u, h1, h2⟩ := RT.boxed_tree t h.1
    obtain ⟨us, h3, h4, h5⟩ := boxedAll_tree ts h.2
    exact ⟨u :: us, by simp [h3], by simp only [oks]; exact ⟨h1, h4⟩, by simp only [flats, boxedAll]; rw [h2, h5]⟩
end
mutual
theorem RT.forgot_tree : ∀ (t : RT), t.ok → ∃ u : RT, u.ok ∧ u.flat = forgot t.flat
  | .nd c ks, h => by
    simp only [RT.ok] at h
    obtain ⟨us, h1, h2, h3⟩ := forgotAll_tree ks h.2
    simp only [RT.flat, forgot_cons]
    by_cases hb : isBox c = true
    · rw [if_pos hb]
      have hk := kids_box hb
      rw [hk] at h
      have h4 : ks.length = 1 := by have := h.1; simp at this; omega
      obtain ⟨u, rfl⟩ : ∃ u, us = [u] := by
        match us, h1 with
        | [a], _ => exact ⟨a, rfl⟩
        | [], h1 => simp at h1; omega
        | _ :: _ :: _, h1 => simp at h1; omega
      simp only [oks] at h2
      exact ⟨u, h2.1, by rw [← h3]; simp [flats]⟩
    · rw [if_neg hb]
      by_cases ha : isArrow c = true
      · rw [if_pos ha]
        rw [kids_arrow ha] at h
        exact ⟨.nd 4 us, by simp only [RT.ok]; exact ⟨by rw [h1]; exact h.1 ▸ (by decide), h2⟩, by simp only [RT.flat]; rw [h3]; rfl⟩
      · rw [if_neg ha]
        exact ⟨.nd c us, by simp only [RT.ok]; exact ⟨by rw [h1]; exact h.1, h2⟩, by simp only [RT.flat]; rw [h3]; rfl⟩
theorem forgotAll_tree : ∀ (ts : List RT), oks ts → ∃ us : List RT, us.length = ts.length ∧ oks us ∧ flats us = forgot (flats ts)
  | [], _ => ⟨[], rfl, by simp [oks], by simp [flats, forgot]⟩
  | t :: ts, h => by
    simp only [oks] at h
    obtain ⟨u, h1, h2⟩ := RT.forgot_tree t h.1
    obtain ⟨us, h3, h4, h5⟩ := forgotAll_tree ts h.2
    exact ⟨u :: us, by simp [h3], by simp only [oks]; exact ⟨h1, h4⟩, by simp only [flats]; rw [h2, h5, forgot_app]⟩
end
theorem count_arrow {l : List Int} : l.countP (btw 3 18) + l.countP (btw 35 35) = l.countP isArrow := by
  induction l with
  | nil => rfl
  | cons c l ih =>
    simp only [List.countP_cons]
    have : (if btw 3 18 c = true then 1 else 0) + (if btw 35 35 c = true then 1 else 0) = (if isArrow c = true then 1 else 0) := by
      simp only [btw, Bool.and_eq_true, leB_true, gl_arrow]
      repeat' split
      all_goals omega
    omega
theorem count_box {l : List Int} : l.countP (btw 19 34) + l.countP (btw 36 36) = l.countP isBox := by
  induction l with
  | nil => rfl
  | cons c l ih =>
    simp only [List.countP_cons]
    have : (if btw 19 34 c = true then 1 else 0) + (if btw 36 36 c = true then 1 else 0) = (if isBox c = true then 1 else 0) := by
      simp only [btw, Bool.and_eq_true, leB_true, gl_box]
      repeat' split
      all_goals omega
    omega
end Go.Proofs.Yticcekapikfhaaa
