/- What boxing a type does, over trees. No conditions. -/
import Derived.Test.YticcekapikfhaaaGd
import Derived.Test.YticcekapikfhaaaTr
namespace Go.Proofs.Yticcekapikfhaaa
open Go Go.TL
open Go.Proofs.Yticcekapikfhaaa.Ty
set_option linter.unusedSimpArgs false

theorem long_ok (u nl : Bool) (l : List Int) : Gives Try.prog n_impl_long [.sl u nl 1 (l.map fun n => [N n])] (· = B (ltB 40 l.length)) := by
  refine Gives.of_codeOf c_impl_long mixed (by simp) ⟨_, rfl, by simp⟩ ?_
  simp (contextual := true) (disch := omega) [k_impl_long]

theorem isWritten_ok (nl : Bool) (l : List Int) (hl : l.length ≤ 1099511627776) (hw : ∀ n ∈ l, I64 n) : Gives Try.prog n_impl_isWrittenType [L nl l] (· = B (wty l)) := isWrittenType_ok nl l ⟨hl, hw⟩
theorem typeEndF_ok (nl : Bool) (l : List Int) (hl : l.length ≤ 1099511627776) (hw : ∀ n ∈ l, I64 n) (i : Int) (hi : I64 i) : Gives Try.prog n_impl_typeEnd [L nl l, N i] (· = N (tEnd l i)) := typeEnd_ok nl l ⟨hl, hw⟩ i hi

def rows (ts : List RT) : List (List LV) := ts.map fun t => [.sl false false 1 (t.flat.map fun n => [N n])]
theorem rows_length (dn : List RT) : (rows dn).length ≤ (flats dn).length := by
  induction dn with
  | nil => simp [rows]
  | cons a dn ih =>
    have := a.flat_pos
    simp only [rows, List.length_map] at ih
    simp [rows, flats]; omega
theorem parts_ok (c : Int) (ks : List RT) (hok : (RT.nd c ks).ok) (hl : (RT.nd c ks).flat.length ≤ 1099511627776) (hw : ∀ n ∈ (RT.nd c ks).flat, I64 n) :
    Gives Try.prog n_impl_parts [L false (RT.nd c ks).flat] (· = .sl (!ks.isEmpty) ks.isEmpty 1 (rows ks)) := by
  refine Gives.of_codeOf c_impl_parts mixed (by simp) ⟨_, rfl, by simp [rows]⟩ ?_
  simp (contextual := true) (disch := omega) [k_impl_parts]
  generalize hL : (RT.nd c ks).flat = l at *
  refine wpC_loopI (fun k s => ∃ dn rest, ks = dn ++ rest ∧ k = rest.length ∧ s.h = [] ∧ s.t 0 = L false l ∧ s.t 3 = .sl (!dn.isEmpty) dn.isEmpty 1 (rows dn) ∧ s.t 4 = N ((flats dn).length + 1)) ks.length ?_ ?_
  · refine ⟨[], ks, rfl, rfl, ?_⟩
    simp [rows, flats]
  · rintro k s ⟨dn, rest, hks, hk, h1, h2, h3, h4⟩
    simp (contextual := true) (disch := omega) [h1, h2, h3, h4]
    subst hks
    refine ⟨fun _ h5 => ?_, fun _ h5 => ?_⟩
    · match rest with
      | [] =>
        exfalso
        rw [← hL] at h5
        simp only [RT.flat, flats_app, flats, List.length_cons, List.length_append] at h5
        simp at h5
      | t :: rest =>
        have hd : l.drop ((flats dn).length + 1) = t.flat ++ flats rest := by
          rw [← hL]
          simp [RT.flat, flats_app, flats]
        have hll : l.length = (flats dn).length + 1 + t.flat.length + (flats rest).length := by
          rw [← hL]
          simp [RT.flat, flats_app, flats]; omega
        have he : tEnd l ((flats dn).length + 1) = (flats dn).length + 1 + t.flat.length := by
          unfold tEnd
          rw [if_pos (by omega), show (((flats dn).length : Int) + 1).toNat = (flats dn).length + 1 by omega, hd]
          simp only [RT.ok] at hok
          have := (oks_iff.1 hok.2) t (by simp)
          rw [endOf_flat this]
          omega
        have hp := t.flat_pos
        refine onCall_eq (typeEndF_ok false l hl hw _ ⟨by omega, by omega⟩) (by simp) ?_
        rw [he]
        have hrow : List.drop ((flats dn).length + 1) (List.take ((flats dn).length + 1 + t.flat.length) l) = t.flat := by
          rw [List.drop_take, hd, show (flats dn).length + 1 + t.flat.length - ((flats dn).length + 1) = t.flat.length by omega]
          simp
        have hrow := congrArg (List.map fun n : Int => [N n]) hrow
        rw [List.map_drop, List.map_take] at hrow
        have hn : (((flats dn).length : Int) + 1 + t.flat.length).toNat = (flats dn).length + 1 + t.flat.length := by omega
        have hne : ¬ (((flats dn).length : Int) + 1 = (flats dn).length + 1 + t.flat.length) := by omega
        have hks : (rows dn).length + 1 ≤ most := by
          have := rows_length dn
          unfold most; omega
        simp (contextual := true) (disch := omega) [h2, h3, h4, cutLV, appLV, hn, hne, hrow, hks]
        refine ⟨by omega, Classical.em _ |>.symm, rest.length, by simp [hk], dn ++ [t], rest, by simp, rfl, ⟨by simp, by simp [rows]⟩, by simp [flats_app, flats]; omega⟩
    · match rest with
      | [] => simp [rows]
      | t :: rest => 
        exfalso
        rw [← hL] at h5
        simp only [RT.flat, flats_app, flats, List.length_cons, List.length_append] at h5
        have := t.flat_pos
        omega

theorem grow_ok (n : Int) (h0 : 0 ≤ n) (h1 : n ≤ 1099511627776) : Gives Try.prog n_slices_Grow___int_int_ [.sl false true 1 [], N n] (· = .sl (ltB 0 n) (!ltB 0 n) 1 []) := by
  refine Gives.of_codeOf c_slices_Grow___int_int_ mixed (by simp) ⟨_, rfl, by simp⟩ ?_
  simp (contextual := true) (disch := omega) [k_slices_Grow___int_int_, i64_wrap, cutLV, most]
  exact ⟨fun _ => h0, fun _ _ _ _ => h1⟩

/-- the rows of a list of lists -/
def rowsL (ls : List (List Int)) : List (List LV) := ls.map fun l => [.sl false false 1 (l.map fun n => [N n])]
def ln (ls : List (List Int)) : Nat := (ls.map List.length).sum
theorem ln_app (a b : List (List Int)) : ln (a ++ b) = ln a + ln b := by simp [ln]
theorem ln_cons (a : List Int) (b : List (List Int)) : ln (a :: b) = a.length + ln b := by simp [ln]
theorem ln_flatten (a : List (List Int)) : a.flatten.length = ln a := by simp [ln]
theorem concat_ok (ls : List (List Int)) (hl : ls.length ≤ 1099511627776) (ht : ln ls ≤ 1099511627776) :
    Gives Try.prog n_slices_Concat___int_int_ [.sl false false 1 (rowsL ls)] (· = .sl (ltB 0 (ln ls)) (!ltB 0 (ln ls)) 1 (ls.flatten.map fun n => [N n])) := by
  have hlow : LowRow 0 (rowsL ls) := by simp [rowsL]
  refine Gives.of_codeOf c_slices_Concat___int_int_ mixed (by simp) ⟨_, rfl, by simp only [low_sl, lowRow_map, lowAll_cons, low_sc, lowAll_nil, and_self, implies_true]⟩ ?_
  simp (contextual := true) (disch := omega) [k_slices_Concat___int_int_, -List.map_flatten]
  refine wpC_loopI (fun k s => ∃ dn rest, ls = dn ++ rest ∧ k = rest.length ∧ s.h = [] ∧ s.t 0 = .sl false false 1 (rowsL ls) ∧ s.t 9 = .sl false false 1 (rowsL ls) ∧ s.t 10 = N ls.length ∧ s.t 11 = N dn.length ∧ s.t 3 = N (ln dn)) ls.length ?_ ?_
  · refine ⟨[], ls, rfl, rfl, ?_⟩
    simp [rowsL, ln]
  · rintro k s ⟨dn, rest, hls, hk, h1, h2, h3, h4, h5, h6⟩
    simp (contextual := true) (disch := omega) [h1, h2, h3, h4, h5, h6, -List.map_flatten]
    refine ⟨fun _ h7 => ?_, fun _ h7 => ?_⟩
    · match rest with
      | [] => exfalso; rw [hls] at h7; simp at h7
      | l :: rest =>
        have hi : idxLV 1 (.sl false false 1 (rowsL ls)) (dn.length : Int) = some (.rp [.sl false false 1 (l.map fun n => [N n])]) := by
          rw [hls]; unfold rowsL; rw [idx_map]; simp
        have e : ln ls = ln dn + (l.length + ln rest) := by rw [hls, ln_app, ln_cons]
        have e2 : ls.length = dn.length + (rest.length + 1) := by rw [hls]; simp
        simp (contextual := true) (disch := omega) [hi, h1, h2, h3, h4, h5, h6, i64_wrap, -List.map_flatten]
        exact ⟨fun _ => by omega, fun _ _ => ⟨rest.length, by simp [hk], dn ++ [l], rest, by simp [hls], rfl, by simp, by simp [ln]⟩⟩
    · have : rest = [] := by
        cases rest with
        | nil => rfl
        | cons a r => exfalso; rw [hls] at h7; simp at h7; omega
      subst this
      simp at hls
      subst hls
      refine onCall_eq (grow_ok _ (by omega) (by omega)) (by simp) ?_
      simp (contextual := true) (disch := omega) [h1, h2, h3, h4, h5, h6, i64_wrap, -List.map_flatten]
      refine wpC_loopI (fun k s => ∃ d2 rest, ls = d2 ++ rest ∧ k = rest.length ∧ s.h = [] ∧ s.t 25 = .sl false false 1 (rowsL ls) ∧ s.t 26 = N ls.length ∧ s.t 27 = N d2.length ∧
        s.t 6 = .sl (ltB 0 (ln ls)) (!ltB 0 (ln ls)) 1 (d2.flatten.map fun n => [N n])) ls.length ?_ ?_
      · refine ⟨[], ls, rfl, rfl, ?_⟩
        simp [rowsL]
      · rintro k s ⟨d2, rest, hls, hk, g1, g2, g3, g4, g5⟩
        simp (contextual := true) (disch := omega) [g1, g2, g3, g4, g5, -List.map_flatten]
        refine ⟨fun _ h8 => ?_, fun _ h8 => ?_⟩
        · match rest with
          | [] => exfalso; rw [hls] at h8; simp at h8
          | l :: rest =>
            have hi : idxLV 1 (.sl false false 1 (rowsL ls)) (d2.length : Int) = some (.rp [.sl false false 1 (l.map fun n => [N n])]) := by
              rw [hls]; unfold rowsL; rw [idx_map]; simp
            have e : ln ls = ln d2 + (l.length + ln rest) := by rw [hls, ln_app, ln_cons]
            have e2 : ls.length = d2.length + (rest.length + 1) := by rw [hls]; simp
            simp (contextual := true) (disch := omega) [hi, g1, g2, g3, g4, g5, i64_wrap, appLV, -List.map_flatten]
            have e3 : (List.map List.length d2).sum = ln d2 := rfl
            refine ⟨⟨by cases ltB 0 (ln ls : Int) <;> simp, by rw [e3]; unfold most; omega⟩, rest.length, by simp [hk], d2 ++ [l], rest, by simp [hls], rfl, by simp, fun h => ?_, fun h => ?_, by simp⟩
            · have := List.length_pos_iff.2 h
              rw [ltB_true]; omega
            · rw [ltB_false] at h
              exact List.eq_nil_of_length_eq_zero (by omega)
        · have : rest = [] := by
            cases rest with
            | nil => rfl
            | cons a r => exfalso; rw [hls] at h8; simp at h8; omega
          subst this
          simp at hls
          subst hls
          simp [g5, -List.map_flatten]

theorem shape_arrow (c : Int) : ((shapeOf c).1 = 3 ↔ isArrow c = true) ∧ (isArrow c = true → (shapeOf c).2 = if c = 35 then -1 else c - 3) := by
  unfold shapeOf
  simp only [within_true, eqB_true]
  have ea : isArrow c = true ↔ (3 ≤ c ∧ c ≤ 18) ∨ c = 35 := by simp [isArrow]
  rw [ea]
  by_cases h0 : 0 ≤ c ∧ c ≤ 2
  · rw [if_pos h0]; refine ⟨by simp; omega, fun h => by omega⟩
  rw [if_neg h0]
  by_cases h1 : 3 ≤ c ∧ c ≤ 18
  · rw [if_pos h1]; refine ⟨by simp; omega, fun _ => by rw [if_neg (by omega)]⟩
  rw [if_neg h1]
  by_cases h2 : 19 ≤ c ∧ c ≤ 34
  · rw [if_pos h2]; refine ⟨by simp; omega, fun h => by omega⟩
  rw [if_neg h2]
  by_cases h3 : c = 35
  · rw [if_pos h3]; simp [h3]
  rw [if_neg h3]
  by_cases h4 : c = 36
  · rw [if_pos h4]; simp [h4]
  rw [if_neg h4]
  refine ⟨by simp; omega, fun h => by omega⟩

theorem shape_range (c : Int) (h : I64 c) : I64 (shapeOf c).1 ∧ I64 (shapeOf c).2 := by
  obtain ⟨h1, h2⟩ := h
  unfold shapeOf I64
  simp only [within_true, eqB_true]
  repeat' split
  all_goals simp
  all_goals omega

theorem flats_mem : ∀ {ts : List RT} {t : RT}, t ∈ ts → t.flat.length ≤ (flats ts).length
  | a :: ts, t, h => by
    simp only [flats, List.length_append]
    rcases List.mem_cons.1 h with rfl | h
    · omega
    · have := flats_mem h
      omega

theorem boxed_arrow {c : Int} {a b : RT} (h : isArrow c = true) : (RT.nd c [a, b]).boxed = [[4, if c = 35 then 36 else c + 16], a.boxed, b.boxed].flatten := by
  simp [RT.boxed, boxedAll, h]

theorem boxed_ok (d : Nat) : ∀ (t : RT), t.flat.length ≤ d → t.ok → t.flat.length ≤ 1048576 → (∀ n ∈ t.flat, I64 n) → Gives Try.prog n_impl_boxed [L false t.flat] (· = .sl true false 1 (t.boxed.map fun n => [N n])) := by
  induction d with
  | zero => intro t h; have := t.flat_pos; omega
  | succ d ih =>
    rintro ⟨c, ks⟩ hd hok hl hw
    refine Gives.of_codeOf c_impl_boxed mixed (by simp) ⟨_, rfl, by simp⟩ ?_
    have hf : (RT.nd c ks).flat = c :: flats ks := by simp [RT.flat]
    have hc : I64 c := hw c (by simp [hf])
    have hi : idxLV 1 (L false (RT.nd c ks).flat) 0 = some (.rp [N c]) := by
      rw [hf]; exact idx_map (fun n => [N n]) [] (flats ks) c false false 1
    have hkid : ∀ t ∈ ks, Gives Try.prog n_impl_boxed [L false t.flat] (· = .sl true false 1 (t.boxed.map fun n => [N n])) := by
      intro t ht
      simp only [RT.ok] at hok
      have hsub : ∀ n ∈ t.flat, n ∈ (RT.nd c ks).flat := by
        intro n hn
        rw [hf, flats_flatMap]
        exact List.mem_cons_of_mem _ (List.mem_flatMap.2 ⟨t, ht, hn⟩)
      have hlen : t.flat.length < (RT.nd c ks).flat.length := by
        have := flats_mem ht
        rw [hf, List.length_cons]; omega
      exact ih t (by omega) (oks_iff.1 hok.2 t ht) (by omega) (fun n hn => hw n (hsub n hn))
    obtain ⟨ha1, ha2⟩ := shape_arrow c
    obtain ⟨⟨hr1, hr2⟩, hr3, hr4⟩ := shape_range c hc
    have hparts := parts_ok c ks hok (by omega) hw
    have hbl := (RT.nd c ks).boxed_length
    generalize hL : (RT.nd c ks).flat = l at *
    simp (contextual := true) (disch := omega) [k_impl_boxed, hi]
    refine onCall_eq (shape_ok c hc) (by simp) ?_
    simp (contextual := true) (disch := omega)
    refine onCall_eq hparts (by simp) ?_
    simp (contextual := true) (disch := omega) [hi]
    refine ⟨fun e3 _ _ => ?_, fun e3 _ => ?_⟩
    · have harr := ha1.1 (by rw [eqB_true] at e3; exact e3)
      have hg := ha2 harr
      have hk2 : ks.length = 2 := by
        have := hok
        simp only [RT.ok] at this
        have h2 : kidsN c = some 2 := by
          have ea : isArrow c = true ↔ (3 ≤ c ∧ c ≤ 18) ∨ c = 35 := by simp [isArrow]
          have := ea.1 harr
          rw [kidsN', if_neg (by omega), if_pos (by omega)]
        rw [h2] at this
        simpa using this.1.symm
      match ks, hk2 with
      | [a, b], _ =>
        have hbx := boxed_arrow (a := a) (b := b) harr
        have i0 : idxLV 1 (.sl false false 1 (rows [a, b])) 0 = some (.rp [.sl false false 1 (a.flat.map fun n => [N n])]) := by
          have := idx_map (fun t : RT => [LV.sl false false 1 (t.flat.map fun n => [N n])]) [] [b] a false false 1
          simpa [rows] using this
        have i1 : idxLV 1 (.sl false false 1 (rows [a, b])) 1 = some (.rp [.sl false false 1 (b.flat.map fun n => [N n])]) := by
          have := idx_map (fun t : RT => [LV.sl false false 1 (t.flat.map fun n => [N n])]) [a] [] b false false 1
          simpa [rows] using this
        have hsr : shareRow (rows [a, b]) = rows [a, b] := by simp [rows]
        have hbl2 : 2 + a.boxed.length + b.boxed.length ≤ 2 * l.length := by
          rw [hbx] at hbl; simp at hbl; omega
        have fin : ∀ (g : Int), (RT.nd c [a, b]).boxed = [[4, g], a.boxed, b.boxed].flatten → Gives Try.prog n_slices_Concat___int_int_
            [.sl false false 1 [[.sl false false 1 [[N 4], [N g]]], [.sl false false 1 (a.boxed.map fun n => [N n])], [.sl false false 1 (b.boxed.map fun n => [N n])]]]
            (· = .sl true false 1 ((RT.nd c [a, b]).boxed.map fun n => [N n])) := by
          intro g hg
          have := concat_ok [[4, g], a.boxed, b.boxed] (by simp) (by simp [ln]; omega)
          rw [← hg] at this
          have h0 : ltB 0 ((ln [[4, g], a.boxed, b.boxed] : Nat) : Int) = true := by rw [ltB_true]; simp [ln]; omega
          rw [h0] at this
          simpa [rowsL] using this
        refine ⟨fun e5 h5 => ?_, fun e5 h5 => ?_⟩
        · have e35 : ¬ c = 35 := by intro h; rw [if_pos h] at hg; omega
          have hcb : 3 ≤ c ∧ c ≤ 18 := by
            have ea : isArrow c = true ↔ (3 ≤ c ∧ c ≤ 18) ∨ c = 35 := by simp [isArrow]
            have := ea.1 harr
            omega
          rw [if_neg e35] at hg hbx
          simp (contextual := true) (disch := omega) [hsr, i0, i1, hg, i64_wrap]
          refine onCall_eq (hkid a (by simp)) (by simp) ?_
          simp (contextual := true) (disch := omega) [hsr, i0, i1, hg, i64_wrap]
          refine onCall_eq (hkid b (by simp)) (by simp) ?_
          simp (contextual := true) (disch := omega) [hsr, i0, i1, hg, i64_wrap]
          refine onCall_eq (fin _ (by rw [hbx, show c + 16 = 19 + (c - 3) by omega])) (by simp) ?_
          simp
        · have e35 : c = 35 := by
            rcases Classical.em (c = 35) with h | h
            · exact h
            · rw [if_neg h] at hg
              have ea : isArrow c = true ↔ (3 ≤ c ∧ c ≤ 18) ∨ c = 35 := by simp [isArrow]
              have := ea.1 harr
              omega
          rw [if_pos e35] at hbx
          simp (contextual := true) (disch := omega) [hsr, i0, i1, hg, i64_wrap]
          refine onCall_eq (hkid a (by simp)) (by simp) ?_
          simp (contextual := true) (disch := omega) [hsr, i0, i1, hg, i64_wrap]
          refine onCall_eq (hkid b (by simp)) (by simp) ?_
          simp (contextual := true) (disch := omega) [hsr, i0, i1, hg, i64_wrap]
          refine onCall_eq (fin _ hbx) (by simp) ?_
          simp
    · have harr : ¬ isArrow c = true := by rw [← ha1, ← eqB_true, e3]; simp
      have hbx : (RT.nd c ks).boxed = c :: boxedAll ks := by simp [RT.boxed, harr]
      have hsr : shareRow (rows ks) = rows ks := by simp [rows]
      simp (contextual := true) (disch := omega) [hsr]
      refine wpC_loopI (fun k s => ∃ dn rest, ks = dn ++ rest ∧ k = rest.length ∧ s.h = [] ∧ s.t 41 = .sl (!ks.isEmpty) ks.isEmpty 1 (rows ks) ∧ s.t 42 = N ks.length ∧ s.t 43 = N dn.length ∧
        s.t 6 = .sl true false 1 ((c :: boxedAll dn).map fun n => [N n])) ks.length ?_ ?_
      · refine ⟨[], ks, rfl, rfl, ?_⟩
        simp [rows, boxedAll]
      · rintro k s ⟨dn, rest, hks, hk, g1, g2, g3, g4, g5⟩
        simp (contextual := true) (disch := omega) [g1, g2, g3, g4, g5]
        refine ⟨fun _ h8 => ?_, fun _ h8 => ?_⟩
        · match rest with
          | [] => exfalso; rw [hks] at h8; simp at h8
          | t :: rest =>
            have hi : idxLV 1 (.sl (!ks.isEmpty) ks.isEmpty 1 (rows ks)) (dn.length : Int) = some (.rp [.sl false false 1 (t.flat.map fun n => [N n])]) := by
              rw [hks]; unfold rows; rw [idx_map]; simp
            have e2 : ks.length = dn.length + (rest.length + 1) := by rw [hks]; simp
            have hlb : (boxedAll dn).length + t.boxed.length + 1 ≤ 2 * l.length := by
              rw [hbx, hks, boxedAll_app] at hbl
              simp [boxedAll] at hbl
              omega
            have hkl : ks.length ≤ l.length := by
              rw [hf]
              have := rows_length ks
              simp [rows] at this ⊢; omega
            simp (contextual := true) (disch := omega) [hi, g1, g2, g3, g4, g5]
            refine onCall_eq (hkid t (by rw [hks]; simp)) (by simp) ?_
            simp (contextual := true) (disch := omega) [g1, g2, g3, g4, g5, appLV, i64_wrap]
            refine ⟨by unfold most; omega, rest.length, by simp [hk], dn ++ [t], rest, by simp [hks], rfl, by simp, by simp [boxedAll_app, boxedAll]⟩
        · have : rest = [] := by
            cases rest with
            | nil => rfl
            | cons a r => exfalso; rw [hks] at h8; simp at h8; omega
          subst this
          simp at hks
          subst hks
          simp [g5, hbx]

theorem BoxType_no (nl : Bool) (l : List Int) (hl : l.length ≤ 1048576) (hw : ∀ n ∈ l, I64 n) (h : wty l = false) : Gives Try.prog n_impl_BoxType [L nl l] (· = .sl false true 1 []) := by
  refine Gives.of_codeOf c_impl_BoxType mixed (by simp) ⟨_, rfl, by simp⟩ ?_
  simp (contextual := true) (disch := omega) [k_impl_BoxType]
  refine onCall_eq (isWritten_ok nl l (by omega) hw) (by simp) ?_
  simp [h]
theorem BoxType_yes (t : RT) (hok : t.ok) (hl : t.flat.length ≤ 40) (hw : ∀ n ∈ t.flat, I64 n) : Gives Try.prog n_impl_BoxType [L false t.flat] (· = if t.boxed.length ≤ 40 then .sl true false 1 (t.boxed.map fun n => [N n]) else .sl false true 1 []) := by
  refine Gives.of_codeOf c_impl_BoxType mixed (by simp) ⟨_, rfl, by split <;> simp⟩ ?_
  simp (contextual := true) (disch := omega) [k_impl_BoxType]
  refine onCall_eq (isWritten_ok false t.flat (by omega) hw) (by simp) ?_
  simp (contextual := true) [tree_wty hok hl]
  refine onCall_eq (boxed_ok _ t (Nat.le_refl _) hok (by omega) hw) (by simp) ?_
  simp (contextual := true)
  refine onCall_eq (long_ok false false t.boxed) (by simp) ?_
  simp (contextual := true) (disch := omega)
  exact ⟨fun _ _ => by omega, fun _ _ => by omega⟩
end Go.Proofs.Yticcekapikfhaaa
