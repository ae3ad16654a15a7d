/- The program's ForgetType answers what the reference's answers for every list of codes; nothing is asked of the list. -/
import Derived.Test.YticcekapikfhaaaPFnExactForgetTypex3
import Derived.Test.YticcekapikfhaaaTy
namespace Go.Proofs.Yticcekapikfhaaa.Pure
open Go.RowKit Go.Proofs.Yticcekapikfhaaa.PFnExactForgetType Go.Proofs.YticcekapikfhaaaW.PrintWords Go.Proofs.YticcekapikfhaaaW.PrintLast
open Go.Proofs.Yticcekapikfhaaa.Ty

theorem wr {x : Int} (h1 : -9223372036854775808 ≤ x) (h2 : x < 9223372036854775808) : wrap64 x = x := by
  unfold wrap64; omega

theorem round {k n : Nat} (h : n < k) : ∃ m, k = m + 1 ∧ n ≤ m := ⟨k - 1, by omega, by omega⟩

theorem rd_drop {x : List Int} {i : Nat} (h : i < x.length) : x.drop i = rd x i :: x.drop (i + 1) := by
  rw [List.drop_eq_getElem_cons h]
  simp [rd, h]

theorem in_spec (c a b : Int) : spec_l1In.f c a b = some (decide (a ≤ c) && decide (c ≤ b)) := by
  unfold spec_l1In.f
  by_cases h : c ≥ a
  · rw [if_pos h]; simp [h]
  · rw [if_neg h]; simp [show ¬ a ≤ c from by omega]

theorem within_spec (c a b : Int) : impl_within.f c a b = some (decide (a ≤ c) && decide (c ≤ b)) := by
  unfold impl_within.f
  by_cases h : c ≥ a
  · rw [if_pos h]; simp [h]
  · rw [if_neg h]; simp [show ¬ a ≤ c from by omega]

theorem arrow_spec (c : Int) : spec_l2Arrow.f c = some (isArrow c) := by
  unfold spec_l2Arrow.f isArrow
  rw [in_spec]; simp only [Option.bind_some]
  cases (decide (3 ≤ c) && decide (c ≤ 18)) <;> simp

theorem box_spec (c : Int) : spec_l2Box.f c = some (isBox c) := by
  unfold spec_l2Box.f isBox
  rw [in_spec]; simp only [Option.bind_some]
  cases (decide (19 ≤ c) && decide (c ≤ 34)) <;> simp

def kidsI (c : Int) : Int := match kidsN c with
  | some n => n
  | none => -1

theorem arrow_not_box {c : Int} (h : isArrow c = true) : isBox c = false := by
  simp [isArrow, isBox] at h ⊢; omega

theorem kids_spec (k : Nat) (c : Int) : spec_l2Kids.f (k + 1) c = some (kidsI c) := by
  unfold spec_l2Kids.f kidsI kidsN
  simp only [spec_l2Kids.j0, arrow_spec, box_spec, Option.bind_some]
  by_cases h0 : c = 0
  · subst h0; simp
  · rw [if_neg h0]
    by_cases h1 : c = 1
    · subst h1; simp
    · rw [if_neg h1]
      by_cases h2 : c = 2
      · subst h2; simp
      · rw [if_neg h2]
        cases ha : isArrow c with
        | true => simp [h0]
        | false => cases hb : isBox c <;> simp [h0, h1, h2]

theorem end_loop (x : List Int) (hx : x.length ≤ 1048576) (d : Nat) : ∀ (k m i : Nat), i ≤ x.length → x.length - i = d → d + 1 < k → m + d ≤ 4194304 → m + 2 * d ≤ 4194304 →
    spec_l2End.l0 k x ((m : Int) + 1) i = some (endOf (m + 1) (x.drop i) x.length) := by
  induction d with
  | zero =>
    intro k m i hi hd hk _ _
    obtain ⟨k, rfl, _⟩ := round hk
    simp only [spec_l2End.l0]
    rw [if_neg (by omega), List.drop_eq_nil_of_le (by omega)]
    simp [endOf, skip]
  | succ d ih =>
    intro k m i hi hd hk hm hm2
    obtain ⟨k, rfl, hk'⟩ := round hk
    obtain ⟨k2, rfl, _⟩ := round (show d < k by omega)
    simp only [spec_l2End.l0]
    rw [if_pos (by omega), if_pos (by omega), kids_spec]
    simp only [Option.bind_some]
    rw [rd_drop (by omega)]
    unfold endOf kidsI
    simp only [skip]
    cases hkn : kidsN (rd x i) with
    | none => simp
    | some n =>
      have hn := kidsN_le hkn
      simp only
      rw [if_neg (by omega), wr (x := (m : Int) + 1 - 1) (by omega) (by omega), wr (x := (m : Int) + 1 - 1 + n) (by omega) (by omega), wr (x := (i : Int) + 1) (by omega) (by omega)]
      by_cases hz : m + n = 0
      · rw [if_pos (by omega), hz]
        simp only [skip, List.length_drop]
        congr 1; omega
      · rw [if_neg (by omega)]
        obtain ⟨q, hq⟩ : ∃ q, m + n = q + 1 := ⟨m + n - 1, by omega⟩
        have := ih (k2 + 1) q (i + 1) (by omega) (by omega) (by omega) (by omega) (by omega)
        rw [hq]
        have e : ((m : Int) + 1 - 1 + n) = (q : Int) + 1 := by omega
        rw [e]
        exact this

theorem type_spec (x : List Int) (hx : x.length ≤ 1048576) (k : Nat) (hk : x.length + 2 < k) : spec_l2Type.f k x = some (wty x) := by
  unfold spec_l2Type.f wty
  by_cases h : x.length ≤ 40
  · rw [if_pos (by omega)]
    have e := end_loop x hx x.length k 0 0 (by omega) (by omega) (by omega) (by omega) (by omega)
    unfold spec_l2End.f
    rw [show ((0 : Nat) : Int) + 1 = 1 by rfl, show ((0 : Nat) : Int) = 0 by rfl] at e
    rw [e]
    simp only [Option.bind_some, List.drop_zero, endOf]
    cases hs : skip (0 + 1) x with
    | none => first | (simp at hs ⊢; done) | (simp at hs ⊢; omega)
    | some r =>
      have hl := skip_length hs
      simp only
      rw [show (0 + 1) = 1 by rfl] at hs
      cases r with
      | nil => simp [h]; omega
      | cons c r => simp at hl; rw [if_neg (by simp; omega)]; simp
  · rw [if_neg (by omega)]; simp [h]

theorem spec_forget_loop (x : List Int) (hx : x.length ≤ 1048576) (d : Nat) : ∀ (k i : Nat), i ≤ x.length → x.length - i = d → d < k →
    spec_ForgetType.l0 k x (forgot (x.take i)) i = some (forgot x) := by
  induction d with
  | zero =>
    intro k i hi hd hk
    obtain ⟨k, rfl, _⟩ := round hk
    simp only [spec_ForgetType.l0]
    rw [if_neg (by omega), List.take_of_length_le (by omega)]
  | succ d ih =>
    intro k i hi hd hk
    obtain ⟨k, rfl, hk'⟩ := round hk
    have hl := forgot_length (x.take i)
    have hl2 : (forgot (x.take i)).length < 17592186044416 := by simp at hl; omega
    have ht : x.take (i + 1) = x.take i ++ [rd x i] := by
      rw [List.take_succ_eq_append_getElem (by omega)]
      simp [rd, show i < x.length by omega]
    have hi1 := ih k (i + 1) (by omega) (by omega) (by omega)
    rw [ht, forgot_snoc] at hi1
    simp only [spec_ForgetType.l0]
    rw [if_pos (by omega), if_pos (by omega), arrow_spec, box_spec, wr (x := (i : Int) + 1) (by omega) (by omega)]
    simp only [Option.bind_some]
    cases ha : isArrow (rd x i) with
    | true =>
      rw [arrow_not_box ha, ha] at hi1
      rw [if_pos rfl, if_pos hl2]
      simpa using hi1
    | false =>
      cases hb : isBox (rd x i) with
      | true => rw [hb] at hi1; simpa using hi1
      | false =>
        rw [ha, hb] at hi1
        rw [if_neg (by simp), if_neg (by simp), if_pos hl2]
        simpa using hi1

theorem spec_forget (x : List Int) (hx : x.length ≤ 1048576) (k : Nat) (hk : x.length + 2 < k) : spec_ForgetType.f k x = some (if wty x = true then forgot x else []) := by
  unfold spec_ForgetType.f
  rw [type_spec x hx k hk]
  simp only [Option.bind_some]
  cases wty x with
  | true => simpa [forgot] using spec_forget_loop x hx x.length k 0 (by omega) (by omega) (by omega)
  | false => simp

/-- a code's shape and grade -/
def shp (c : Int) : Int × Int :=
  if 0 ≤ c ∧ c ≤ 2 then (c, -1) else if 3 ≤ c ∧ c ≤ 18 then (3, c - 3) else if 19 ≤ c ∧ c ≤ 34 then (4, c - 19)
  else if c = 35 then (3, -1) else if c = 36 then (4, -1) else (5, -1)

theorem dec2 (a b c : Int) : (decide (a ≤ c) && decide (c ≤ b)) = true ↔ a ≤ c ∧ c ≤ b := by simp

theorem shape_spec (c : Int) : impl_shape.f c = some (shp c) := by
  unfold impl_shape.f
  simp only [within_spec, Option.bind_some, dec2]
  unfold shp
  by_cases h1 : 0 ≤ c ∧ c ≤ 2
  · rw [if_pos h1, if_pos h1]
  · rw [if_neg h1, if_neg h1]
    by_cases h2 : 3 ≤ c ∧ c ≤ 18
    · rw [if_pos h2, if_pos h2, wr (x := c - 3) (by omega) (by omega)]
    · rw [if_neg h2, if_neg h2]
      by_cases h3 : 19 ≤ c ∧ c ≤ 34
      · rw [if_pos h3, if_pos h3, wr (x := c - 19) (by omega) (by omega)]
      · rw [if_neg h3, if_neg h3]
        by_cases h4 : c = 35
        · rw [if_pos h4, if_pos h4]
        · rw [if_neg h4, if_neg h4]
          by_cases h5 : c = 36
          · rw [if_pos h5, if_pos h5]
          · rw [if_neg h5, if_neg h5]

theorem isArrow_iff (c : Int) : isArrow c = true ↔ (3 ≤ c ∧ c ≤ 18) ∨ c = 35 := by simp [isArrow]
theorem isBox_iff (c : Int) : isBox c = true ↔ (19 ≤ c ∧ c ≤ 34) ∨ c = 36 := by simp [isBox]

theorem shp_box (c : Int) : (shp c).1 = 4 ↔ isBox c = true := by
  rw [isBox_iff]; unfold shp
  split
  · constructor <;> intro h <;> simp at h ⊢ <;> omega
  · split
    · constructor <;> intro h <;> simp at h ⊢ <;> omega
    · split
      · simp; omega
      · split
        · simp; omega
        · split
          · simp; omega
          · simp; omega

theorem shp_arrow (c : Int) : (shp c).1 = 3 ↔ isArrow c = true := by
  rw [isArrow_iff]; unfold shp
  split
  · constructor <;> intro h <;> simp at h ⊢ <;> omega
  · split
    · simp; omega
    · split
      · simp; omega
      · split
        · simp; omega
        · split
          · simp; omega
          · simp; omega

theorem shp_kids (c : Int) : (kidsN c = some 0 ∧ (shp c).1 = 0) ∨ (kidsN c = some 1 ∧ (shp c).1 = 4) ∨ (kidsN c = none ∧ (shp c).1 = 5) ∨ (kidsN c = some 2 ∧ ((shp c).1 = 1 ∨ (shp c).1 = 2 ∨ (shp c).1 = 3)) := by
  unfold kidsN
  by_cases h0 : c = 0
  · subst h0; exact .inl ⟨rfl, rfl⟩
  · by_cases h1 : c = 1
    · subst h1; exact .inr (.inr (.inr ⟨rfl, .inl rfl⟩))
    · by_cases h2 : c = 2
      · subst h2; exact .inr (.inr (.inr ⟨rfl, .inr (.inl rfl)⟩))
      · cases ha : isArrow c with
        | true => exact .inr (.inr (.inr ⟨by rw [if_neg h0, if_pos (.inr (.inr rfl))], .inr (.inr ((shp_arrow c).2 ha))⟩))
        | false =>
          cases hb : isBox c with
          | true => exact .inr (.inl ⟨by rw [if_neg h0, if_neg (by simp; omega), if_pos rfl], (shp_box c).2 hb⟩)
          | false =>
            refine .inr (.inr (.inl ⟨by rw [if_neg h0, if_neg (by simp; omega), if_neg (by simp)], ?_⟩))
            have ha' : ¬ isArrow c = true := by simp [ha]
            have hb' : ¬ isBox c = true := by simp [hb]
            rw [isArrow_iff] at ha'
            rw [isBox_iff] at hb'
            unfold shp
            rw [if_neg (by omega), if_neg (by omega), if_neg (by omega), if_neg (by omega), if_neg (by omega)]

/-- where the type that begins at a place ends -/
def tEnd (x : List Int) (a : Int) : Int := if 0 ≤ a ∧ a < x.length then endOf 1 (x.drop a.toNat) x.length else -1

theorem typeEnd_neg (x : List Int) (k : Nat) (hk : 1 < k) : impl_typeEnd.f k x (-1) = some (-1) := by
  obtain ⟨k, rfl, _⟩ := round hk
  obtain ⟨k, rfl, _⟩ := round (show 0 < k by omega)
  simp only [impl_typeEnd.f, impl_typeEnd.j0]
  rw [if_pos (by omega), if_pos trivial]

theorem typeEnd_spec (x : List Int) (hx : x.length ≤ 1048576) (d : Nat) : ∀ (k : Nat) (a : Int), -1 ≤ a → a ≤ x.length → x.length - a.toNat ≤ d → 2 * d + 3 < k →
    impl_typeEnd.f k x a = some (tEnd x a) := by
  induction d with
  | zero =>
    intro k a ha ha2 hd hk
    obtain ⟨k, rfl, _⟩ := round hk
    obtain ⟨k, rfl, _⟩ := round (show 1 < k by omega)
    simp only [impl_typeEnd.f, impl_typeEnd.j0]
    unfold tEnd
    by_cases h : a < 0
    · rw [if_pos h, if_pos trivial, if_neg (by omega)]
    · rw [if_neg h, if_pos (by simp; omega), if_neg (by omega)]
  | succ d ih =>
    intro k a ha ha2 hd hk
    obtain ⟨k, rfl, _⟩ := round hk
    obtain ⟨k, rfl, _⟩ := round (show 1 < k by omega)
    simp only [impl_typeEnd.f, impl_typeEnd.j0]
    by_cases h : a < 0
    · rw [if_pos h, if_pos trivial]; unfold tEnd; rw [if_neg (by omega)]
    · rw [if_neg h]
      by_cases h2 : a ≥ x.length
      · rw [if_pos (by simpa using h2)]; unfold tEnd; rw [if_neg (by omega)]
      · rw [if_neg (by simpa using h2), if_pos (by omega), if_pos (by omega), shape_spec]
        simp only [Option.bind_some]
        have e : tEnd x a = endOf 1 (x.drop a.toNat) x.length := by unfold tEnd; rw [if_pos (by omega)]
        have hrd : x.drop a.toNat = rd x a :: x.drop (a.toNat + 1) := by
          have := rd_drop (x := x) (i := a.toNat) (by omega)
          rwa [show ((a.toNat : Nat) : Int) = a by omega] at this
        have e1 : tEnd x (a + 1) = endOf 1 (x.drop (a.toNat + 1)) x.length := by
          unfold tEnd
          by_cases h3 : a + 1 < x.length
          · rw [if_pos (by omega), show (a + 1).toNat = a.toNat + 1 by omega]
          · rw [if_neg (by omega), List.drop_eq_nil_of_le (by omega)]; simp [endOf, skip]
        have r1 := ih k (a + 1) (by omega) (by omega) (by omega) (by omega)
        rw [e, hrd]
        unfold endOf
        simp only [skip]
        rcases shp_kids (rd x a) with ⟨hk1, hs⟩ | ⟨hk1, hs⟩ | ⟨hk1, hs⟩ | ⟨hk1, hs⟩
        · rw [if_pos hs, hk1, wr (x := a + 1) (by omega) (by omega)]
          simp only [Nat.add_zero, skip, List.length_drop]
          congr 1; omega
        · rw [if_neg (by omega), if_pos hs, hk1, wr (x := a + 1) (by omega) (by omega), r1, e1]
          simp only [Option.bind_some]; rfl
        · rw [if_neg (by omega), if_neg (by omega), if_pos hs, hk1]
        · rw [if_neg (by omega), if_neg (by omega), if_neg (by omega), hk1, wr (x := a + 1) (by omega) (by omega), r1, e1]
          simp only [Option.bind_some]
          rw [show 0 + 2 = 1 + 1 by rfl, skip_add]
          unfold endOf
          cases hs1 : skip 1 (x.drop (a.toNat + 1)) with
          | none =>
            simp only [Option.bind_none]
            rw [typeEnd_neg x k (by omega)]; rfl
          | some r =>
            obtain ⟨m, rfl, hm1, hm2⟩ := skip_drop _ _ _ hs1
            rw [List.length_drop] at hm2
            simp only [Option.bind_some, List.drop_drop, List.length_drop]
            rw [ih k _ (by omega) (by omega) (by omega) (by omega)]
            simp only [Option.bind_some, Option.some.injEq]
            unfold tEnd
            by_cases h3 : a.toNat + 1 + m < x.length
            · rw [if_pos (by omega), show ((x.length : Int) - ((x.length - (a.toNat + 1 + m) : Nat) : Int)).toNat = a.toNat + 1 + m by omega]
              rfl
            · rw [if_neg (by omega), List.drop_eq_nil_of_le (by omega)]; simp [skip]

theorem written_spec (x : List Int) (hx : x.length ≤ 1048576) (k : Nat) (hk : 2 * x.length + 3 < k) : impl_isWrittenType.f k x = some (wty x) := by
  unfold impl_isWrittenType.f wty
  rw [within_spec]
  simp only [Option.bind_some]
  by_cases h : 1 ≤ x.length ∧ x.length ≤ 40
  · rw [if_pos (by simp; omega), typeEnd_spec x hx x.length k 0 (by omega) (by omega) (by omega) hk]
    simp only [Option.bind_some, tEnd]
    rw [if_pos (by omega)]
    simp only [Int.toNat_zero, List.drop_zero, endOf]
    cases hs : skip 1 x with
    | none => first | (simp; done) | (simp; omega)
    | some r =>
      have hl := skip_length hs
      cases r with
      | nil => simp; omega
      | cons c r => simp at hl ⊢; omega
  · rw [if_neg (by simp; omega)]
    simp only [Option.some.injEq, Bool.false_eq]
    by_cases h1 : 1 ≤ x.length
    · simp [show ¬ x.length ≤ 40 by omega]
    · simp [h1]

theorem impl_forget_loop (x : List Int) (hx : x.length ≤ 1048576) (d : Nat) : ∀ (k i : Nat), i ≤ x.length → x.length - i = d → d < k →
    impl_ForgetType.l0 k (forgot (x.take i)) x x.length i = some (forgot x) := by
  induction d with
  | zero =>
    intro k i hi hd hk
    obtain ⟨k, rfl, _⟩ := round hk
    simp only [impl_ForgetType.l0]
    rw [if_neg (by omega), List.take_of_length_le (by omega)]
  | succ d ih =>
    intro k i hi hd hk
    obtain ⟨k, rfl, hk'⟩ := round hk
    have hl := forgot_length (x.take i)
    have hl2 : (forgot (x.take i)).length < 17592186044416 := by simp at hl; omega
    have ht : x.take (i + 1) = x.take i ++ [rd x i] := by
      rw [List.take_succ_eq_append_getElem (by omega)]
      simp [rd, show i < x.length by omega]
    have hi1 := ih k (i + 1) (by omega) (by omega) (by omega)
    rw [ht, forgot_snoc] at hi1
    simp only [impl_ForgetType.l0]
    rw [if_pos (by omega), if_pos (by omega), if_pos (by omega), shape_spec, wr (x := (i : Int) + 1) (by omega) (by omega)]
    simp only [Option.bind_some]
    by_cases hb : isBox (rd x i) = true
    · rw [if_pos ((shp_box _).2 hb)]; rw [hb] at hi1; simpa using hi1
    · rw [if_neg (fun h => hb ((shp_box _).1 h))]
      by_cases ha : isArrow (rd x i) = true
      · rw [if_pos ((shp_arrow _).2 ha), if_pos hl2]
        simp only [hb, ha] at hi1; simpa using hi1
      · rw [if_neg (fun h => ha ((shp_arrow _).1 h)), if_pos hl2]
        simp only [hb, ha] at hi1; simpa using hi1

theorem impl_forget (x : List Int) (hx : x.length ≤ 1048576) (k : Nat) (hk : 2 * x.length + 3 < k) : impl_ForgetType.f k x = some (if wty x = true then forgot x else []) := by
  unfold impl_ForgetType.f
  rw [written_spec x hx k hk]
  simp only [Option.bind_some]
  cases wty x with
  | true => simpa [forgot] using impl_forget_loop x hx x.length k 0 (by omega) (by omega) (by omega)
  | false => simp

theorem toInt_loop (x : List Int) (hx : x.length ≤ 1048576) (d : Nat) : ∀ (k i : Nat), i ≤ x.length → x.length - i = d → d < k →
    laws_toIntS.l0 k x (x.take i ++ List.replicate (x.length - i) 0) i = some x := by
  induction d with
  | zero =>
    intro k i hi hd hk
    obtain ⟨k, rfl, _⟩ := round hk
    simp only [laws_toIntS.l0]
    rw [if_neg (by omega), List.take_of_length_le (by omega), hd]; simp
  | succ d ih =>
    intro k i hi hd hk
    obtain ⟨k, rfl, hk'⟩ := round hk
    simp only [laws_toIntS.l0]
    rw [if_pos (by omega), if_pos (by omega), if_pos (by simp; omega), wr (x := (i : Int) + 1) (by omega) (by omega)]
    have := ih k (i + 1) (by omega) (by omega) (by omega)
    have ht : x.take (i + 1) = x.take i ++ [rd x i] := by
      rw [List.take_succ_eq_append_getElem (by omega)]
      simp [rd, show i < x.length by omega]
    rw [ht] at this
    have e : (x.take i ++ List.replicate (x.length - i) 0).set (i : Int).toNat (rd x i) = x.take i ++ [rd x i] ++ List.replicate (x.length - (i + 1)) 0 := by
      rw [show (i : Int).toNat = i by omega, List.set_append, if_neg (by simp; omega), show x.length - i = (x.length - (i + 1)) + 1 by omega, List.replicate_succ]
      rw [show i - (x.take i).length = 0 by simp; omega]
      simp
    rw [e]
    exact this

theorem toInt (x : List Int) (hx : x.length ≤ 1048576) (k : Nat) (hk : x.length < k) : laws_toIntS.f k x = some x := by
  unfold laws_toIntS.f
  rw [if_pos (by omega), if_pos (by omega), show ((x.length : Int)).toNat = x.length by omega]
  simpa using toInt_loop x hx x.length k 0 (by omega) (by omega) (by omega)

theorem eqInt_loop (x y : List Int) (hl : x.length = y.length) (hx : x.length ≤ 1048576) (d : Nat) : ∀ (k i : Nat), i ≤ x.length → x.length - i = d → d < k →
    laws_eqIntS.l0 k x y i = some (decide (x.drop i = y.drop i)) := by
  induction d with
  | zero =>
    intro k i hi hd hk
    obtain ⟨k, rfl, _⟩ := round hk
    simp only [laws_eqIntS.l0]
    rw [if_neg (by omega), List.drop_eq_nil_of_le (by omega), List.drop_eq_nil_of_le (by omega)]; simp
  | succ d ih =>
    intro k i hi hd hk
    obtain ⟨k, rfl, hk'⟩ := round hk
    simp only [laws_eqIntS.l0]
    rw [if_pos (by omega), if_pos (by omega), if_pos (by omega), wr (x := (i : Int) + 1) (by omega) (by omega)]
    rw [rd_drop (x := x) (i := i) (by omega), rd_drop (x := y) (i := i) (by omega)]
    by_cases h : rd x i = rd y i
    · rw [if_pos h, show ((i : Int) + 1) = ((i + 1 : Nat) : Int) by omega, ih k (i + 1) (by omega) (by omega) (by omega), h]
      simp
    · rw [if_neg h]; simp [h]

theorem eqInt (x y : List Int) (hx : x.length ≤ 1048576) (k : Nat) (hk : x.length < k) : laws_eqIntS.f k x y = some (decide (x = y)) := by
  unfold laws_eqIntS.f
  by_cases h : x.length = y.length
  · rw [if_pos (by omega)]
    simpa using eqInt_loop x y h hx x.length k 0 (by omega) (by omega) (by omega)
  · rw [if_neg (by omega)]
    have : x ≠ y := fun e => h (by rw [e])
    simp [this]

/-- the marks from a number on -/
def marks : Int → Nat → List Int
  | _, 0 => []
  | a, n + 1 => a :: marks (a + 1) n

theorem marks_length : ∀ (n : Nat) (a : Int), (marks a n).length = n
  | 0, _ => rfl
  | n + 1, a => by simp [marks, marks_length n]

theorem marks_rd : ∀ (n : Nat) (a : Int) (i : Nat), i < n → rd (marks a n) i = a + i
  | n + 1, a, 0, _ => by simp [marks, rd]
  | n + 1, a, i + 1, h => by
    have := marks_rd n (a + 1) i (by omega)
    simp [marks, rd] at this ⊢
    omega

theorem marks_snoc : ∀ (n : Nat) (a : Int), marks a (n + 1) = marks a n ++ [a + n]
  | 0, a => by simp [marks]
  | n + 1, a => by
    rw [marks, marks_snoc n (a + 1), marks]
    simp
    omega

theorem mark_loop (x : List Int) (hx : x.length ≤ 1048576) (d : Nat) : ∀ (k i : Nat), i ≤ x.length → x.length - i = d → d < k →
    laws_markIntS.l0 k (marks 1 i ++ x.drop i) ((i : Int) + 1) i = some ((x.length : Int) + 1, marks 1 x.length) := by
  induction d with
  | zero =>
    intro k i hi hd hk
    obtain ⟨k, rfl, _⟩ := round hk
    simp only [laws_markIntS.l0]
    obtain rfl : i = x.length := by omega
    simp [marks_length]
  | succ d ih =>
    intro k i hi hd hk
    obtain ⟨k, rfl, hk'⟩ := round hk
    simp only [laws_markIntS.l0]
    rw [if_pos (by simp [marks_length]; omega), if_pos (by omega), wr (x := (i : Int) + 1) (by omega) (by omega), wr (x := (i : Int) + 1 + 1) (by omega) (by omega)]
    have := ih k (i + 1) (by omega) (by omega) (by omega)
    rw [marks_snoc] at this
    have e : (marks 1 i ++ x.drop i).set (i : Int).toNat ((i : Int) + 1) = marks 1 i ++ [1 + (i : Int)] ++ x.drop (i + 1) := by
      rw [show (i : Int).toNat = i by omega, List.set_append, if_neg (by simp [marks_length]), rd_drop (x := x) (i := i) (by omega)]
      rw [show i - (marks 1 i).length = 0 by simp [marks_length]]
      simp; omega
    rw [e]
    exact this

theorem mark (x : List Int) (hx : x.length ≤ 1048576) (k : Nat) (hk : x.length < k) : laws_markIntS.f k x 1 = some ((x.length : Int) + 1, marks 1 x.length) := by
  unfold laws_markIntS.f
  simpa [marks] using mark_loop x hx x.length k 0 (by omega) (by omega) (by omega)

theorem held_loop (n : Nat) (hn : n ≤ 1048576) (d : Nat) : ∀ (k i : Nat), i ≤ n → n - i = d → d < k →
    laws_heldIntS.l0 k (marks 1 n) ((i : Int) + 1) i = some ((n : Int) + 1) := by
  induction d with
  | zero =>
    intro k i hi hd hk
    obtain ⟨k, rfl, _⟩ := round hk
    simp only [laws_heldIntS.l0]
    obtain rfl : i = n := by omega
    simp [marks_length]
  | succ d ih =>
    intro k i hi hd hk
    obtain ⟨k, rfl, hk'⟩ := round hk
    simp only [laws_heldIntS.l0]
    rw [if_pos (by simp [marks_length]; omega), if_pos (by omega), marks_rd n 1 i (by omega), if_pos (by omega), wr (x := (i : Int) + 1) (by omega) (by omega), wr (x := (i : Int) + 1 + 1) (by omega) (by omega)]
    exact ih k (i + 1) (by omega) (by omega) (by omega)

theorem held (n : Nat) (hn : n ≤ 1048576) (k : Nat) (hk : n < k) : laws_heldIntS.f k (marks 1 n) 1 = some ((n : Int) + 1) := by
  unfold laws_heldIntS.f
  simpa using held_loop n hn n k 0 (by omega) (by omega) (by omega)

theorem FnExactForgetType : laws_FnExactForgetType.Pure := by
  intro x _ _ _
  by_cases hx : x.length ≤ 1048576
  · refine ⟨2 * x.length + 10, ?_⟩
    unfold laws_FnExactForgetType.f
    rw [if_neg (by omega)]
    have hl : (if wty x = true then forgot x else []).length ≤ 1048576 := by
      have := forgot_length x
      split
      · omega
      · simp
    simp only [toInt x hx _ (show x.length < 2 * x.length + 10 by omega), spec_forget x hx _ (show x.length + 2 < 2 * x.length + 10 by omega), impl_forget x hx _ (show 2 * x.length + 3 < 2 * x.length + 10 by omega), Option.bind_some]
    have hl3 := forgot_length x
    have hl4 : (if wty x = true then forgot x else []).length ≤ x.length := by
      split
      · omega
      · simp
    obtain ⟨y, hy⟩ : ∃ y, (if wty x = true then forgot x else []) = y := ⟨_, rfl⟩
    rw [hy] at hl hl4
    simp only [hy]
    rw [eqInt y y hl _ (show y.length < 2 * x.length + 10 by omega)]
    simp only [Option.bind_some, decide_true, if_true]
    rw [eqInt x x hx _ (by omega)]
    simp only [Option.bind_some, decide_true, if_true]
    rw [mark x hx _ (by omega)]
    simp only [Option.bind_some, Bool.not_true]
    rw [if_neg (by omega), show 2 * x.length + 10 = (2 * x.length + 9) + 1 by rfl]
    simp only [laws_FnExactForgetType.j0]
    rw [mark y hl (2 * x.length + 9) (by omega)]
    simp only [Option.bind_some, Bool.false_eq_true, if_false]
    rw [held y.length hl (2 * x.length + 9) (by omega)]
    simp only [Option.bind_some, if_true]
    rw [if_neg (by omega), toInt x hx (2 * x.length + 9) (by omega)]
    simp only [Option.bind_some]
    rw [impl_forget x hx (2 * x.length + 9) (by omega), hy]
    simp only [Option.bind_some]
    rw [eqInt y y hl (2 * x.length + 9) (by omega)]
    simp only [Option.bind_some, decide_true, if_true]
    rw [if_neg (by omega)]
  · exact ⟨0, by unfold laws_FnExactForgetType.f; rw [if_pos (by omega)]⟩

end Go.Proofs.Yticcekapikfhaaa.Pure
