/- Types that are drawn and spoilt; what the laws on types tell with. No conditions. -/
import Derived.Test.YticcekapikfhaaaDd
import Derived.Test.YticcekapikfhaaaGp
namespace Go.Proofs.Yticcekapikfhaaa
open Go Go.TL
open Go.Proofs.Yticcekapikfhaaa.Ty
set_option linter.unusedSimpArgs false
set_option linter.unusedVariables false
set_option linter.unusedSectionVars false
set_option maxRecDepth 20000
set_option maxHeartbeats 4000000

theorem frz_at {H : List Box} {p sz n cap : Nat} {xs : List LV} (hl : H[p]? = some (some xs)) (hx : xs.length = cap * sz) (hn : n ≤ cap) : frzLV H (.ha p sz 0 n cap) = some (.sl true false sz (chunks sz n xs), H.set p none) := by
  simp only [frzLV, hl]
  rw [if_pos ⟨hx, hn⟩]
theorem chunks_ints (l : List Int) (ex : List LV) : ∀ n, n ≤ l.length → chunks 1 n (l.map N ++ ex) = (l.take n).map fun x => [N x] := by
  induction l with
  | nil => intro n hn; have : n = 0 := by simpa using hn
           subst this; rfl
  | cons a l ih =>
    intro n hn
    cases n with
    | zero => rfl
    | succ n =>
      have := ih n (by simpa using hn)
      simp only [chunks, List.map_cons, List.cons_append, List.take_succ_cons, List.take_zero, List.drop_succ_cons, List.drop_zero, this]
theorem splice_ints (l : List Int) (ex : List LV) (i : Nat) (v : Int) (h : i < l.length) : splice (l.map N ++ ex) i [N v] = (l.set i v).map N ++ ex := by
  unfold splice
  rw [List.take_append_of_le_length (by simp; omega), List.drop_append_of_le_length (by simp; omega), List.set_eq_take_append_cons_drop, if_pos h]
  simp
theorem chunks_store (l : List Int) (ex : List LV) (i : Nat) (v : Int) (h : i < l.length) : chunks 1 l.length (List.take i (l.map N ++ ex) ++ N v :: List.drop (i + 1) (l.map N ++ ex)) = (l.set i v).map fun x => [N x] := by
  have h1 := splice_ints l ex i v h
  have e : List.take i (l.map N ++ ex) ++ N v :: List.drop (i + 1) (l.map N ++ ex) = splice (l.map N ++ ex) i [N v] := by unfold splice; simp
  rw [e, h1]
  have h2 := chunks_ints (l.set i v) ex l.length (by simp)
  rw [h2, List.take_of_length_le (by simp)]
theorem idx_ha0 {l sz off n cap : Nat} (h : 0 < n) : idxLV sz (.ha l sz off n cap) 0 = some (.ptr l (off * sz)) := by
  have := idx_ha (l := l) (sz := sz) (off := off) (n := n) (cap := cap) (i := 0) h
  simpa using this
theorem chunks_cons (a : Int) (l : List Int) (ex : List LV) : chunks 1 (l.length + 1) (N a :: (l.map N ++ ex)) = (a :: l).map fun x => [N x] := by
  have := chunks_ints (a :: l) ex (l.length + 1) (by simp)
  rw [List.take_of_length_le (by simp)] at this
  exact this
theorem RT.codes : ∀ (t : RT), t.ok → ∀ n ∈ t.flat, 0 ≤ n ∧ n ≤ 36
  | .nd c ks, h, n, hn => by
    simp only [RT.ok] at h
    simp only [RT.flat, List.mem_cons] at hn
    rcases hn with rfl | hn
    · exact kidsN_range h.1
    · exact codesAll ks h.2 n hn
where
  codesAll : ∀ (ts : List RT), oks ts → ∀ n ∈ flats ts, 0 ≤ n ∧ n ≤ 36
    | [], _, n, hn => by simp [flats] at hn
    | t :: ts, h, n, hn => by
      simp only [oks] at h
      simp only [flats, List.mem_append] at hn
      rcases hn with hn | hn
      · exact RT.codes t h.1 n hn
      · exact codesAll ts h.2 n hn
/-- a list of codes, or of other numbers -/
def AnyTy (n : Nat) (l : List Int) : Prop := l.length ≤ n ∧ ∀ x ∈ l, I64 x
theorem tyIn_any {size : Int} {data : Bool} {n : Nat} {l : List Int} (h : TyIn size data n l) : AnyTy n l ∧ 1 ≤ l.length := by
  obtain ⟨t, h1, _, rfl, h4⟩ := h
  exact ⟨⟨h4, fun x hx => by have := RT.codes t h1 x hx; unfold I64; omega⟩, RT.flat_pos t⟩
section
variable (D : Dr) (ok : D.ok)
include ok
theorem l1New_ok (h : List Box) : LCalls Try.prog n_spec_l1New [D.lv] h (fun r h' => ∃ k, r = .ptr h.length 0 ∧ CurOk D 0 k ∧ h' = h ++ [some [D.lv, N 0, N k]]) := by
  refine LCalls.of_codeOf c_spec_l1New mixed (by simp) ⟨_, _, 0, rfl, ⟨by omega, by omega, by omega, by omega⟩, rfl⟩ ?_
  have hlen := ok.len
  simp (disch := omega) [-onBool_some, -onBool_leT, -onBool_leF, -onBool_ltT, -onBool_ltF, -onBool_eqT, -onBool_eqF, k_spec_l1New]
  refine wpC_forM D.bs.length 0 (fun i t h' => h' = h ∧ t 4 = N i ∧ ∃ k, t 3 = N k ∧ I64 k) (fun t h' => h' = h ∧ ∃ k, t 3 = N k ∧ I64 k) ⟨by simp, by simp, _, by simp; rfl, wrap_i64 _⟩ (by omega) ?_ ?_
  · rintro i t1 hh hf hi ⟨rfl, e4, k, e3, hk⟩
    (have e0 := hf 0 (by kernel_rfl); clear hf; simp [] at e0)
    by_cases h1 : i < D.bs.length
    · have hb1 : ltB (i : Int) D.bs.length = true := by rw [ltB_true]; omega
      simp (disch := omega) [-onBool_some, -onBool_leT, -onBool_leF, -onBool_ltT, -onBool_ltF, -onBool_eqT, -onBool_eqF, e0, e3, e4, hb1]
      by_cases h2 : i < 4000
      · have hb2 : ltB (i : Int) 4000 = true := by rw [ltB_true]; omega
        simp (disch := omega) [-onBool_some, -onBool_leT, -onBool_leF, -onBool_ltT, -onBool_ltF, -onBool_eqT, -onBool_eqF, e0, e3, e4, hb1, hb2, idx_D (D := D) (i := i) (by omega) (by omega), i64_wrap]
        exact ⟨by omega, and_I64 _ _⟩
      · have hb2 : ltB (i : Int) 4000 = false := by rw [ltB_false]; omega
        simp (disch := omega) [-onBool_some, -onBool_leT, -onBool_leF, -onBool_ltT, -onBool_ltF, -onBool_eqT, -onBool_eqF, e0, e3, e4, hb1, hb2]
        exact hk
    · have hb1 : ltB (i : Int) D.bs.length = false := by rw [ltB_false]; omega
      simp (disch := omega) [-onBool_some, -onBool_leT, -onBool_leF, -onBool_ltT, -onBool_ltF, -onBool_eqT, -onBool_eqF, e0, e3, e4, hb1]
      exact hk
  · rintro t1 hh hf ⟨rfl, k, e3, hk⟩
    (have e0 := hf 0 (by kernel_rfl); clear hf; simp [] at e0)
    simp (disch := omega) [-onBool_some, -onBool_leT, -onBool_leF, -onBool_ltT, -onBool_ltF, -onBool_eqT, -onBool_eqF, e0, e3, boxLV]
    refine post_tmp (.inr rfl) (by simp) ⟨by simp, k, ⟨by omega, by omega, hk.1, hk.2⟩, by simp⟩
theorem dSpoiltType_ok (s : GSys) (hs : 1 ≤ s.size ∧ s.size ≤ 16) : HCalls Try.prog D n_spec_dSpoiltType [s.lv] (fun r => ∃ l, r = OU true false l ∧ AnyTy 100 l) := by
  refine HCalls.of_codeOf c_spec_dSpoiltType mixed (by simp) ⟨OU true false [], [], rfl, by simp [AnyTy]⟩ ?_
  intro h1 h3 ct i k H1 H3 hct hk
  have hct' := hct.share
  simp (disch := omega) [-onBool_some, -onBool_leT, -onBool_leF, -onBool_ltT, -onBool_ltF, -onBool_eqT, -onBool_eqF, k_spec_dSpoiltType, boxLV, frzLV]
  refine onCall_cur (l1Once_ok D ok 2 (by unfold I64; omega)) hct' hk ?_
  rintro r i1 k1 hk1 ⟨b, rfl⟩
  simp (disch := omega) [-onBool_some, -onBool_leT, -onBool_leF, -onBool_ltT, -onBool_ltF, -onBool_eqT, -onBool_eqF]
  have hd := (dType_ok D ok s hs b 3 (by omega)).hard
  refine onCall_any (hd.thaw (by rintro r ⟨l, rfl, hl⟩; exact whole_sc (fun n : Int => Value.int .i64 n) true false l (.inr ⟨rfl, rfl⟩)) (by simp) H1 H3.none hct hk1) ?_
  rintro y h' ⟨t, i2, k2, bs, hk2, ⟨l, rfl, hl⟩, hth, rfl⟩
  obtain ⟨⟨ln, lI⟩, lp⟩ := tyIn_any hl
  rcases (th_sc (fun n : Int => Value.int .i64 n)).1 hth with ⟨rfl, _, _⟩ | ⟨_, hne, slack, cap, ⟨hcap, hsl⟩, rfl, rfl⟩
  · simp at lp
  clear hth
  simp (disch := omega) [-onBool_some, -onBool_leT, -onBool_leF, -onBool_ltT, -onBool_ltF, -onBool_eqT, -onBool_eqF]
  refine onCall_cur (l1Below_ok D ok 14 (by unfold I64; omega)) hct' hk2 ?_
  rintro r i3 k3 hk3 ⟨m, rfl, _⟩
  simp (disch := omega) [-onBool_some, -onBool_leT, -onBool_leF, -onBool_ltT, -onBool_ltF, -onBool_eqT, -onBool_eqF]
  (with_reducible first | refine onBoolT (fun h5 => ?_) (fun h5 => ?_) | refine onBoolF (fun h5 => ?_) (fun h5 => ?_))
  · simp (disch := omega) [-onBool_some, -onBool_leT, -onBool_leF, -onBool_ltT, -onBool_ltF, -onBool_eqT, -onBool_eqF]
    refine onCall_cur (l1Below_ok D ok l.length (by unfold I64; omega)) hct' hk3 ?_
    rintro r i4 k4 hk4 ⟨m2, rfl, q0, q1, _⟩
    have q2 := q1 (by omega)
    obtain ⟨j, rfl⟩ : ∃ j : Nat, m2 = j := ⟨m2.toNat, by omega⟩
    simp (disch := omega) [-onBool_some, -onBool_leT, -onBool_leF, -onBool_ltT, -onBool_ltF, -onBool_eqT, -onBool_eqF]
    have pick := l1PickInt_ok D ok false [-1, 0, 2, 18, 19, 34, 35, 36, 37, 1000] (by simp) (by simp)
    refine onCall_cur pick hct' hk4 ?_
    rintro r i5 k5 hk5 ⟨v, rfl, hv⟩
    simp (disch := omega) [-onBool_some, -onBool_leT, -onBool_leF, -onBool_ltT, -onBool_ltF, -onBool_eqT, -onBool_eqF, idx_ha (show j < l.length by omega)]
    refine ⟨by omega, ?_⟩
    rw [frz_at (xs := List.take j (l.map N ++ List.replicate slack .dead) ++ N v :: List.drop (j + 1) (l.map N ++ List.replicate slack .dead)) (by simp) (by simp; omega) hcap, chunks_store l _ j v (by omega)]
    have hA : AnyTy 100 (l.set j v) := by
      refine ⟨by simp; omega, fun x hx => ?_⟩
      rcases List.mem_or_eq_of_mem_set hx with hx | rfl
      · exact lI x hx
      · simp at hv; unfold I64; omega
    generalize l.set j v = l' at hA
    simp (disch := omega) [-onBool_some, -onBool_leT, -onBool_leF, -onBool_ltT, -onBool_ltF, -onBool_eqT, -onBool_eqF]
    (first | refine postC_tmp (.inr rfl) rfl ?_ (by simp) ?_ | refine postC_tmpE (.inr rfl) rfl ?_ (by simp) ?_)
    · exact hk5
    · exact ⟨l', by simp, hA⟩
  · simp (disch := omega) [-onBool_some, -onBool_leT, -onBool_leF, -onBool_ltT, -onBool_ltF, -onBool_eqT, -onBool_eqF]
    (with_reducible first | refine onBoolT (fun h6 => ?_) (fun h6 => ?_) | refine onBoolF (fun h6 => ?_) (fun h6 => ?_))
    · simp (disch := omega) [-onBool_some, -onBool_leT, -onBool_leF, -onBool_ltT, -onBool_ltF, -onBool_eqT, -onBool_eqF, i64_wrap]
      have hc : ∀ P, cutLV 1 (.ha P 1 0 l.length cap) none (some ((l.length : Int) - 1)) none = some (.ha P 1 0 (l.length - 1) cap) := fun P => by
        simp only [cutLV, Option.getD_none, Option.getD_some]
        rw [if_pos ⟨trivial, trivial, by omega, by omega, hcap, rfl⟩]
        congr 2; omega
      rw [hc]
      simp (disch := omega) [-onBool_some, -onBool_leT, -onBool_leF, -onBool_ltT, -onBool_ltF, -onBool_eqT, -onBool_eqF]
      rw [frz_at (xs := l.map N ++ List.replicate slack .dead) (by simp) (by simp; omega) (by omega), chunks_ints l _ _ (by omega)]
      have hA : AnyTy 100 (l.take (l.length - 1)) := ⟨by simp; omega, fun x hx => lI x (List.mem_of_mem_take hx)⟩
      generalize l.take (l.length - 1) = l' at hA
      simp (disch := omega) [-onBool_some, -onBool_leT, -onBool_leF, -onBool_ltT, -onBool_ltF, -onBool_eqT, -onBool_eqF]
      (first | refine postC_tmp (.inr rfl) rfl ?_ (by simp) ?_ | refine postC_tmpE (.inr rfl) rfl ?_ (by simp) ?_)
      · exact hk3
      · exact ⟨l', by simp, hA⟩
    · simp (disch := omega) [-onBool_some, -onBool_leT, -onBool_leF, -onBool_ltT, -onBool_ltF, -onBool_eqT, -onBool_eqF]
      rw [frz_at (xs := l.map N ++ List.replicate slack .dead) (by simp) (by simp; omega) (by omega), chunks_ints l _ _ (by omega), List.take_of_length_le (Nat.le_refl _)]
      simp (disch := omega) [-onBool_some, -onBool_leT, -onBool_leF, -onBool_ltT, -onBool_ltF, -onBool_eqT, -onBool_eqF]
      (with_reducible first | refine onBoolT (fun h7 => ?_) (fun h7 => ?_) | refine onBoolF (fun h7 => ?_) (fun h7 => ?_))
      · simp (disch := omega) [-onBool_some, -onBool_leT, -onBool_leF, -onBool_ltT, -onBool_ltF, -onBool_eqT, -onBool_eqF]
        have ha : appLV 1 (OU true false l) (.sl true false 1 [[N 0]]) = some (OU true false (l ++ [0])) := app_ints (l := l) (r := [0]) (u := true) (nl := false) (by simp; omega)
        rw [ha]
        have hA : AnyTy 100 (l ++ [0]) := ⟨by simp; omega, fun x hx => by
          rcases List.mem_append.1 hx with hx | hx
          · exact lI x hx
          · simp at hx; subst hx; unfold I64; omega⟩
        generalize l ++ [0] = l' at hA
        simp (disch := omega) [-onBool_some, -onBool_leT, -onBool_leF, -onBool_ltT, -onBool_ltF, -onBool_eqT, -onBool_eqF]
        (first | refine postC_tmp (.inr rfl) rfl ?_ (by simp) ?_ | refine postC_tmpE (.inr rfl) rfl ?_ (by simp) ?_)
        · exact hk3
        · exact ⟨l', by simp, hA⟩
      · simp (disch := omega) [-onBool_some, -onBool_leT, -onBool_leF, -onBool_ltT, -onBool_ltF, -onBool_eqT, -onBool_eqF]
        (with_reducible first | refine onBoolT (fun h8 => ?_) (fun h8 => ?_) | refine onBoolF (fun h8 => ?_) (fun h8 => ?_))
        · simp (disch := omega) [-onBool_some, -onBool_leT, -onBool_leF, -onBool_ltT, -onBool_ltF, -onBool_eqT, -onBool_eqF]
          refine wpC_loopM (fun m t h => ∃ l', t 5 = OU true false l' ∧ AnyTy 100 l' ∧ 1 ≤ l'.length ∧ m + l'.length = 100 ∧ h = h1 ++ some [ct, N i3, N k3] :: (h3 ++ [none, none])) (fun t h => ∃ l', t 5 = OU true false l' ∧ AnyTy 100 l' ∧ h = h1 ++ some [ct, N i3, N k3] :: (h3 ++ [none, none])) (100 - l.length)
            ⟨l, by simp, ⟨by omega, lI⟩, lp, by omega, by simp⟩ ?_ ?_
          · rintro m t1 hh hf ⟨l', e5, hA, hp, hm, rfl⟩
            clear hf
            simp (disch := omega) [-onBool_some, -onBool_leT, -onBool_leF, -onBool_ltT, -onBool_ltF, -onBool_eqT, -onBool_eqF, e5]
            (with_reducible first | refine onBoolT (fun h9 => ?_) (fun h9 => ?_) | refine onBoolF (fun h9 => ?_) (fun h9 => ?_))
            · simp only [ltB_true, ltB_false, leB_true, leB_false, eqB_true, eqB_false, Bool.not_true, Bool.not_false] at h9
              simp (disch := omega) [-onBool_some, -onBool_leT, -onBool_leF, -onBool_ltT, -onBool_ltF, -onBool_eqT, -onBool_eqF, e5]
              refine onCall_eq (l3Glue2_ok 1 false false false l' l' (by omega) (by omega)) (by simp) ?_
              simp (disch := omega) [-onBool_some, -onBool_leT, -onBool_leF, -onBool_ltT, -onBool_ltF, -onBool_eqT, -onBool_eqF, e5]
              refine ⟨m - (l'.length + 1), by omega, 1 :: (l' ++ l'), by simp, ⟨by simp; omega, fun x hx => ?_⟩, by simp, by simp; omega⟩
              rcases List.mem_cons.1 hx with rfl | hx
              · unfold I64; omega
              · rcases List.mem_append.1 hx with hx | hx <;> exact hA.2 x hx
            · simp (disch := omega) [-onBool_some, -onBool_leT, -onBool_leF, -onBool_ltT, -onBool_ltF, -onBool_eqT, -onBool_eqF, e5]
              exact ⟨l', rfl, hA⟩
          · rintro t1 hh hf ⟨l', e5, hA, rfl⟩
            clear hf
            simp (disch := omega) [-onBool_some, -onBool_leT, -onBool_leF, -onBool_ltT, -onBool_ltF, -onBool_eqT, -onBool_eqF, e5]
            (first | refine postC_tmp (.inr rfl) rfl ?_ (by simp) ?_ | refine postC_tmpE (.inr rfl) rfl ?_ (by simp) ?_)
            · exact hk3
            · exact ⟨l', by simp, hA⟩
        · simp (disch := omega) [-onBool_some, -onBool_leT, -onBool_leF, -onBool_ltT, -onBool_ltF, -onBool_eqT, -onBool_eqF]
          (first | refine postC_tmp (.inr rfl) rfl ?_ (by simp) ?_ | refine postC_tmpE (.inr rfl) rfl ?_ (by simp) ?_)
          · exact hk3
          · exact ⟨l, by simp, by omega, lI⟩
theorem DrawBoxType_ok : Gives Try.prog n_spec_DrawBoxType [D.lv] (fun r => ∃ u l, r = OU u false l ∧ AnyTy 100 l) := by
  refine Gives.of_codeOf c_spec_DrawBoxType mixed (by simp) ⟨OU true false [], ⟨true, [], rfl, by simp [AnyTy]⟩, by simp⟩ ?_
  simp (disch := omega) [-onBool_some, -onBool_leT, -onBool_leF, -onBool_ltT, -onBool_ltF, -onBool_eqT, -onBool_eqF, k_spec_DrawBoxType]
  refine onCall_any (l1New_ok D ok []) ?_
  rintro r h' ⟨k, rfl, hk, rfl⟩
  have hct := D.share
  have hcc : CtOk D D.lv := .inl rfl
  simp (disch := omega) [-onBool_some, -onBool_leT, -onBool_leF, -onBool_ltT, -onBool_ltF, -onBool_eqT, -onBool_eqF]
  refine onCall_cur0 (dSystem_ok D ok) hct hk ?_
  rintro r i1 k1 hk1 ⟨d, hd, rfl⟩
  have sd := DS.share d
  obtain ⟨s1, s2⟩ := DS.sound d hd
  have ts := GSys.sys_of s1
  simp (disch := omega) [-onBool_some, -onBool_leT, -onBool_leF, -onBool_ltT, -onBool_ltF, -onBool_eqT, -onBool_eqF, sd]
  refine onCall_any ((dSpoiltType_ok D ok d.sys (by have := ts.lo; have := ts.hi; omega)).thaw (h1 := []) (h3 := []) (by rintro r ⟨l, rfl, hl⟩; exact whole_sc (fun n : Int => Value.int .i64 n) true false l (.inr ⟨rfl, rfl⟩)) (by simp) HardH.nil HardH.nil hcc hk1) ?_
  rintro y h' ⟨t, i2, k2, bs, hk2, ⟨l, rfl, hl⟩, hth, rfl⟩
  rcases (th_sc (fun n : Int => Value.int .i64 n)).1 hth with ⟨rfl, rfl, rfl⟩ | ⟨_, hne, slack, cap, ⟨hcap, hsl⟩, rfl, rfl⟩
  · clear hth
    simp (disch := omega) [-onBool_some, -onBool_leT, -onBool_leF, -onBool_ltT, -onBool_ltF, -onBool_eqT, -onBool_eqF]
    refine onCall_cur0 (l1Once_ok D ok 5 (by unfold I64; omega)) hct hk2 ?_
    rintro r i3 k3 hk3 ⟨b, rfl⟩
    cases b
    all_goals
      repeat' (first
    | (with_reducible (first | refine onBoolT (fun hb_ => ?_) (fun hb_ => ?_) | refine onBoolF (fun hb_ => ?_) (fun hb_ => ?_)) <;> simp (disch := omega) [-onBool_some, -onBool_leT, -onBool_leF, -onBool_ltT, -onBool_ltF, -onBool_eqT, -onBool_eqF, hb_])
    | simp (disch := omega) [-onBool_some, -onBool_leT, -onBool_leF, -onBool_ltT, -onBool_ltF, -onBool_eqT, -onBool_eqF])
      exact hl
  · clear hth
    obtain ⟨a, l, rfl⟩ : ∃ a l', l = a :: l' := by
      cases l with
      | nil => exact absurd rfl hne
      | cons a l' => exact ⟨a, l', rfl⟩
    simp at hcap hsl
    have h100 := hl.1
    simp at h100
    simp (disch := omega) [-onBool_some, -onBool_leT, -onBool_leF, -onBool_ltT, -onBool_ltF, -onBool_eqT, -onBool_eqF]
    refine onCall_cur0 (l1Once_ok D ok 5 (by unfold I64; omega)) hct hk2 ?_
    rintro r i3 k3 hk3 ⟨b, rfl⟩
    cases b
    · simp (disch := omega) [-onBool_some, -onBool_leT, -onBool_leF, -onBool_ltT, -onBool_ltF, -onBool_eqT, -onBool_eqF]
      rw [frz_at (xs := N a :: (l.map N ++ List.replicate slack .dead)) rfl (by simp; omega) hcap, chunks_cons]
      simp (disch := omega) [-onBool_some, -onBool_leT, -onBool_leF, -onBool_ltT, -onBool_ltF, -onBool_eqT, -onBool_eqF]
      exact ⟨a :: l, by simp, hl⟩
    · have hb : ltB 0 ((l.length : Int) + 1) = true := by rw [ltB_true]; omega
      simp (disch := omega) [-onBool_some, -onBool_leT, -onBool_leF, -onBool_ltT, -onBool_ltF, -onBool_eqT, -onBool_eqF, hb, idx_ha0]
      have pick := l1PickInt_ok D ok false [35, 36, a] (by simp) (by simp)
      refine onCall_cur0 pick hct hk3 ?_
      rintro r i4 k4 hk4 ⟨v, rfl, hv⟩
      simp (disch := omega) [-onBool_some, -onBool_leT, -onBool_leF, -onBool_ltT, -onBool_ltF, -onBool_eqT, -onBool_eqF, hb, idx_ha0]
      rw [frz_at (xs := N v :: (l.map N ++ List.replicate slack .dead)) rfl (by simp; omega) hcap, chunks_cons]
      simp (disch := omega) [-onBool_some, -onBool_leT, -onBool_leF, -onBool_ltT, -onBool_ltF, -onBool_eqT, -onBool_eqF]
      refine ⟨v :: l, by simp, by simp; omega, fun x hx => ?_⟩
      rcases List.mem_cons.1 hx with rfl | hx
      · simp at hv
        rcases hv with rfl | rfl | rfl
        · unfold I64; omega
        · unfold I64; omega
        · exact hl.2 _ (by simp)
      · exact hl.2 _ (by simp [hx])
end
/-! what the laws on types tell with -/
theorem big_ok (D : Dr) : Gives Try.prog n_laws_big [D.lv] (· = B (ltB 1048576 D.bs.length)) := by
  refine Gives.of_codeOf c_laws_big mixed (by simp) ⟨_, rfl, by simp⟩ ?_
  simp (disch := omega) [-onBool_some, -onBool_leT, -onBool_leF, -onBool_ltT, -onBool_ltF, -onBool_eqT, -onBool_eqF, k_laws_big]
theorem ints_ok (n1 n2 : Bool) (a b : List Int) (ha : a.length ≤ 1099511627776) : Gives Try.prog n_laws_ints [L n1 a, L n2 b] (· = B (a == b)) := by
  generalize hq : (a == b) = q
  refine Gives.of_codeOf c_laws_ints mixed (by simp) ⟨_, rfl, by simp⟩ ?_
  simp (disch := omega) [-onBool_some, -onBool_leT, -onBool_leF, -onBool_ltT, -onBool_ltF, -onBool_eqT, -onBool_eqF, k_laws_ints]
  (with_reducible first | refine onBoolT (fun h1 => ?_) (fun h1 => ?_) | refine onBoolF (fun h1 => ?_) (fun h1 => ?_))
  · simp (disch := omega) [-onBool_some, -onBool_leT, -onBool_leF, -onBool_ltT, -onBool_ltF, -onBool_eqT, -onBool_eqF, h1]
    simp only [ltB_true, ltB_false, leB_true, leB_false, eqB_true, eqB_false, Bool.not_true, Bool.not_false] at h1
    refine wpC_for a.length 0 (fun i t _ => t 5 = N i ∧ q = (a.drop i == b.drop i)) (by simp [hq]) (by omega) ?_
    rintro i t1 hh hf hi ⟨e5, hj⟩
    (have e0 := hf 0 (by kernel_rfl); have e1 := hf 1 (by kernel_rfl); clear hf; simp [] at e0 e1)
    simp (disch := omega) [-onBool_some, -onBool_leT, -onBool_leF, -onBool_ltT, -onBool_ltF, -onBool_eqT, -onBool_eqF, e0, e1, e5]
    (with_reducible first | refine onBoolT (fun h6 => ?_) (fun h6 => ?_) | refine onBoolF (fun h6 => ?_) (fun h6 => ?_))
    · simp only [ltB_true, ltB_false, leB_true, leB_false, eqB_true, eqB_false, Bool.not_true, Bool.not_false] at h6
      have hd1 := List.drop_eq_getElem_cons (l := a) (i := i) (by omega)
      have hd2 := List.drop_eq_getElem_cons (l := b) (i := i) (by omega)
      have hq2 : q = (a[i]'(by omega) == b[i]'(by omega) && (a.drop (i + 1) == b.drop (i + 1))) := by rw [hj, hd1, hd2]; rfl
      clear hd1 hd2 hj
      simp (disch := omega) [-onBool_some, -onBool_leT, -onBool_leF, -onBool_ltT, -onBool_ltF, -onBool_eqT, -onBool_eqF, e0, e1, e5, idx_L]
      repeat' (first
    | (with_reducible (first | refine onBoolT (fun hb_ => ?_) (fun hb_ => ?_) | refine onBoolF (fun hb_ => ?_) (fun hb_ => ?_)) <;> simp (disch := omega) [-onBool_some, -onBool_leT, -onBool_leF, -onBool_ltT, -onBool_ltF, -onBool_eqT, -onBool_eqF, hb_, e0, e1, e5, i64_wrap])
    | simp (disch := omega) [-onBool_some, -onBool_leT, -onBool_leF, -onBool_ltT, -onBool_ltF, -onBool_eqT, -onBool_eqF, e0, e1, e5, i64_wrap])
      all_goals simp only [ltB_true, ltB_false, leB_true, leB_false, eqB_true, eqB_false, Bool.not_true, Bool.not_false] at hb_
      · exact ⟨by omega, by simp [hq2, hb_]⟩
      · simp [hq2, hb_]
    · simp only [ltB_true, ltB_false, leB_true, leB_false, eqB_true, eqB_false, Bool.not_true, Bool.not_false] at h6
      simp (disch := omega) [-onBool_some, -onBool_leT, -onBool_leF, -onBool_ltT, -onBool_ltF, -onBool_eqT, -onBool_eqF]
      rw [hj, List.drop_of_length_le (by omega), List.drop_of_length_le (by omega)]; simp
  · simp (disch := omega) [-onBool_some, -onBool_leT, -onBool_leF, -onBool_ltT, -onBool_ltF, -onBool_eqT, -onBool_eqF, h1]
    simp only [ltB_true, ltB_false, leB_true, leB_false, eqB_true, eqB_false, Bool.not_true, Bool.not_false] at h1
    rw [← hq]; simp; intro h; exact h1 (by rw [h])
def btw (lo hi : Int) (x : Int) : Bool := leB lo x && leB x hi
theorem between_ok (nl : Bool) (l : List Int) (lo hi : Int) (hl : l.length ≤ 1099511627776) : Gives Try.prog n_laws_between [L nl l, N lo, N hi] (· = N (l.countP (btw lo hi))) := by
  refine Gives.of_codeOf c_laws_between mixed (by simp) ⟨_, rfl, by simp⟩ ?_
  simp (disch := omega) [-onBool_some, -onBool_leT, -onBool_leF, -onBool_ltT, -onBool_ltF, -onBool_eqT, -onBool_eqF, k_laws_between]
  refine wpC_forM l.length 0 (fun i t _ => t 8 = N i ∧ t 7 = N ((l.take i).countP (btw lo hi))) (fun t _ => t 7 = N (l.countP (btw lo hi))) (by simp) (by omega) ?_ ?_
  · rintro i t1 hh hf hi' ⟨e8, e7⟩
    (have e0 := hf 0 (by kernel_rfl); have e1 := hf 1 (by kernel_rfl); have e2 := hf 2 (by kernel_rfl); clear hf; simp [] at e0 e1 e2)
    have hc := List.countP_le_length (p := btw lo hi) (l := l.take i)
    simp at hc
    by_cases h1 : i < l.length
    · have hb : ltB (i : Int) l.length = true := by rw [ltB_true]; omega
      have hs : (l.take (i + 1)).countP (btw lo hi) = (l.take i).countP (btw lo hi) + (if btw lo hi l[i] = true then 1 else 0) := by
        rw [List.take_succ_eq_append_getElem h1, List.countP_append]; simp [List.countP_cons]
      have hx : l.getD i 0 = l[i] := by simp [List.getD_eq_getElem?_getD, h1]
      simp (disch := omega) [-onBool_some, -onBool_leT, -onBool_leF, -onBool_ltT, -onBool_ltF, -onBool_eqT, -onBool_eqF, e0, e1, e2, e7, e8, hb, idx_L l false nl i (by omega) (by omega)]
      repeat' (first
    | (with_reducible (first | refine onBoolT (fun hb_ => ?_) (fun hb_ => ?_) | refine onBoolF (fun hb_ => ?_) (fun hb_ => ?_)) <;> simp (disch := omega) [-onBool_some, -onBool_leT, -onBool_leF, -onBool_ltT, -onBool_ltF, -onBool_eqT, -onBool_eqF, hb_, e0, e1, e2, e7, e8, hb, i64_wrap, idx_L l false nl i (by omega) (by omega)])
    | simp (disch := omega) [-onBool_some, -onBool_leT, -onBool_leF, -onBool_ltT, -onBool_ltF, -onBool_eqT, -onBool_eqF, e0, e1, e2, e7, e8, hb, i64_wrap, idx_L l false nl i (by omega) (by omega)])
      all_goals refine ⟨h1, ?_⟩
      all_goals rw [hs]
      all_goals simp_all [btw]
    · have hb : ltB (i : Int) l.length = false := by rw [ltB_false]; omega
      simp (disch := omega) [-onBool_some, -onBool_leT, -onBool_leF, -onBool_ltT, -onBool_ltF, -onBool_eqT, -onBool_eqF, e0, e1, e2, e7, e8, hb]
      rw [List.take_of_length_le (by omega)]
  · rintro t1 hh hf e7
    simp (disch := omega) [-onBool_some, -onBool_leT, -onBool_leF, -onBool_ltT, -onBool_ltF, -onBool_eqT, -onBool_eqF, e7]
end Go.Proofs.Yticcekapikfhaaa
