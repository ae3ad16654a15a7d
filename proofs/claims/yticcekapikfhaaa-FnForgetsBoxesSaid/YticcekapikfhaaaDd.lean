/- Types that are drawn. No conditions. -/
import Derived.Test.YticcekapikfhaaaDc
import Derived.Test.YticcekapikfhaaaGd
import Derived.Test.YticcekapikfhaaaTr
namespace Go.Proofs.Yticcekapikfhaaa
open Go Go.TL
open Go.Proofs.Yticcekapikfhaaa.Ty
set_option linter.unusedSimpArgs false
set_option linter.unusedVariables false
set_option linter.unusedSectionVars false
set_option maxRecDepth 20000
set_option maxHeartbeats 4000000

theorem app_ints {l r : List Int} {u nl : Bool} (h : l.length + r.length ≤ 1099511627776) : appLV 1 (OU true false l) (OU u nl r) = some (OU true false (l ++ r)) := by
  simp only [appLV]
  rw [if_pos ⟨.inl trivial, .inl trivial, .inl trivial, by simp only [List.length_map]; exact h⟩]
  simp only [Bool.true_or, Bool.false_and]
  rw [OU, List.map_append]
def gluedTo (c : Int) (ctx : GCtx) (k : Nat) : List Int := c :: ((ctx.take k).map (·.2)).flatten
theorem glued_step (c : Int) (ctx : GCtx) (k : Nat) (h : k < ctx.length) : gluedTo c ctx (k + 1) = gluedTo c ctx k ++ ctx[k].2 := by
  rw [gluedTo, gluedTo, List.take_succ_eq_append_getElem h, List.map_append, List.flatten_append, List.cons_append]
  simp only [List.map_cons, List.map_nil, List.flatten_cons, List.flatten_nil, List.append_nil]
theorem glued_len (c : Int) (ctx : GCtx) (k : Nat) (h : k ≤ ctx.length) : (gluedTo c ctx k).length ≤ 1 + cws ctx := by
  have key : ∀ (ctx : GCtx), ((ctx.map (·.2)).flatten).length = cws ctx := by
    intro ctx
    induction ctx with
    | nil => simp [cws]
    | cons a l ih => simp [cws, ih]
  have h2 : ∀ (ctx : GCtx) (k : Nat), cws (ctx.take k) ≤ cws ctx := by
    intro ctx
    induction ctx with
    | nil => intro k; simp
    | cons a l ih => intro k; cases k with
      | zero => simp [cws]
      | succ k => simp [cws]; exact ih k
  simp only [gluedTo, List.length_cons, key]
  have := h2 ctx k
  omega
theorem l3Glue_ok (c : Int) (nl : Bool) (ctx : GCtx) (hw : ctx.length ≤ 1000000) (hl : cws ctx ≤ 1000000000) : Gives Try.prog n_spec_l3Glue [N c, LC nl ctx] (· = OU true false (c :: (ctx.map (·.2)).flatten)) := by
  obtain ⟨z, hz⟩ : ∃ z, c :: (ctx.map (·.2)).flatten = z := ⟨_, rfl⟩
  rw [hz]
  refine Gives.of_codeOf c_spec_l3Glue mixed (by simp) ⟨_, rfl, by simp⟩ ?_
  simp (disch := omega) [-onBool_some, -onBool_leT, -onBool_leF, -onBool_ltT, -onBool_ltF, -onBool_eqT, -onBool_eqF, k_spec_l3Glue]
  refine wpC_forM ctx.length 0 (fun i t _ => t 6 = N i ∧ t 5 = OU true false (gluedTo c ctx i)) (fun t _ => t 5 = OU true false z) (by simp [gluedTo]) (by omega) ?_ ?_
  · rintro i t1 hh hf hi ⟨e6, e5⟩
    (have e1 := hf 1 (by kernel_rfl); clear hf; simp [] at e1)
    simp (disch := omega) [-onBool_some, -onBool_leT, -onBool_leF, -onBool_ltT, -onBool_ltF, -onBool_eqT, -onBool_eqF, e1, e5, e6]
    (with_reducible first | refine onBoolT (fun h1 => ?_) (fun h1 => ?_) | refine onBoolF (fun h1 => ?_) (fun h1 => ?_))
    · simp only [ltB_true, ltB_false, leB_true, leB_false, eqB_true, eqB_false, Bool.not_true, Bool.not_false] at h1
      simp (disch := omega) [-onBool_some, -onBool_leT, -onBool_leF, -onBool_ltT, -onBool_ltF, -onBool_eqT, -onBool_eqF, e1, e5, e6, idx_C]
      have hm := cws_mem (List.getElem_mem (show i < ctx.length by omega))
      have hg := glued_len c ctx i (by omega)
      rw [app_ints (by omega), ← glued_step c ctx i (by omega)]
      simp (disch := omega) [-onBool_some, -onBool_leT, -onBool_leF, -onBool_ltT, -onBool_ltF, -onBool_eqT, -onBool_eqF, e1, e5, e6, i64_wrap]
      omega
    · simp only [ltB_true, ltB_false, leB_true, leB_false, eqB_true, eqB_false, Bool.not_true, Bool.not_false] at h1
      simp (disch := omega) [-onBool_some, -onBool_leT, -onBool_leF, -onBool_ltT, -onBool_ltF, -onBool_eqT, -onBool_eqF, e5]
      rw [show i = ctx.length by omega, ← hz]; simp [gluedTo]
  · rintro t1 hh hf e5
    simp (disch := omega) [-onBool_some, -onBool_leT, -onBool_leF, -onBool_ltT, -onBool_ltF, -onBool_eqT, -onBool_eqF, e5]
theorem l3Glue1_ok (c : Int) (nl n1 : Bool) (a : List Int) (hl : a.length ≤ 100000) : Gives Try.prog n_spec_l3Glue [N c, .sl false nl 1 [[L n1 a]]] (· = OU true false (c :: a)) := by
  have := l3Glue_ok c nl [(n1, a)] (by simp) (by simp [cws]; omega)
  simp only [List.map_cons, List.map_nil, List.flatten_cons, List.flatten_nil, List.append_nil] at this
  exact this
theorem l3Glue2_ok (c : Int) (nl n1 n2 : Bool) (a b : List Int) (ha : a.length ≤ 100000) (hb : b.length ≤ 100000) : Gives Try.prog n_spec_l3Glue [N c, .sl false nl 1 [[L n1 a], [L n2 b]]] (· = OU true false (c :: (a ++ b))) := by
  have := l3Glue_ok c nl [(n1, a), (n2, b)] (by simp) (by simp [cws]; omega)
  simp only [List.map_cons, List.map_nil, List.flatten_cons, List.flatten_nil, List.append_nil] at this
  exact this
mutual
/-- a type of a system: its grades are below size; data: it has no arrow -/
def RT.gr (size : Int) (data : Bool) : RT → Prop
  | .nd c ks => okC size true c = true ∧ (data = true → isArrow c = false) ∧ grs size data ks
def grs (size : Int) (data : Bool) : List RT → Prop
  | [] => True
  | t :: ts => RT.gr size data t ∧ grs size data ts
end
/-- a list is a type of a system, of so many codes at most -/
def TyIn (size : Int) (data : Bool) (n : Nat) (l : List Int) : Prop := ∃ t : RT, t.ok ∧ RT.gr size data t ∧ l = t.flat ∧ l.length ≤ n
theorem okC_arrow {size g : Int} (h0 : 0 ≤ g) (h1 : g < size) (h2 : size ≤ 16) : kidsN (3 + g) = some 2 ∧ okC size true (3 + g) = true ∧ isArrow (3 + g) = true := by
  have ha : isArrow (3 + g) = true := by simp [isArrow]; omega
  have hk : kidsN (3 + g) = some 2 := by unfold kidsN; rw [if_neg (by omega), if_pos (.inr (.inr ha))]
  have hg : gradeI (3 + g) = g := by unfold gradeI; rw [if_neg (by omega), if_neg (by omega)]; omega
  refine ⟨hk, ?_, ha⟩
  simp [okC, hg, ltB, leB, h1, h0]
theorem okC_box {size g : Int} (h0 : 0 ≤ g) (h1 : g < size) (h2 : size ≤ 16) : kidsN (19 + g) = some 1 ∧ okC size true (19 + g) = true ∧ isArrow (19 + g) = false := by
  have ha : isArrow (19 + g) = false := by simp [isArrow]; omega
  have hb : isBox (19 + g) = true := by simp [isBox]; omega
  have hk : kidsN (19 + g) = some 1 := by unfold kidsN; rw [if_neg (by omega), if_neg (by rintro (h | h | h); omega; omega; rw [ha] at h; simp at h), if_pos hb]
  have hg : gradeI (19 + g) = g := by unfold gradeI; rw [if_neg (by omega), if_pos (by omega)]; omega
  refine ⟨hk, ?_, ha⟩
  simp [okC, hg, ltB, leB, h1, h0]
theorem tyIn_num {size : Int} {data : Bool} {n : Nat} (hn : 1 ≤ n) : TyIn size data n [0] :=
  ⟨.nd 0 [], by simp [RT.ok, kidsN, oks], by simp [RT.gr, grs, okC, isArrow, isBox], by simp [RT.flat, flats], by simpa using hn⟩
theorem tyIn_one {size c : Int} {data : Bool} {n m : Nat} {a : List Int} (ha : TyIn size data n a) (hk : kidsN c = some 1) (ho : okC size true c = true) (hd : data = true → isArrow c = false) (hm : n + 1 ≤ m) : TyIn size data m (c :: a) := by
  obtain ⟨t, h1, h2, rfl, h4⟩ := ha
  exact ⟨.nd c [t], by simp [RT.ok, oks, hk, h1], by simp only [RT.gr, grs]; exact ⟨ho, hd, h2, trivial⟩, by simp [RT.flat, flats], by simp; omega⟩
theorem tyIn_two {size c : Int} {data : Bool} {n k m : Nat} {a b : List Int} (ha : TyIn size data n a) (hb : TyIn size data k b) (hk : kidsN c = some 2) (ho : okC size true c = true) (hd : data = true → isArrow c = false) (hm : n + k + 1 ≤ m) : TyIn size data m (c :: (a ++ b)) := by
  obtain ⟨t, h1, h2, rfl, h4⟩ := ha
  obtain ⟨u, g1, g2, rfl, g4⟩ := hb
  exact ⟨.nd c [t, u], by simp [RT.ok, oks, hk, h1, g1], by simp only [RT.gr, grs]; exact ⟨ho, hd, h2, g2, trivial⟩, by simp [RT.flat, flats], by simp; omega⟩
theorem kids12 : kidsN 1 = some 2 ∧ kidsN 2 = some 2 := by decide
theorem okC12 (size : Int) : okC size true 1 = true ∧ okC size true 2 = true ∧ isArrow 1 = false ∧ isArrow 2 = false := by simp [okC, isArrow, isBox]
section
variable (D : Dr) (ok : D.ok)
include ok
theorem dType_ok (s : GSys) (hs : 1 ≤ s.size ∧ s.size ≤ 16) (data : Bool) : ∀ deep : Nat, deep ≤ 12 → FCalls Try.prog D n_spec_dType [s.lv, N deep, B data] (fun r => ∃ l, r = OU true false l ∧ TyIn s.size data (2 ^ (deep + 1) - 1) l) := by
  intro deep
  induction deep with
  | zero =>
    intro _
    refine FCalls.of_codeOf c_spec_dType mixed (by simp) ⟨_, [0], rfl, tyIn_num (by simp)⟩ ?_
    intro h1 h3 ct i k hct hk
    simp (disch := omega) [-onBool_some, -onBool_leT, -onBool_leF, -onBool_ltT, -onBool_ltF, -onBool_eqT, -onBool_eqF, k_spec_dType, boxLV, frzLV]
    refine onCall_cur (l1Below_ok D ok 6 (by unfold I64; omega)) hct hk ?_
    rintro r i1 k1 hk1 ⟨m, rfl, hm0, hm1, _⟩
    repeat' (first
    | (with_reducible (first | refine onBoolT (fun hb_ => ?_) (fun hb_ => ?_) | refine onBoolF (fun hb_ => ?_) (fun hb_ => ?_)) <;> simp (disch := omega) [-onBool_some, -onBool_leT, -onBool_leF, -onBool_ltT, -onBool_ltF, -onBool_eqT, -onBool_eqF, hb_, i64_wrap])
    | simp (disch := omega) [-onBool_some, -onBool_leT, -onBool_leF, -onBool_ltT, -onBool_ltF, -onBool_eqT, -onBool_eqF, i64_wrap])
    all_goals (first | refine postC_tmp (.inr rfl) rfl ?_ (by simp) ?_ | refine postC_tmpE (.inr rfl) rfl ?_ (by simp) ?_)
    all_goals first | exact hk1 | exact ⟨[0], by simp, tyIn_num (by simp)⟩
  | succ deep ih =>
    intro hd
    have ih := ih (by omega)
    have hp : 1 ≤ 2 ^ (deep + 1) := Nat.one_le_two_pow
    have hp2 : 2 ^ (deep + 1 + 1) = 2 * 2 ^ (deep + 1) := by rw [Nat.pow_succ]; omega
    have hp3 : 2 ^ (deep + 1) ≤ 2 ^ 13 := Nat.pow_le_pow_right (by omega) (by omega)
    refine FCalls.of_codeOf c_spec_dType mixed (by simp) ⟨_, [0], rfl, tyIn_num (by omega)⟩ ?_
    intro h1 h3 ct i k hct hk
    have hsI : I64 s.size := by unfold I64; omega
    have glen : ∀ {l : List Int}, TyIn s.size data (2 ^ (deep + 1) - 1) l → l.length ≤ 100000 := fun h => by obtain ⟨_, _, _, _, h⟩ := h; omega
    have num : ∃ l, OU true false [0] = OU true false l ∧ TyIn s.size data (2 ^ (deep + 1 + 1) - 1) l := ⟨[0], rfl, tyIn_num (by omega)⟩
    simp (disch := omega) [-onBool_some, -onBool_leT, -onBool_leF, -onBool_ltT, -onBool_ltF, -onBool_eqT, -onBool_eqF, k_spec_dType, boxLV, frzLV]
    refine onCall_cur (l1Below_ok D ok 6 (by unfold I64; omega)) hct hk ?_
    rintro r i1 k1 hk1 ⟨m, rfl, hm0, hm1, _⟩
    cases data
    all_goals
      repeat' (first
    | (with_reducible (first | refine onBoolT (fun hb_ => ?_) (fun hb_ => ?_) | refine onBoolF (fun hb_ => ?_) (fun hb_ => ?_)) <;> simp (disch := omega) [-onBool_some, -onBool_leT, -onBool_leF, -onBool_ltT, -onBool_ltF, -onBool_eqT, -onBool_eqF, hb_, i64_wrap])
    | simp (disch := omega) [-onBool_some, -onBool_leT, -onBool_leF, -onBool_ltT, -onBool_ltF, -onBool_eqT, -onBool_eqF, i64_wrap])
      · (first | refine postC_tmp (.inr rfl) rfl ?_ (by simp) ?_ | refine postC_tmpE (.inr rfl) rfl ?_ (by simp) ?_)
        · exact hk1
        · exact num
      · (first | refine postC_tmp (.inr rfl) rfl ?_ (by simp) ?_ | refine postC_tmpE (.inr rfl) rfl ?_ (by simp) ?_)
        · exact hk1
        · exact num
      · refine onCall_cur ih hct hk1 ?_
        rintro r i2 k2 hk2 ⟨l, rfl, hl⟩
        have ll := glen hl
        repeat' (first
    | (with_reducible (first | refine onBoolT (fun hb_ => ?_) (fun hb_ => ?_) | refine onBoolF (fun hb_ => ?_) (fun hb_ => ?_)) <;> simp (disch := omega) [-onBool_some, -onBool_leT, -onBool_leF, -onBool_ltT, -onBool_ltF, -onBool_eqT, -onBool_eqF, hb_, i64_wrap])
    | simp (disch := omega) [-onBool_some, -onBool_leT, -onBool_leF, -onBool_ltT, -onBool_ltF, -onBool_eqT, -onBool_eqF, i64_wrap])
        · -- a box
          refine onCall_cur (l1Below_ok D ok s.size hsI) hct hk2 ?_
          rintro r i3 k3 hk3 ⟨g, rfl, hg0, hg1, _⟩
          have hg := hg1 (by omega)
          obtain ⟨q1, q2, q3⟩ := okC_box hg0 hg hs.2
          simp (disch := omega) [-onBool_some, -onBool_leT, -onBool_leF, -onBool_ltT, -onBool_ltF, -onBool_eqT, -onBool_eqF, i64_wrap]
          refine onCall_eq (l3Glue1_ok _ _ _ _ ll) (by simp) ?_
          simp (disch := omega) [-onBool_some, -onBool_leT, -onBool_leF, -onBool_ltT, -onBool_ltF, -onBool_eqT, -onBool_eqF, i64_wrap]
          (first | refine postC_tmp (.inr rfl) rfl ?_ (by simp) ?_ | refine postC_tmpE (.inr rfl) rfl ?_ (by simp) ?_)
          · exact hk3
          · exact ⟨(19 + g) :: l, by simp, tyIn_one hl q1 q2 (fun _ => q3) (by omega)⟩
        all_goals first
          | (refine onCall_cur (l1Below_ok D ok s.size hsI) hct hk2 ?_
             rintro r i3 k3 hk3 ⟨g, rfl, hg0, hg1, _⟩
             have hg := hg1 (by omega)
             obtain ⟨q1, q2, q3⟩ := okC_arrow hg0 hg hs.2
             simp (disch := omega) [-onBool_some, -onBool_leT, -onBool_leF, -onBool_ltT, -onBool_ltF, -onBool_eqT, -onBool_eqF, i64_wrap]
             refine onCall_cur ih hct hk3 ?_
             rintro r i4 k4 hk4 ⟨l2, rfl, hl2⟩
             have ll2 := glen hl2
             simp (disch := omega) [-onBool_some, -onBool_leT, -onBool_leF, -onBool_ltT, -onBool_ltF, -onBool_eqT, -onBool_eqF, i64_wrap]
             refine onCall_eq (l3Glue2_ok _ _ _ _ _ _ ll ll2) (by simp) ?_
             simp (disch := omega) [-onBool_some, -onBool_leT, -onBool_leF, -onBool_ltT, -onBool_ltF, -onBool_eqT, -onBool_eqF, i64_wrap]
             (first | refine postC_tmp (.inr rfl) rfl ?_ (by simp) ?_ | refine postC_tmpE (.inr rfl) rfl ?_ (by simp) ?_)
             · exact hk4
             · exact ⟨(3 + g) :: (l ++ l2), by simp, tyIn_two hl hl2 q1 q2 (fun h => by simp at h) (by omega)⟩)
          | (refine onCall_cur ih hct hk2 ?_
             rintro r i4 k4 hk4 ⟨l2, rfl, hl2⟩
             have ll2 := glen hl2
             simp (disch := omega) [-onBool_some, -onBool_leT, -onBool_leF, -onBool_ltT, -onBool_ltF, -onBool_eqT, -onBool_eqF, i64_wrap]
             refine onCall_eq (l3Glue2_ok _ _ _ _ _ _ ll ll2) (by simp) ?_
             simp (disch := omega) [-onBool_some, -onBool_leT, -onBool_leF, -onBool_ltT, -onBool_ltF, -onBool_eqT, -onBool_eqF, i64_wrap]
             (first | refine postC_tmp (.inr rfl) rfl ?_ (by simp) ?_ | refine postC_tmpE (.inr rfl) rfl ?_ (by simp) ?_)
             · exact hk4
             · first
                 | (refine ⟨2 :: (l ++ l2), ?_, tyIn_two hl hl2 kids12.2 (okC12 _).2.1 (fun _ => (okC12 s.size).2.2.2) (by omega)⟩; simp; done)
                 | (refine ⟨1 :: (l ++ l2), ?_, tyIn_two hl hl2 kids12.1 (okC12 _).1 (fun _ => (okC12 s.size).2.2.1) (by omega)⟩; simp; done))
end
end Go.Proofs.Yticcekapikfhaaa
