/- What the law of NewSession tells. No conditions. -/
import Derived.Test.YticcekapikfhaaaGr
namespace Go.Proofs.Yticcekapikfhaaa
open Go Go.TL
set_option linter.unusedSimpArgs false
set_option linter.unusedVariables false
set_option linter.unusedSectionVars false
set_option maxRecDepth 20000
set_option maxHeartbeats 4000000

theorem share_new : share newSes = newShared := by
  have e1 : OI nP = OU true false nP := by rw [OI, nP_e]
  have e2 : OI nT = OU true false nT := by rw [OI, nT_e]
  have e3 : OBl nB = OB true false nB := by rw [OBl, nB_e]
  rw [newSes, e1, e2, e3]
  simp
theorem view_at {h h1 bs h2 : List Box} {t y : LV} (hw : Whole t) (ht : Th t h1.length y bs) (he : h = h1 ++ bs ++ h2) : View h (share t) y :=
  Th.view h _ y _ bs hw ht fun i b hi => by
    rw [he, List.append_assoc, List.getElem?_append_right (by omega), Nat.add_sub_cancel_left, List.getElem?_append_left]
    · exact hi
    · rcases Nat.lt_or_ge i bs.length with g | g
      · exact g
      · rw [List.getElem?_eq_none g] at hi; simp at hi
/-- the first session, its cells marked -/
def markedSes : LV := .agg [N 3, OU true false (marksF mI 1 9), OU true false (marksF mI 10 9), OB true false (marksF mB 19 9), .sl false true 1 [], N 1, N 0, .sl false true 1 [], .sl false true 1 []]
theorem whole_marked : Whole markedSes := by
  have w1 := whole_sc (fun n : Int => Value.int .i64 n) true false (marksF mI 1 9) (.inr ⟨rfl, rfl⟩)
  have w2 := whole_sc (fun n : Int => Value.int .i64 n) true false (marksF mI 10 9) (.inr ⟨rfl, rfl⟩)
  have w3 := whole_sc (fun n : Bool => Value.bool n) true false (marksF mB 19 9) (.inr ⟨rfl, rfl⟩)
  simp only [markedSes, Whole, WholeAll, WholeRow] at w1 w2 w3 ⊢
  exact ⟨trivial, w1, w2, w3, ⟨.inl trivial, trivial⟩, trivial, trivial, ⟨.inl trivial, trivial⟩, ⟨.inl trivial, trivial⟩, trivial⟩
theorem th_ses {p q r : LV} {n : Nat} {y1 y2 y3 : LV} {b1 b2 b3 : List Box} (t1 : Th p n y1 b1) (t2 : Th q (n + b1.length) y2 b2) (t3 : Th r (n + b1.length + b2.length) y3 b3) :
    Th (.agg [N 3, p, q, r, .sl false true 1 [], N 1, N 0, .sl false true 1 [], .sl false true 1 []]) n (.agg [N 3, y1, y2, y3, .sl false true 1 [], N 1, N 0, .sl false true 1 [], .sl false true 1 []]) (b1 ++ (b2 ++ b3)) := by
  simp only [Th, ThAll]
  refine ⟨_, rfl, N 3, [], _, _, ⟨rfl, rfl⟩, ⟨y1, b1, _, b2 ++ b3, by simpa using t1, ⟨y2, b2, _, b3, by simpa using t2, ⟨y3, b3, _, [], by simpa using t3, ⟨_, [], _, [], .inl ⟨trivial, rfl, rfl⟩, ⟨N 1, [], _, [], ⟨rfl, rfl⟩, ⟨N 0, [], _, [], ⟨rfl, rfl⟩, ⟨_, [], _, [], .inl ⟨trivial, rfl, rfl⟩, ⟨_, [], _, [], .inl ⟨trivial, rfl, rfl⟩, ⟨rfl, rfl⟩, rfl, rfl⟩, rfl, rfl⟩, rfl, rfl⟩, rfl, rfl⟩, rfl, rfl⟩, rfl, by simp⟩, rfl, rfl⟩, rfl, rfl⟩, rfl, by simp⟩
theorem lawNewSession : Gives Try.prog n_laws_FnExactNewSession [] (· = B true) := by
  refine Gives.of_codeOf c_laws_FnExactNewSession mixed (by simp) ⟨_, rfl, by simp⟩ ?_
  have whB : ∀ b : Bool, ∀ r, r = B b → Whole r := by rintro b r rfl; simp [Whole]
  have whN : ∀ b : Int, ∀ r, r = N b → Whole r := by rintro b r rfl; simp [Whole]
  simp (disch := omega) [-onBool_some, -onBool_leT, -onBool_leF, -onBool_ltT, -onBool_ltF, -onBool_eqT, -onBool_eqF, k_laws_FnExactNewSession]
  refine onCall_thaw specNewSession_ok viewAll_nil (by rintro r rfl; exact whole_new) fun tw yw bw e hw => ?_
  subst e
  obtain ⟨w1, w2, w3, c1, c2, c3, rfl, hbw, tw1, tw2, tw3⟩ := th_new hw
  have s1 := Th.share _ _ _ _ tw1
  have s2 := Th.share _ _ _ _ tw2
  have s3 := Th.share _ _ _ _ tw3
  have as1 := Th.alive _ _ _ _ tw1
  have as2 := Th.alive _ _ _ _ tw2
  have as3 := Th.alive _ _ _ _ tw3
  have hw0 : Th newSes ([] : List Box).length (.agg [N 3, w1, w2, w3, .sl false true 1 [], N 1, N 0, .sl false true 1 [], .sl false true 1 []]) bw := hw
  clear hw hbw tw1 tw2 tw3
  simp (disch := omega) [-onBool_some, -onBool_leT, -onBool_leF, -onBool_ltT, -onBool_ltF, -onBool_eqT, -onBool_eqF, s1, s2, s3]
  refine onCall_thaw implNewSession_ok viewAll_nil (by rintro r rfl; exact whole_new) fun tg yg bg e hg => ?_
  subst e
  have hg0 : ∀ W, Th newSes (bw ++ [some W]).length yg bg := by intro W; simpa using hg
  clear hg
  obtain ⟨g1, g2, g3, d1, d2, d3, rfl, rfl, tg1, tg2, tg3⟩ := th_new (hg0 [])
  have q1 := Th.share _ _ _ _ tg1
  have q2 := Th.share _ _ _ _ tg2
  have q3 := Th.share _ _ _ _ tg3
  have aq1 := Th.alive _ _ _ _ tg1
  have aq2 := Th.alive _ _ _ _ tg2
  have aq3 := Th.alive _ _ _ _ tg3
  have vw := fun h2 h (he : h = bw ++ h2) => view_at (h := h) (h2 := h2) whole_new hw0 (by simpa using he)
  have vg := fun W h2 h (he : h = bw ++ some W :: (d1 ++ (d2 ++ d3) ++ h2)) => view_at (h := h) (h2 := h2) whole_new (hg0 W) (by simpa using he)
  rw [share_new] at vw vg
  simp only [List.length_append, List.length_cons, List.length_nil] at tg1 tg2 tg3
  clear hg0 hw0
  obtain ⟨G, hG⟩ : ∃ G, d1 ++ (d2 ++ d3) = G := ⟨_, rfl⟩
  rw [hG] at vg ⊢
  simp (disch := omega) [-onBool_some, -onBool_leT, -onBool_leF, -onBool_ltT, -onBool_ltF, -onBool_eqT, -onBool_eqF, s1, s2, s3, q1, q2, q3, as1, as2, as3, aq1, aq2, aq3]
  refine onCall_lend eqSession_new ?_ (whB _) ?_
  · exact viewAll_cons (vg _ _ _ rfl) (viewAll_cons (vw _ _ rfl) viewAll_nil)
  rintro r rfl
  simp (disch := omega) [-onBool_some, -onBool_leT, -onBool_leF, -onBool_ltT, -onBool_ltF, -onBool_eqT, -onBool_eqF, s1, s2, s3, q1, q2, q3, as1, as2, as3, aq1, aq2, aq3]
  have mk := fun (h1 h2 : List Box) (hl : h1.length = bw.length + 1) => markSession_ok true false true false true false true true true 3 1 0 nP nT nB 1 (by rw [tabL_len, tabL_len, tabL_len]; omega) h1 h2 g1 g2 g3 d1 d2 d3 (by rw [hl]; exact tg1) (by rw [List.length_append, hl]; exact tg2) (by rw [List.length_append, List.length_append, hl]; exact tg3)
  have lP : nP.length = 9 := by rw [tabL_len]
  have lT : nT.length = 9 := by rw [tabL_len]
  have lB : nB.length = 9 := by rw [tabL_len]
  rw [lP, lT, lB] at mk
  have mk2 := fun (W : Box) (h2 : List Box) => mk (bw ++ [W]) h2 (by simp)
  simp only [List.append_assoc, List.cons_append, List.nil_append] at mk2
  refine onCall_any (by rw [← hG]; simpa only [List.append_assoc] using mk2 _ _) ?_
  rintro r h' ⟨rfl, e1, e2, e3, l1, l2, l3, te1, te2, te3, ex, rfl⟩
  simp only [List.length_append, List.length_cons, List.length_nil] at te1 te2 te3
  have n1 : (bw ++ [(none : Box)]).length + e1.length = bw.length + (e1.length + 1) := by simp; omega
  have n2 : (bw ++ [(none : Box)]).length + e1.length + e2.length = bw.length + (e1.length + e2.length + 1) := by simp; omega
  have tm := th_ses (n := (bw ++ [(none : Box)]).length) (by simpa using te1) (by rw [n1]; exact te2) (by rw [n2]; exact te3)
  obtain ⟨G', hG'⟩ : ∃ G', e1 ++ (e2 ++ e3) = G' := ⟨_, rfl⟩
  have hG2 : ∀ X, e1 ++ (e2 ++ (e3 ++ X)) = G' ++ X := by intro X; rw [← hG']; simp
  have hl : G.length = G'.length := by rw [← hG, ← hG']; simp; omega
  have vm := fun (W : Box) (h2 h : List Box) (he : h = bw ++ W :: (G' ++ h2)) => view_at (h := h) (h1 := bw ++ [W]) (h2 := h2) (bs := G') whole_marked (by rw [← hG']; simpa [markedSes] using tm) (by simpa using he)
  rw [show share markedSes = .agg [N 3, L false (marksF mI 1 9), L false (marksF mI (1 + (9 : Nat)) 9), LB false (marksF mB (1 + (9 : Nat) + (9 : Nat)) 9), .sl false true 1 [], N 1, N 0, .sl false true 1 [], .sl false true 1 []] by simp [markedSes]] at vm
  clear mk mk2 tm te1 te2 te3 vg tg1 tg2 tg3
  have held := heldSession_ok false false false true true true 3 1 0 9 9 9 1 (by omega)
  rw [hG2, hl]
  simp (disch := omega) [-onBool_some, -onBool_leT, -onBool_leF, -onBool_ltT, -onBool_ltF, -onBool_eqT, -onBool_eqF, s1, s2, s3, q1, q2, q3, as1, as2, as3, aq1, aq2, aq3]
  refine onCall_lend held ?_ (whN _) ?_
  · exact viewAll_cons (vm _ _ _ rfl) (viewAll_cons view_sc viewAll_nil)
  rintro r rfl
  simp (disch := omega) [-onBool_some, -onBool_leT, -onBool_leF, -onBool_ltT, -onBool_ltF, -onBool_eqT, -onBool_eqF, s1, s2, s3, q1, q2, q3, as1, as2, as3, aq1, aq2, aq3]
  repeat' (first
    | (with_reducible (first | refine onBoolT (fun hb_ => ?_) (fun hb_ => ?_) | refine onBoolF (fun hb_ => ?_) (fun hb_ => ?_)) <;> simp (disch := omega) [-onBool_some, -onBool_leT, -onBool_leF, -onBool_ltT, -onBool_ltF, -onBool_eqT, -onBool_eqF, hb_, s1, s2, s3, q1, q2, q3, as1, as2, as3, aq1, aq2, aq3])
    | simp (disch := omega) [-onBool_some, -onBool_leT, -onBool_leF, -onBool_ltT, -onBool_ltF, -onBool_eqT, -onBool_eqF, s1, s2, s3, q1, q2, q3, as1, as2, as3, aq1, aq2, aq3])
  · rw [ltB_true] at hb_; omega
  refine onCall_thaw implNewSession_ok viewAll_nil (by rintro r rfl; exact whole_new) fun tk yk bk e hk => ?_
  subst e
  have hk0 : ∀ W W2, Th newSes (bw ++ W :: (G' ++ W2 :: ex)).length yk bk := by intro W W2; simpa using hk
  clear hk
  obtain ⟨k1, k2, k3, o1, o2, o3, rfl, hbk, tk1, tk2, tk3⟩ := th_new (hk0 none none)
  have p1 := Th.share _ _ _ _ tk1
  have p2 := Th.share _ _ _ _ tk2
  have p3 := Th.share _ _ _ _ tk3
  have ap1 := Th.alive _ _ _ _ tk1
  have ap2 := Th.alive _ _ _ _ tk2
  have ap3 := Th.alive _ _ _ _ tk3
  have vk := fun W W2 h2 h (he : h = bw ++ W :: (G' ++ W2 :: (ex ++ (bk ++ h2)))) => view_at (h := h) (h2 := h2) whole_new (hk0 W W2) (by simpa using he)
  rw [share_new] at vk
  clear hk0 hbk tk1 tk2 tk3
  simp (disch := omega) [-onBool_some, -onBool_leT, -onBool_leF, -onBool_ltT, -onBool_ltF, -onBool_eqT, -onBool_eqF, s1, s2, s3, q1, q2, q3, as1, as2, as3, aq1, aq2, aq3, p1, p2, p3, ap1, ap2, ap3]
  refine onCall_lend eqSession_new ?_ (whB _) ?_
  · exact viewAll_cons (vk _ _ _ _ rfl) (viewAll_cons (vw _ _ rfl) viewAll_nil)
  rintro r rfl
  simp (disch := omega) [-onBool_some, -onBool_leT, -onBool_leF, -onBool_ltT, -onBool_ltF, -onBool_eqT, -onBool_eqF, s1, s2, s3, q1, q2, q3, as1, as2, as3, aq1, aq2, aq3, p1, p2, p3, ap1, ap2, ap3]
  refine onCall_lend held ?_ (whN _) ?_
  · exact viewAll_cons (vm _ _ _ rfl) (viewAll_cons view_sc viewAll_nil)
  rintro r rfl
  simp (disch := omega) [-onBool_some, -onBool_leT, -onBool_leF, -onBool_ltT, -onBool_ltF, -onBool_eqT, -onBool_eqF, s1, s2, s3, q1, q2, q3, as1, as2, as3, aq1, aq2, aq3, p1, p2, p3, ap1, ap2, ap3]
  repeat' (first
    | (with_reducible (first | refine onBoolT (fun hb_ => ?_) (fun hb_ => ?_) | refine onBoolF (fun hb_ => ?_) (fun hb_ => ?_)) <;> simp (disch := omega) [-onBool_some, -onBool_leT, -onBool_leF, -onBool_ltT, -onBool_ltF, -onBool_eqT, -onBool_eqF, hb_])
    | simp (disch := omega) [-onBool_some, -onBool_leT, -onBool_leF, -onBool_ltT, -onBool_ltF, -onBool_eqT, -onBool_eqF])
  all_goals (rw [ltB_true] at hb_; omega)
end Go.Proofs.Yticcekapikfhaaa
