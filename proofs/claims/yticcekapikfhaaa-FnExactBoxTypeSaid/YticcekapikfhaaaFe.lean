/- Copies of lists, marks and what holds them. No conditions. -/
import Derived.Test.YticcekapikfhaaaFd
import Derived.Test.YticcekapikfhaaaTLL
namespace Go.Proofs.Yticcekapikfhaaa
open Go Go.TL
set_option linter.unusedSimpArgs false

/-- a list that is owned -/
abbrev OU (u nl : Bool) (l : List Int) : LV := .sl u nl 1 (l.map fun n => [N n])
abbrev O (nl : Bool) (l : List Int) : LV := OU true nl l

/-- the list is copied -/
theorem toInts_ok (nl : Bool) (l : List Int) (hl : l.length ≤ 1099511627776) : Gives Try.prog n_laws_toIntS [L nl l] (· = O false l) := by
  refine Gives.of_codeOf c_laws_toIntS mixed (by simp) ⟨_, rfl, by simp⟩ ?_
  have hm : (l.length : Int) ≤ (most : Nat) := by unfold most; omega
  simp (contextual := true) (disch := omega) [k_laws_toIntS, hm]
  refine wpC_loopI (fun k s => ∃ dn rest, l = dn ++ rest ∧ k = rest.length ∧ s.h = [some (dn.map N ++ List.replicate rest.length (N 0))] ∧ s.t 0 = L nl l ∧ s.t 3 = .ha 0 1 0 l.length l.length ∧ s.t 4 = N dn.length) l.length ?_ ?_
  · exact ⟨[], l, rfl, rfl, by simp⟩
  · rintro k s ⟨dn, rest, e1, hk, g1, g2, g3, g4⟩
    simp (contextual := true) (disch := omega) [g1, g2, g3, g4]
    refine ⟨fun _ h5 => ?_, fun _ h5 => ?_⟩
    · match rest with
      | [] => exfalso; rw [e1] at h5; simp at h5
      | x :: rest =>
        have i1 : idxLV 1 (L nl l) (dn.length : Int) = some (.rp [N x]) := by
          have h7 := idx_map (fun n => [N n]) dn rest x false nl 1
          rw [show shareAll [N x] = [N x] by simp] at h7
          rw [e1]; exact h7
        have i2 : idxLV 1 (.ha 0 1 0 l.length l.length) (dn.length : Int) = some (.ptr 0 dn.length) := by
          rw [idx_ha h5]; simp
        simp (contextual := true) (disch := omega) [i1, i2, g1, g2, g3, g4, i64_wrap]
        refine ⟨rest.length, by simp [hk], dn ++ [x], rest, by simp [e1], rfl, ?_, by simp⟩
        rw [take_done _ _ _ (by simp)]
        have : List.drop (dn.length + 1) (List.map N dn ++ List.replicate (rest.length + 1) (N 0)) = List.replicate rest.length (N 0) := by
          rw [List.replicate_succ, drop_done _ _ _ _ (by simp)]
        rw [this]
        simp
    · have e3 : rest = [] := by
        cases rest with
        | nil => rfl
        | cons u v => exfalso; rw [e1] at h5; simp at h5; omega
      subst e3
      simp at e1
      subst e1
      have hf : frzLV s.h (s.t 3) = some (O false l, [none]) := by
        rw [g1, g3]
        have := frz_ha (h := [some (l.map N ++ List.replicate 0 (N 0))]) (l := 0) (sz := 1) (n := l.length) rfl (by simp)
        simp only [List.replicate_zero, List.append_nil, chunks_map] at this
        simpa using this
      simp [hf, g3]
      simp [g1, frzLV, chunks_map]


/-- the marks from k on -/
def marks (k : Int) : Nat → List Int
  | 0 => []
  | n + 1 => k :: marks (k + 1) n
@[simp] theorem marks_length (k : Int) (n : Nat) : (marks k n).length = n := by
  induction n generalizing k with
  | zero => rfl
  | succ n ih => simp [marks, ih]
theorem marks_snoc (k : Int) (n : Nat) : marks k (n + 1) = marks k n ++ [k + n] := by
  induction n generalizing k with
  | zero => simp [marks]
  | succ n ih =>
    rw [marks, ih]
    simp only [marks, List.cons_append, Int.natCast_add, Int.natCast_one]
    rw [show k + 1 + (n : Int) = k + (n + 1) by omega]
theorem marks_split (k : Int) (a b : Nat) : marks k (a + (b + 1)) = marks k a ++ (k + a) :: marks (k + a + 1) b := by
  induction a generalizing k with
  | zero => simp [marks]
  | succ a ih =>
    rw [show a + 1 + (b + 1) = (a + (b + 1)) + 1 by omega, marks, ih (k + 1)]
    simp only [marks, List.cons_append, Int.natCast_add, Int.natCast_one]
    rw [show k + 1 + (a : Int) = k + (a + 1) by omega]
theorem whole_ints (u nl : Bool) (l : List Int) (h : l = [] ∨ (u = true ∧ nl = false)) : Whole (OU u nl l) := by
  simp only [Whole]
  refine ⟨?_, ?_⟩
  · rcases h with rfl | ⟨rfl, rfl⟩
    · left; rfl
    · right; simp
  · clear h
    induction l with
    | nil => simp [WholeRow]
    | cons x l ih => simp only [List.map_cons, WholeRow, WholeAll, Whole]; exact ⟨⟨trivial, trivial⟩, ih⟩
theorem thRow_ints : ∀ (l : List Int) (n : Nat) (cells : List LV) (bs : List Box), ThRow (l.map fun n => [N n]) 1 n cells bs ↔ cells = l.map N ∧ bs = []
  | [], n, cells, bs => by simp [ThRow]
  | x :: l, n, cells, bs => by
    simp only [List.map_cons, ThRow, ThAll, Th]
    constructor
    · rintro ⟨c1, b1, c2, b2, _, ⟨y, b3, ys', b4, ⟨rfl, rfl⟩, ⟨rfl, rfl⟩, rfl, rfl⟩, h2, rfl, rfl⟩
      obtain ⟨rfl, rfl⟩ := (thRow_ints l _ _ _).1 h2
      simp
    · rintro ⟨rfl, rfl⟩
      exact ⟨[N x], [], l.map N, [], rfl, ⟨N x, [], [], [], ⟨rfl, rfl⟩, ⟨rfl, rfl⟩, rfl, rfl⟩, (thRow_ints l _ _ _).2 ⟨rfl, rfl⟩, rfl, rfl⟩
theorem th_ints {u nl : Bool} {l : List Int} {n : Nat} {y : LV} {bs : List Box} : Th (OU u nl l) n y bs ↔ (l = [] ∧ y = .sl false nl 1 [] ∧ bs = []) ∨
    (nl = false ∧ l ≠ [] ∧ ∃ slack cap, l.length ≤ cap ∧ y = .ha n 1 0 l.length cap ∧ bs = [some (l.map N ++ List.replicate slack .dead)]) := by
  simp only [Th, thRow_ints, List.length_map, List.map_eq_nil_iff]
  constructor
  · rintro (⟨h1, h2, h3⟩ | ⟨h1, h2, cells, bs', slack, cap, ⟨rfl, rfl⟩, h3, h4, h5⟩)
    · exact .inl ⟨h1, h2, h3⟩
    · exact .inr ⟨h1, by simpa using h2, slack, cap, h3, by simpa using h4, by simpa using h5⟩
  · rintro (⟨h1, h2, h3⟩ | ⟨h1, h2, slack, cap, h3, h4, h5⟩)
    · exact .inl ⟨h1, h2, h3⟩
    · exact .inr ⟨h1, by simpa using h2, _, [], slack, cap, ⟨rfl, rfl⟩, h3, by simpa using h4, by simpa using h5⟩

theorem markInts_ok (u nl : Bool) (l : List Int) (k : Int) (hk : 0 ≤ k ∧ k + l.length ≤ 4611686018427387904) (h1 h2 : List Box) (y : LV) (bs : List Box) (ht : Th (OU u nl l) h1.length y bs) :
    LCalls Try.prog n_laws_markIntS [y, N k] (h1 ++ bs ++ h2) (fun r h' => r = N (k + l.length) ∧ ∃ bs', bs'.length = bs.length ∧ Th (OU u nl (marks k l.length)) h1.length y bs' ∧ h' = h1 ++ bs' ++ h2) := by
  rcases th_ints.1 ht with ⟨rfl, rfl, rfl⟩ | ⟨rfl, hne, slack, cap, hcap, rfl, rfl⟩
  · refine LCalls.of_codeOf c_laws_markIntS mixed (by simp) ⟨_, _, rfl, [], rfl, th_ints.2 (.inl ⟨rfl, rfl, rfl⟩), rfl⟩ ?_
    simp (contextual := true) (disch := omega) [k_laws_markIntS]
    refine wpC_loopI (fun k' s => s.h = h1 ++ h2 ∧ s.t 0 = .sl false nl 1 [] ∧ s.t 1 = N k ∧ s.t 5 = N 0) 0 ?_ ?_
    · simp
    · rintro k' s ⟨g1, g2, g3, g4⟩
      simp (contextual := true) (disch := omega) [g1, g2, g3, g4]
      refine post_tmp (.inr rfl) (by simp) ?_
      simp [Th, marks]
  · have hm : (marks k l.length).length = l.length := marks_length k l.length
    refine LCalls.of_codeOf c_laws_markIntS mixed (by simp) ⟨_, _, rfl, [some ((marks k l.length).map N ++ List.replicate slack .dead)], rfl, th_ints.2 (.inr ⟨rfl, by
      intro h; rw [h] at hm; exact hne (List.eq_nil_of_length_eq_zero (by simpa using hm.symm)), slack, cap, by rw [hm]; exact hcap, by rw [hm], rfl⟩), rfl⟩ ?_
    simp (contextual := true) (disch := omega) [k_laws_markIntS]
    refine wpC_loopI (fun k' s => ∃ dn rest, l = dn ++ rest ∧ k' = rest.length ∧ s.h = h1 ++ some ((marks k dn.length).map N ++ (rest.map N ++ List.replicate slack .dead)) :: h2 ∧ s.t 0 = .ha h1.length 1 0 l.length cap ∧ s.t 1 = N (k + dn.length) ∧ s.t 5 = N dn.length) l.length ?_ ?_
    · exact ⟨[], l, rfl, rfl, by simp [marks]⟩
    · rintro k' s ⟨dn, rest, e1, hk', g1, g2, g3, g4⟩
      simp (contextual := true) (disch := omega) [g1, g2, g3, g4]
      refine ⟨fun _ h5 => ?_, fun _ h5 => ?_⟩
      · match rest with
        | [] => exfalso; rw [e1] at h5; simp at h5
        | x :: rest =>
          have i2 : idxLV 1 (.ha h1.length 1 0 l.length cap) (dn.length : Int) = some (.ptr h1.length dn.length) := by
            rw [idx_ha h5]; simp
          have hlen : l.length = dn.length + (rest.length + 1) := by rw [e1]; simp
          simp (contextual := true) (disch := omega) [i2, g1, g2, g3, g4, i64_wrap]
          refine ⟨rest.length, by simp [hk'], dn ++ [x], rest, by simp [e1], rfl, ?_, by simp; omega, by simp⟩
          rw [take_done _ _ _ (by simp), drop_done _ _ _ _ (by simp)]
          simp [marks_snoc]
      · have e3 : rest = [] := by
          cases rest with
          | nil => rfl
          | cons u v => exfalso; rw [e1] at h5; simp at h5; omega
        subst e3
        simp at e1
        subst e1
        simp (contextual := true) (disch := omega) [g1, g2, g3, g4]
        refine post_tmp (.inr rfl) (by simp) ⟨by simp, [some ((marks k l.length).map N ++ List.replicate slack .dead)], rfl, th_ints.2 (.inr ⟨rfl, ?_, slack, cap, by rw [hm]; exact hcap, by rw [hm], rfl⟩), by simp⟩
        intro h; rw [h] at hm; exact hne (List.eq_nil_of_length_eq_zero (by simpa using hm.symm))

theorem heldInts_ok (nl : Bool) (k : Int) (n : Nat) (hk : 0 ≤ k ∧ k + n ≤ 4611686018427387904) : Gives Try.prog n_laws_heldIntS [L nl (marks k n), N k] (· = N (k + n)) := by
  refine Gives.of_codeOf c_laws_heldIntS mixed (by simp) ⟨_, rfl, by simp⟩ ?_
  simp (contextual := true) (disch := omega) [k_laws_heldIntS]
  refine wpC_loopI (fun k' s => ∃ a b, n = a + b ∧ k' = b ∧ s.h = [] ∧ s.t 0 = L nl (marks k n) ∧ s.t 1 = N (k + a) ∧ s.t 5 = N a) n ?_ ?_
  · exact ⟨0, n, by omega, rfl, by simp⟩
  · rintro k' s ⟨a, b, e1, hk', g1, g2, g3, g4⟩
    simp (contextual := true) (disch := omega) [g1, g2, g3, g4]
    refine ⟨fun _ h5 => ?_, fun _ h5 => ?_⟩
    · match b with
      | 0 => omega
      | b + 1 =>
        have hs : marks k n = marks k a ++ (k + a) :: marks (k + a + 1) b := by
          rw [e1]; exact marks_split k a b
        have i1 : idxLV 1 (L nl (marks k n)) (a : Int) = some (.rp [N (k + a)]) := by
          have h7 := idx_map (fun n => [N n]) (marks k a) (marks (k + a + 1) b) (k + a) false nl 1
          rw [show shareAll [N (k + a)] = [N (k + a)] by simp, marks_length] at h7
          rw [hs]; exact h7
        simp (contextual := true) (disch := omega) [i1, g1, g2, g3, g4, i64_wrap]
        exact ⟨b, by omega, a + 1, b, by omega, rfl, by simp; omega, by simp⟩
    · have : a = n := by omega
      subst this
      simp [g3]

theorem view_of {h : List Box} {u nl : Bool} {l : List Int} {y : LV} {h1 bs h2 : List Box} (hw : l = [] ∨ (u = true ∧ nl = false)) (ht : Th (OU u nl l) h1.length y bs) (he : h = h1 ++ bs ++ h2) : View h (L nl l) y := by
  have := Th.view h _ y _ bs (whole_ints u nl l hw) ht fun i b hi => by
    rw [he, List.append_assoc, List.getElem?_append_right (by omega), Nat.add_sub_cancel_left, List.getElem?_append_left]
    · exact hi
    · rcases Nat.lt_or_ge i bs.length with g | g
      · exact g
      · rw [List.getElem?_eq_none g] at hi; simp at hi
  simpa using this
theorem view_L {h : List Box} {nl : Bool} {l : List Int} : View h (L nl l) (L nl l) := view_sl (by simp) (by simp)

/-- a law of this form holds where both functions give one list, which the program's owns -/
theorem exactBoxType (nl : Bool) (l l' : List Int) (nw : Bool) (hl : l.length ≤ 1048576) (hl' : l'.length ≤ 1048576)
    (hs : Gives Try.prog n_spec_BoxType [L false l] (fun r => share r = L nw l'))
    (hi : Gives Try.prog n_impl_BoxType [L false l] (fun r => ∃ u ng, r = OU u ng l' ∧ (l' = [] ∨ (u = true ∧ ng = false)))) :
    Gives Try.prog n_laws_FnExactBoxType [L nl l] (· = B true) := by
  refine Gives.of_codeOf c_laws_FnExactBoxType mixed (by simp) ⟨_, rfl, by simp⟩ ?_
  simp (contextual := true) (disch := omega) [k_laws_FnExactBoxType]
  refine fun _ _ => ?_
  refine onCall_eq (toInts_ok nl l (by omega)) (by simp) ?_
  simp (contextual := true) (disch := omega)
  refine onCall_gives hs (by simp) fun w hw => ?_
  simp (contextual := true) (disch := omega)
  refine onCall_thaw (R := (· = O false l)) (toInts_ok nl l (by omega)) (viewAll_cons view_L viewAll_nil) (by rintro r rfl; exact whole_ints _ _ _ (.inr ⟨rfl, rfl⟩)) fun tx yx bx e hx => ?_
  subst e
  have hx' : Th (O false l) ([] : List Box).length yx bx := by simpa using hx
  have sx := Th.share _ _ _ _ hx
  clear hx
  simp (contextual := true) (disch := omega) [sx]
  have vx : ∀ h2, View ([] ++ bx ++ h2) (L false l) yx := fun h2 => view_of (.inr ⟨rfl, rfl⟩) hx' rfl
  refine onCall_thaw hi (viewAll_cons (by simpa using vx []) viewAll_nil) (by rintro r ⟨u, ng, rfl, h⟩; exact whole_ints _ _ _ h) fun tg yg bg hg hgt => ?_
  obtain ⟨u, ng, rfl, hg⟩ := hg
  have sg := Th.share _ _ _ _ hgt
  simp (contextual := true) (disch := omega) [sx, sg, hw]
  simp only at hgt
  have vg : ∀ h2, View (bx ++ bg ++ h2) (L ng l') yg := fun h2 => view_of hg hgt rfl
  have whB : ∀ b : Bool, ∀ r, r = B b → Whole r := by rintro b r rfl; simp [Whole]
  have whN : ∀ b : Int, ∀ r, r = N b → Whole r := by rintro b r rfl; simp [Whole]
  refine onCall_lend (eqInts_ok ng nw l' l' (by omega)) (viewAll_cons (by simpa using vg []) (viewAll_cons view_L viewAll_nil)) (whB _) ?_
  rintro r rfl
  simp (contextual := true) (disch := omega) [sx, sg, hw]
  refine onCall_eq (toInts_ok nl l (by omega)) (by simp) ?_
  simp (contextual := true) (disch := omega) [sx, sg, hw]
  refine onCall_lend (eqInts_ok false false l l (by omega)) (viewAll_cons (by simpa using vx bg) (viewAll_cons view_L viewAll_nil)) (whB _) ?_
  rintro r rfl
  simp (contextual := true) (disch := omega) [sx, sg, hw]
  refine onCall_any (by simpa using markInts_ok true false l 1 (by omega) [] bg yx bx hx') ?_
  rintro r h' ⟨rfl, bx', lx, _, rfl⟩
  simp (contextual := true) (disch := omega) [sx, sg, hw]
  have hgt' : Th (OU u ng l') bx'.length yg bg := by rw [lx]; exact hgt
  have vg' : ∀ h2, View (bx' ++ bg ++ h2) (L ng l') yg := fun h2 => view_of hg hgt' rfl
  refine ⟨fun h => by rw [ltB_true] at h; omega, fun _ _ => ?_⟩
  refine onCall_lend (eqInts_ok ng nw l' l' (by omega)) (viewAll_cons (by simpa using vg' []) (viewAll_cons view_L viewAll_nil)) (whB _) ?_
  rintro r rfl
  simp (contextual := true) (disch := omega) [sx, sg, hw]
  refine onCall_any (by simpa using markInts_ok u ng l' 1 (by omega) bx' [] yg bg hgt') ?_
  rintro r h' ⟨rfl, bg', lg, hg2, rfl⟩
  simp (contextual := true) (disch := omega) [sx, sg, hw]
  have hg' : marks 1 l'.length = [] ∨ (u = true ∧ ng = false) := by
    rcases hg with h | h
    · left; rw [h]; rfl
    · exact .inr h
  have vm : ∀ h2, View (bx' ++ bg' ++ h2) (L ng (marks 1 l'.length)) yg := fun h2 => view_of hg' hg2 rfl
  refine onCall_lend (heldInts_ok ng 1 l'.length (by omega)) (viewAll_cons (by simpa using vm []) (viewAll_cons view_sc viewAll_nil)) (whN _) ?_
  rintro r rfl
  simp (contextual := true) (disch := omega) [sx, sg, hw]
  refine ⟨fun h => by rw [ltB_true] at h; omega, fun _ _ => ?_⟩
  refine onCall_eq (toInts_ok nl l (by omega)) (by simp) ?_
  simp (contextual := true) (disch := omega) [sx, sg, hw]
  refine onCall_gives hi (by simp) fun r hr => ?_
  obtain ⟨u2, ng2, rfl, hu2⟩ := hr
  simp (contextual := true) (disch := omega) [sx, sg, hw]
  refine onCall_eq (eqInts_ok ng2 nw l' l' (by omega)) (by simp) ?_
  simp (contextual := true) (disch := omega) [sx, sg, hw]
  refine onCall_lend (heldInts_ok ng 1 l'.length (by omega)) (viewAll_cons (by simpa using vm []) (viewAll_cons view_sc viewAll_nil)) (whN _) ?_
  rintro r rfl
  simp (contextual := true) (disch := omega) [sx, sg, hw]
  try exact fun h => by rw [ltB_true] at h; omega
end Go.Proofs.Yticcekapikfhaaa
