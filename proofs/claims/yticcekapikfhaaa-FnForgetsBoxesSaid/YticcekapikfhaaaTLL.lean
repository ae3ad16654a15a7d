/- Handles and what they stand for; calls with variables lent. No program, no conditions. -/
import Derived.Test.YticcekapikfhaaaTLK
namespace Go.TL

@[simp] theorem eqB_self {a : Int} : eqB a a = true := by simp [eqB]
@[simp] theorem leB_self {a : Int} : leB a a = true := by simp [leB]
@[simp] theorem ltB_self {a : Int} : ltB a a = false := by simp [ltB]
mutual
/-- what was thawed is seen through its variables -/
theorem Th.view (h : List Box) : ∀ (t y : LV) (n : Nat) (bs : List Box), Whole t → Th t n y bs → (∀ i b, bs[i]? = some b → h[n + i]? = some b) → View h (share t) y
  | .sc v, y, n, bs, _, ht, _ => by
    simp only [Th] at ht
    simp only [share, View]
    exact ht.1
  | .sl u nl sz rows, y, n, bs, hw, ht, hb => by
    simp only [Th] at ht
    simp only [Whole] at hw
    simp only [share, View]
    refine ⟨by trivial, ?_⟩
    rcases ht with ⟨rfl, rfl, rfl⟩ | ⟨rfl, hne, cells, bs', slack, cap, hr, hcap, rfl, rfl⟩
    · left; simp
    · right
      refine ⟨by trivial, n + bs'.length, cap, cells, List.replicate slack .dead, by rw [shareRow_length], by rw [shareRow_length]; exact hcap.1, hb bs'.length _ (by simp), ?_⟩
      exact ThRow.view h rows sz n cells bs' hw.2 hr fun i b hi => hb i b (by
        rw [List.getElem?_append_left]
        · exact hi
        · rcases Nat.lt_or_ge i bs'.length with g | g
          · exact g
          · rw [List.getElem?_eq_none g] at hi; simp at hi)
  | .agg xs, y, n, bs, hw, ht, hb => by
    simp only [Th] at ht
    simp only [Whole] at hw
    obtain ⟨ys, rfl, ht⟩ := ht
    simp only [share, View]
    exact ⟨ys, rfl, ThAll.view h xs n ys bs hw ht hb⟩
  | .tup xs, y, n, bs, hw, ht, hb => by
    simp only [Th] at ht
    simp only [Whole] at hw
    obtain ⟨ys, rfl, ht⟩ := ht
    simp only [share, View]
    exact ⟨ys, rfl, ThAll.view h xs n ys bs hw ht hb⟩
  | .ha _ _ _ _ _, _, _, _, hw, _, _ => by simp [Whole] at hw
  | .ptr _ _, _, _, _, hw, _, _ => by simp [Whole] at hw
  | .rp _, _, _, _, hw, _, _ => by simp [Whole] at hw
  | .fn _ _, _, _, _, hw, _, _ => by simp [Whole] at hw
  | .fnm _ _, _, _, _, hw, _, _ => by simp [Whole] at hw
  | .raw _, _, _, _, hw, _, _ => by simp [Whole] at hw
  | .dead, _, _, _, hw, _, _ => by simp [Whole] at hw
  | .both _ _, _, _, _, hw, _, _ => by simp [Whole] at hw
theorem ThAll.view (h : List Box) : ∀ (xs : List LV) (n : Nat) (ys : List LV) (bs : List Box), WholeAll xs → ThAll xs n ys bs → (∀ i b, bs[i]? = some b → h[n + i]? = some b) → ViewAll h (shareAll xs) ys
  | [], n, ys, bs, _, ht, _ => by simp only [ThAll] at ht; simp only [shareAll, ViewAll]; exact ht.1
  | x :: xs, n, ys, bs, hw, ht, hb => by
    simp only [ThAll] at ht
    simp only [WholeAll] at hw
    obtain ⟨y, b1, ys', b2, h1, h2, rfl, rfl⟩ := ht
    simp only [shareAll, ViewAll]
    refine ⟨y, ys', Th.view h x y n b1 hw.1 h1 fun i b hi => hb i b ?_, ThAll.view h xs (n + b1.length) ys' b2 hw.2 h2 fun i b hi => ?_, rfl⟩
    · rw [List.getElem?_append_left]
      · exact hi
      · rcases Nat.lt_or_ge i b1.length with g | g
        · exact g
        · rw [List.getElem?_eq_none g] at hi; simp at hi
    · rw [Nat.add_assoc]
      refine hb _ b ?_
      rw [List.getElem?_append_right (by omega)]
      rw [show b1.length + i - b1.length = i by omega]; exact hi
theorem ThRow.view (h : List Box) : ∀ (rows : List (List LV)) (sz n : Nat) (ys : List LV) (bs : List Box), WholeRow rows → ThRow rows sz n ys bs → (∀ i b, bs[i]? = some b → h[n + i]? = some b) → ViewRow h (shareRow rows) sz ys
  | [], sz, n, ys, bs, _, ht, _ => by simp only [ThRow] at ht; simp only [shareRow, ViewRow]; exact ht.1
  | x :: xs, sz, n, ys, bs, hw, ht, hb => by
    simp only [ThRow] at ht
    simp only [WholeRow] at hw
    obtain ⟨c1, b1, c2, b2, hl, h1, h2, rfl, rfl⟩ := ht
    simp only [shareRow, ViewRow]
    refine ⟨c1, c2, by rw [shareAll_length]; exact hl, ThAll.view h x n c1 b1 hw.1 h1 fun i b hi => hb i b ?_, ThRow.view h xs sz (n + b1.length) c2 b2 hw.2 h2 fun i b hi => ?_, rfl⟩
    · rw [List.getElem?_append_left]
      · exact hi
      · rcases Nat.lt_or_ge i b1.length with g | g
        · exact g
        · rw [List.getElem?_eq_none g] at hi; simp at hi
    · rw [Nat.add_assoc]
      refine hb _ b ?_
      rw [List.getElem?_append_right (by omega)]
      rw [show b1.length + i - b1.length = i by omega]; exact hi
end

mutual
/-- a handle is what it is when it is shared -/
theorem Th.share : ∀ (t y : LV) (n : Nat) (bs : List Box), Th t n y bs → TL.share y = y
  | .sc v, y, n, bs, ht => by simp only [Th] at ht; rw [ht.1]; simp
  | .sl u nl sz rows, y, n, bs, ht => by
    simp only [Th] at ht
    rcases ht with ⟨_, rfl, _⟩ | ⟨_, _, cells, bs', slack, cap, _, _, rfl, _⟩ <;> simp
  | .agg xs, y, n, bs, ht => by
    simp only [Th] at ht
    obtain ⟨ys, rfl, ht⟩ := ht
    simp [ThAll.share xs n ys bs ht]
  | .tup xs, y, n, bs, ht => by
    simp only [Th] at ht
    obtain ⟨ys, rfl, ht⟩ := ht
    simp [ThAll.share xs n ys bs ht]
  | .ha _ _ _ _ _, _, _, _, ht => by simp [Th] at ht
  | .ptr _ _, _, _, _, ht => by simp [Th] at ht
  | .rp _, _, _, _, ht => by simp [Th] at ht
  | .fn _ _, _, _, _, ht => by simp [Th] at ht
  | .fnm _ _, _, _, _, ht => by simp [Th] at ht
  | .raw _, _, _, _, ht => by simp [Th] at ht
  | .dead, _, _, _, ht => by simp [Th] at ht
  | .both _ _, _, _, _, ht => by simp [Th] at ht
theorem ThAll.share : ∀ (xs : List LV) (n : Nat) (ys : List LV) (bs : List Box), ThAll xs n ys bs → TL.shareAll ys = ys
  | [], n, ys, bs, ht => by simp only [ThAll] at ht; rw [ht.1]; simp
  | x :: xs, n, ys, bs, ht => by
    simp only [ThAll] at ht
    obtain ⟨y, b1, ys', b2, h1, h2, rfl, rfl⟩ := ht
    simp [Th.share x y n b1 h1, ThAll.share xs _ ys' b2 h2]
end

theorem Th.alive : ∀ (t y : LV) (n : Nat) (bs : List Box), Th t n y bs → y.alive = true
  | .sc v, y, n, bs, ht => by simp only [Th] at ht; rw [ht.1]; rfl
  | .sl u nl sz rows, y, n, bs, ht => by
    simp only [Th] at ht
    rcases ht with ⟨_, rfl, _⟩ | ⟨_, _, cells, bs', slack, cap, _, _, rfl, _⟩ <;> rfl
  | .agg xs, y, n, bs, ht => by simp only [Th] at ht; obtain ⟨ys, rfl, _⟩ := ht; rfl
  | .tup xs, y, n, bs, ht => by simp only [Th] at ht; obtain ⟨ys, rfl, _⟩ := ht; rfl
  | .ha _ _ _ _ _, y, n, bs, ht => by simp [Th] at ht
  | .ptr _ _, y, n, bs, ht => by simp [Th] at ht
  | .rp _, y, n, bs, ht => by simp [Th] at ht
  | .fn _ _, y, n, bs, ht => by simp [Th] at ht
  | .fnm _ _, y, n, bs, ht => by simp [Th] at ht
  | .raw _, y, n, bs, ht => by simp [Th] at ht
  | .dead, y, n, bs, ht => by simp [Th] at ht
  | .both _ _, y, n, bs, ht => by simp [Th] at ht
theorem viewAll_nil {h : List Box} : ViewAll h [] [] := by simp [ViewAll]
theorem viewAll_cons {h : List Box} {x y : LV} {xs ys : List LV} (h1 : View h x y) (h2 : ViewAll h xs ys) : ViewAll h (x :: xs) (y :: ys) := by
  simp only [ViewAll]; exact ⟨y, ys, h1, h2, rfl⟩
theorem view_sc {h : List Box} {v : Value} : View h (.sc v) (.sc v) := by simp [View]
theorem view_sl {h : List Box} {nl : Bool} {sz : Nat} {rows : List (List LV)} (hl : LowRow 0 rows) (hs : shareRow rows = rows) : View h (.sl false nl sz rows) (.sl false nl sz rows) := by
  simp only [View]
  exact ⟨by trivial, .inl ⟨by trivial, by simpa using hl, by simp [hs]⟩⟩

section
variable {P : Program} {K : St → Prop} {s : St}
/-- a call to which variables are lent -/
theorem onCall_lend {d : Nat} {f : FuncId} {args vals : List LV} {R : LV → Prop} (c : Gives P f args R) (hv : ViewAll s.h args vals) (hR : ∀ r, R r → Whole r)
    (hk : ∀ r, R r → K { t := upd s.t d r, h := s.h }) : onCall P .any f vals (some d) K s := by
  unfold onCall
  rw [callWp_t]
  exact (c.lend hv hR).mono fun r h' hr => by rw [hr.1]; exact hk r hr.2
/-- and whose result becomes variables -/
theorem onCall_thaw {d : Nat} {f : FuncId} {args vals : List LV} {R : LV → Prop} (c : Gives P f args R) (hv : ViewAll s.h args vals) (hR : ∀ r, R r → Whole r)
    (hk : ∀ t y bs, R t → Th t s.h.length y bs → K { t := upd s.t d y, h := s.h ++ bs }) : onCall P .any f vals (some d) K s := by
  unfold onCall
  rw [callWp_t]
  refine (c.lendThaw hv hR).mono fun r h' hr => ?_
  obtain ⟨t, bs, h1, h2, rfl⟩ := hr
  exact hk t r bs h1 h2
theorem frz_ha {h : List Box} {l sz n : Nat} {xs : List LV} (hl : h[l]? = some (some xs)) (hx : xs.length = n * sz) : frzLV h (.ha l sz 0 n n) = some (.sl true false sz (chunks sz n xs), h.set l none) := by
  simp only [frzLV, hl]
  rw [if_pos ⟨hx, Nat.le_refl _⟩]
theorem chunks_map {α : Type} (e : α → LV) : ∀ (l : List α), chunks 1 l.length (l.map e) = l.map fun x => [e x]
  | [] => rfl
  | x :: l => by simp [chunks, chunks_map e l]
theorem chunks_flat {α : Type} (e : α → List LV) (sz : Nat) : ∀ (l : List α), (∀ x ∈ l, (e x).length = sz) → chunks sz l.length (l.map e).flatten = l.map e
  | [], _ => rfl
  | x :: l, h => by
    have h1 := h x (by simp)
    simp only [List.length_cons, List.map_cons, List.flatten_cons, chunks]
    rw [List.take_append_of_le_length (by omega), List.take_of_length_le (by omega), List.drop_append, List.drop_of_length_le (by omega), h1, Nat.sub_self, List.drop_zero, List.nil_append,
      chunks_flat e sz l (fun y hy => h y (by simp [hy]))]
/-- any call -/
theorem onCall_any {d : Nat} {f : FuncId} {vals : List LV} {R : LV → List Box → Prop} (c : LCalls P f vals s.h R) (hk : ∀ r h', R r h' → K { t := upd s.t d r, h := h' }) : onCall P .any f vals (some d) K s := by
  unfold onCall
  rw [callWp_t]
  exact c.mono fun r h' hr => hk r h' hr
end

/-- the end of a function with one result, whose variables all live on -/
theorem post_tmp {t m : Nat} {R : LV → List Box → Prop} {e : Exit} {s : St} (he : e = .normal ∨ e = .ret) (h1 : m ≤ s.h.length) (hR : R (s.t t) s.h) : Post [.tmp t] m R e s := by
  refine ⟨he, [s.t t], _, s.h.length, rfl, h1, Nat.le_refl _, .inl rfl, ?_⟩
  rw [List.take_of_length_le (Nat.le_refl _)]
  exact hR
theorem take_done {α : Type} (dn : List α) (r : List α) (n : Nat) (h : n = dn.length) : List.take n (dn ++ r) = dn := by
  rw [h, List.take_append_of_le_length (Nat.le_refl _), List.take_of_length_le (Nat.le_refl _)]
theorem drop_done {α : Type} (dn : List α) (x : α) (r : List α) (n : Nat) (h : n = dn.length + 1) : List.drop n (dn ++ x :: r) = r := by
  rw [h, List.drop_append, List.drop_of_length_le (by omega)]
  simp
@[simp] theorem get_mid {α : Type} {h1 h2 : List α} {b : α} : (h1 ++ b :: h2)[h1.length]? = some b := by simp
@[simp] theorem get_skip {α : Type} {h1 h2 : List α} {k : Nat} : (h1 ++ h2)[h1.length + k]? = h2[k]? := by
  rw [List.getElem?_append_right (by omega)]; congr 1; omega
@[simp] theorem set_skip {α : Type} {h1 h2 : List α} {k : Nat} {c : α} : (h1 ++ h2).set (h1.length + k) c = h1 ++ h2.set k c := by
  rw [List.set_append_right _ _ (by omega)]; congr 2; omega
@[simp] theorem set_mid {α : Type} {h1 h2 : List α} {b c : α} : (h1 ++ b :: h2).set h1.length c = h1 ++ c :: h2 := by simp

/-- all cells of a world, said of -/
def GM.all (w : World) : GM := fun b i => w.cell? ⟨b, i, none⟩
/-- a whole program's run, out of its contract over trees: nothing that was there has turned -/
theorem Gives.row {P : Program} {f : FuncId} {args : List LV} {v : Value} (c : Gives P f args (· = .sc v)) (w : World) (vals : List Value) (hv : RepVals (GM.all w) [] args vals []) :
    Calls P f vals.toArray w fun e w' => e = .returned v ∧ Still w w' ∧ w.heap.size ≤ w'.heap.size ∧ ∀ b, b < w.heap.size → w'.heap[b]? = w.heap[b]? := by
  have hi0 : WInv w (GM.all w) [] [] [] [] := by
    refine ⟨rfl, rfl, fun b i v hv => hv, by simp, ?_, by simp, ?_, ?_⟩
    · rintro b ⟨l, xs, hl, _⟩; simp at hl
    · intro b m k hm; simp at hm
    · intro b; simp
  refine (c.2.2 w _ [] [] vals [] hv hi0).mono fun e w' he => ?_
  obtain ⟨u, r, h', B, ν, OH', O', g1, ⟨g2, glow⟩, g3, g4⟩ := he
  subst g2
  simp only [Rep] at g3
  obtain ⟨rfl, _⟩ := g3
  refine ⟨g1, g4.since.still, g4.since.size, fun b hb => (g4.since.kept b hb ?_).1⟩
  rintro (⟨l, xs, k, _⟩ | ⟨m, q, k⟩) <;> simp at k
end Go.TL
