/- Results taken as variables, and variables lent to calls. No program, no conditions. -/
import Derived.Test.YticcekapikfhaaaTLJ
namespace Go.TL

section
variable {A : GM} {μ : List Nat}
mutual
theorem Rep.shd : ∀ (x : LV) (v : Value) (O : List Own), Rep A μ (share x) v O → O = []
  | .sc _, _, _, h => by simp only [share, Rep] at h; exact h.2
  | .sl _ _ _ xs, _, _, h => by
    simp only [share, Rep] at h
    rcases h with ⟨_, _, _, h⟩ | ⟨_, b, off, sp, cap, O', _, _, _, h4, h5⟩
    · exact h
    · have := RepRow.shd xs _ _ _ _ h4
      rcases h5 with ⟨h, _⟩ | ⟨_, h⟩
      · simp at h
      · rw [h, this]
  | .ha _ _ _ _ _, _, _, h => by simp only [share, Rep] at h; exact h.1
  | .ptr _ _, _, _, h => by simp only [share, Rep] at h; exact h.1
  | .rp xs, _, _, h => by
    simp only [share, Rep] at h
    obtain ⟨b, off, _, h2⟩ := h
    exact RepCells.shd xs _ _ _ h2
  | .fn _ xs, _, _, h => by
    simp only [share, Rep] at h
    obtain ⟨vs, _, h2⟩ := h
    exact RepVals.shd xs _ _ h2
  | .fnm _ xs, _, _, h => by
    simp only [share, Rep] at h
    obtain ⟨vs, _, h2⟩ := h
    exact RepVals.shd xs _ _ h2
  | .agg xs, _, _, h => by
    simp only [share, Rep] at h
    obtain ⟨vs, _, _, h2⟩ := h
    exact RepVals.shd xs _ _ h2
  | .tup xs, _, _, h => by
    simp only [share, Rep] at h
    obtain ⟨vs, _, h2⟩ := h
    exact RepVals.shd xs _ _ h2
  | .raw _, _, _, h => by simpa only [share, Rep] using h
  | .dead, _, _, h => by simpa only [share, Rep] using h
  | .both _ t, _, _, h => by simp only [share] at h; exact Rep.shd t _ _ h
theorem RepRow.shd : ∀ (xs : List (List LV)) (sz b off : Nat) (O : List Own), RepRow A μ (shareRow xs) sz b off O → O = []
  | [], _, _, _, _, h => by simpa only [shareRow, RepRow] using h
  | x :: xs, _, _, _, _, h => by
    simp only [shareRow, RepRow] at h
    obtain ⟨O1, O2, h1, _, h3, h4⟩ := h
    rw [h1, RepCells.shd x _ _ _ h3, RepRow.shd xs _ _ _ _ h4]; rfl
theorem RepCells.shd : ∀ (xs : List LV) (b off : Nat) (O : List Own), RepCells A μ (shareAll xs) b off O → O = []
  | [], _, _, _, h => by simpa only [shareAll, RepCells] using h
  | x :: xs, _, _, _, h => by
    simp only [shareAll, RepCells] at h
    obtain ⟨v, O1, O2, h1, _, _, h3, h4⟩ := h
    rw [h1, Rep.shd x _ _ h3, RepCells.shd xs _ _ _ h4]; rfl
theorem RepVals.shd : ∀ (xs : List LV) (vs : List Value) (O : List Own), RepVals A μ (shareAll xs) vs O → O = []
  | [], _, _, h => by simp only [shareAll, RepVals] at h; exact h.2
  | x :: xs, _, _, h => by
    simp only [shareAll, RepVals] at h
    obtain ⟨v, ws, O1, O2, _, h1, h3, h4⟩ := h
    rw [h1, Rep.shd x _ _ h3, RepVals.shd xs _ _ h4]; rfl
end
end


mutual
/-- a tree that owns all that it reaches -/
def Whole : LV → Prop
  | .sc _ => True
  | .sl u nl sz rows => (rows = [] ∨ (u = true ∧ nl = false ∧ ∀ r ∈ rows, r.length = sz)) ∧ WholeRow rows
  | .agg xs => WholeAll xs
  | .tup xs => WholeAll xs
  | _ => False
def WholeAll : List LV → Prop
  | [] => True
  | x :: xs => Whole x ∧ WholeAll xs
def WholeRow : List (List LV) → Prop
  | [] => True
  | x :: xs => WholeAll x ∧ WholeRow xs
end

mutual
/-- t, thawed from the n-th variable on, is y; its blocks are the variables bs -/
def Th : LV → Nat → LV → List Box → Prop
  | .sc v, _, y, bs => y = .sc v ∧ bs = []
  | .sl _ nl sz rows, n, y, bs => (rows = [] ∧ y = .sl false nl sz [] ∧ bs = []) ∨
      (nl = false ∧ rows ≠ [] ∧ ∃ cells bs' slack cap, ThRow rows sz n cells bs' ∧ (rows.length ≤ cap ∧ rows.length * sz + slack = cap * sz) ∧ y = .ha (n + bs'.length) sz 0 rows.length cap ∧ bs = bs' ++ [some (cells ++ List.replicate slack .dead)])
  | .agg xs, n, y, bs => ∃ ys, y = .agg ys ∧ ThAll xs n ys bs
  | .tup xs, n, y, bs => ∃ ys, y = .tup ys ∧ ThAll xs n ys bs
  | _, _, _, _ => False
def ThRow : List (List LV) → Nat → Nat → List LV → List Box → Prop
  | [], _, _, cells, bs => cells = [] ∧ bs = []
  | row :: rows, sz, n, cells, bs => ∃ c1 b1 c2 b2, row.length = sz ∧ ThAll row n c1 b1 ∧ ThRow rows sz (n + b1.length) c2 b2 ∧ cells = c1 ++ c2 ∧ bs = b1 ++ b2
def ThAll : List LV → Nat → List LV → List Box → Prop
  | [], _, ys, bs => ys = [] ∧ bs = []
  | x :: xs, n, ys, bs => ∃ y b1 ys' b2, Th x n y b1 ∧ ThAll xs (n + b1.length) ys' b2 ∧ ys = y :: ys' ∧ bs = b1 ++ b2
end

section
variable {B B' : GM} {μ : List Nat}
theorem owns_app {O1 O2 : List Own} {b : Nat} : Owns (O1 ++ O2) b ↔ Owns O1 b ∨ Owns O2 b := by
  simp only [Owns, List.mem_append]
  constructor
  · rintro ⟨n, c, h | h⟩
    · exact .inl ⟨n, c, h⟩
    · exact .inr ⟨n, c, h⟩
  · rintro (⟨n, c, h⟩ | ⟨n, c, h⟩)
    · exact ⟨n, c, .inl h⟩
    · exact ⟨n, c, .inr h⟩
theorem owns_cons {e : Own} {O : List Own} {b : Nat} : Owns (e :: O) b ↔ b = e.1 ∨ Owns O b := by
  obtain ⟨b', n', c'⟩ := e
  simp only [Owns, List.mem_cons, Prod.mk.injEq]
  constructor
  · rintro ⟨n, c, ⟨h, _⟩ | h⟩
    · exact .inl h
    · exact .inr ⟨n, c, h⟩
  · rintro (h | ⟨n, c, h⟩)
    · exact ⟨n', c', .inl ⟨h, rfl, rfl⟩⟩
    · exact ⟨n, c, .inr h⟩
mutual
/-- what a whole tree says hangs on its own blocks alone -/
theorem Rep.own : ∀ (t : LV) (v : Value) (O : List Own), Whole t → Rep B μ t v O → (∀ b, Owns O b → ∀ i, B' b i = B b i) → Rep B' μ t v O
  | .sc _, _, _, _, h, _ => by simpa only [Rep] using h
  | .sl _ _ _ rows, v, O, hw, h, ho => by
    simp only [Whole] at hw
    simp only [Rep] at h ⊢
    rcases h with h | ⟨h1, b, off, sp, cap, O', h2, hs, h3, h4, h5⟩
    · exact .inl h
    · refine .inr ⟨h1, b, off, sp, cap, O', h2, hs, h3, ?_, h5⟩
      rcases h5 with ⟨k1, k2, k3⟩ | ⟨k1, k2⟩
      · subst k3
        exact RepRow.own rows _ _ _ _ hw.2 h4 (fun i => ho b (owns_cons.2 (.inl rfl)) i) (fun b' hb' => ho b' (owns_cons.2 (.inr hb')))
      · subst k2
        have hr : rows = [] := by
          rcases hw.1 with k | k
          · exact k
          · rcases k1 with k1 | k1
            · rw [k.1] at k1; simp at k1
            · exact List.eq_nil_of_length_eq_zero (by omega)
        subst hr
        simpa only [RepRow] using h4
  | .agg xs, _, _, hw, h, ho => by
    simp only [Whole] at hw
    simp only [Rep] at h ⊢
    obtain ⟨vs, h1, h0, h2⟩ := h
    exact ⟨vs, h1, h0, RepVals.own xs _ _ hw h2 ho⟩
  | .tup xs, _, _, hw, h, ho => by
    simp only [Whole] at hw
    simp only [Rep] at h ⊢
    obtain ⟨vs, h1, h2⟩ := h
    exact ⟨vs, h1, RepVals.own xs _ _ hw h2 ho⟩
  | .ha _ _ _ _ _, _, _, hw, _, _ => by simp [Whole] at hw
  | .ptr _ _, _, _, hw, _, _ => by simp [Whole] at hw
  | .rp _, _, _, hw, _, _ => by simp [Whole] at hw
  | .fn _ _, _, _, hw, _, _ => by simp [Whole] at hw
  | .fnm _ _, _, _, hw, _, _ => by simp [Whole] at hw
  | .raw _, _, _, hw, _, _ => by simp [Whole] at hw
  | .dead, _, _, hw, _, _ => by simp [Whole] at hw
  | .both _ _, _, _, hw, _, _ => by simp [Whole] at hw
theorem RepRow.own : ∀ (rows : List (List LV)) (sz b off : Nat) (O : List Own), WholeRow rows → RepRow B μ rows sz b off O → (∀ i, B' b i = B b i) → (∀ b, Owns O b → ∀ i, B' b i = B b i) → RepRow B' μ rows sz b off O
  | [], _, _, _, _, _, h, _, _ => by simpa only [RepRow] using h
  | x :: xs, _, b, _, _, hw, h, hb, ho => by
    simp only [WholeRow] at hw
    simp only [RepRow] at h ⊢
    obtain ⟨O1, O2, h1, h2, h3, h4⟩ := h
    subst h1
    exact ⟨O1, O2, rfl, h2, RepCells.own x _ _ _ hw.1 h3 hb (fun b' h' => ho b' (owns_app.2 (.inl h'))), RepRow.own xs _ _ _ _ hw.2 h4 hb (fun b' h' => ho b' (owns_app.2 (.inr h')))⟩
theorem RepCells.own : ∀ (xs : List LV) (b off : Nat) (O : List Own), WholeAll xs → RepCells B μ xs b off O → (∀ i, B' b i = B b i) → (∀ b, Owns O b → ∀ i, B' b i = B b i) → RepCells B' μ xs b off O
  | [], _, _, _, _, h, _, _ => by simpa only [RepCells] using h
  | x :: xs, b, _, _, hw, h, hb, ho => by
    simp only [WholeAll] at hw
    simp only [RepCells] at h ⊢
    obtain ⟨v, O1, O2, h1, h2, h2', h3, h4⟩ := h
    subst h1
    exact ⟨v, O1, O2, rfl, by rw [hb]; exact h2, h2', Rep.own x _ _ hw.1 h3 (fun b' h' => ho b' (owns_app.2 (.inl h'))), RepCells.own xs _ _ _ hw.2 h4 hb (fun b' h' => ho b' (owns_app.2 (.inr h')))⟩
theorem RepVals.own : ∀ (xs : List LV) (vs : List Value) (O : List Own), WholeAll xs → RepVals B μ xs vs O → (∀ b, Owns O b → ∀ i, B' b i = B b i) → RepVals B' μ xs vs O
  | [], _, _, _, h, _ => by simpa only [RepVals] using h
  | x :: xs, _, _, hw, h, ho => by
    simp only [WholeAll] at hw
    simp only [RepVals] at h ⊢
    obtain ⟨v, ws, O1, O2, h1, h2, h3, h4⟩ := h
    subst h2
    exact ⟨v, ws, O1, O2, h1, rfl, Rep.own x _ _ hw.1 h3 (fun b' h' => ho b' (owns_app.2 (.inl h'))), RepVals.own xs _ _ hw.2 h4 (fun b' h' => ho b' (owns_app.2 (.inr h')))⟩
end
end

/-- nothing more is said of a block's cells -/
def GM.cut (A : GM) (b : Nat) : GM := fun b' i => if b' = b then none else A b' i
theorem GM.cut_some {A : GM} {b b' i : Nat} {v : Value} (h : A.cut b b' i = some v) : A b' i = some v ∧ b' ≠ b := by
  unfold GM.cut at h
  split at h
  · simp at h
  · exact ⟨h, by assumption⟩
theorem GM.cut_other {A : GM} {b b' : Nat} (h : b' ≠ b) (i : Nat) : A.cut b b' i = A b' i := by
  unfold GM.cut; rw [if_neg h]

/-- the variables' cells, seen by a ghost memory that may say less -/
def BoxIn (w : World) (A : GM) (μ : List Nat) (h : List Box) (OH : List (List Own)) : Prop :=
  ∀ l xs, h[l]? = some (some xs) → ∃ c e, w.heap[μ.getD l 0]? = some (.cells c e (0, 0)) ∧ RepVals A μ xs c.toList (OH.getD l []) ∧ (∀ v ∈ c.toList, v.oneCell' = true)

section
variable {x : Cx} {w : World} {A1 B : GM} {μ : List Nat} {h : List Box} {OH : List (List Own)} {O : List Own}
/-- an owned block becomes a variable -/
theorem St'.adopt (s : St' x w B μ h OH O) (hA1 : A1.Le B) (hbx : BoxIn w A1 μ h OH) {b n c : Nat} (hm : (b, n, c) ∈ O) (hnew : x.w0.heap.size ≤ b) (hA0 : ∀ i, x.A0 b i = none) (hA1b : ∀ i, A1 b i = none)
    {cs : Array Value} {e : TypeId} (hb : w.heap[b]? = some (.cells cs e (0, 0))) (h1 : ∀ v ∈ cs.toList, v.oneCell' = true) (xs : List LV) (hr : RepVals A1 μ xs cs.toList [])
    (O2 : List Own) (hf : ∀ p : Own → Bool, O2.countP p + (if p (b, n, c) then 1 else 0) ≤ O.countP p) :
    St' x w (B.cut b) (μ ++ [b]) (h ++ [some xs]) (OH ++ [[]]) O2 ∧ BoxIn w A1 (μ ++ [b]) (h ++ [some xs]) (OH ++ [[]]) ∧ A1.Le (B.cut b) := by
  have hlen := s.inv.len
  have hlenO := s.inv.lenO
  have hmono : ∀ xs vs O, RepVals A1 μ xs vs O → RepVals A1 (μ ++ [b]) xs vs O := fun xs vs O => RepVals.mono (fun _ _ _ h => h) xs vs O
  have hfl : (OH ++ [[]]).flatten = OH.flatten := by simp
  have hnl : ¬ Live μ h b := (s.inv.own b n c (List.mem_append.2 (.inl hm))).2.2
  have hfew : Fewer O2 O := fun p => by have := hf p; omega
  have honce : (O2 ++ OH.flatten).countP (isAt b) = 0 := by
    have h2 := s.inv.once b
    have h3 := hf (isAt b)
    simp only [List.countP_append] at h2 ⊢
    have : (if isAt b (b, n, c) = true then 1 else 0) = 1 := by simp [isAt]
    omega
  have hno : ∀ m k, (b, m, k) ∉ O2 ++ OH.flatten := fun m k hmk => by
    have := owns_count.1 ⟨m, k, hmk⟩
    omega
  have hmemO : ∀ e, e ∈ O2 ++ OH.flatten → e ∈ O ++ OH.flatten := fun e he => (hfew.app (.refl _)).mem he
  have hA1c : A1.Le (B.cut b) := by
    intro b' i v hv
    unfold GM.cut
    split
    · rename_i hb'; rw [hb', hA1b i] at hv; simp at hv
    · exact hA1 b' i v hv
  have hbx2 : BoxIn w A1 (μ ++ [b]) (h ++ [some xs]) (OH ++ [[]]) := by
    intro l ys hl
    rcases Nat.lt_trichotomy l h.length with hlt | heq | hgt
    · rw [List.getElem?_append_left hlt] at hl
      obtain ⟨c, e', g1, g2, g3⟩ := hbx l ys hl
      rw [getD_prefix (by omega)]
      refine ⟨c, e', g1, ?_, g3⟩
      rw [List.getD_eq_getElem?_getD, List.getElem?_append_left (by omega), ← List.getD_eq_getElem?_getD]
      exact hmono _ _ _ g2
    · subst heq
      simp at hl
      subst hl
      refine ⟨cs, e, ?_, ?_, h1⟩
      · rw [List.getD_eq_getElem?_getD, List.getElem?_append_right (by omega)]
        simp [hlen, hb]
      · rw [List.getD_eq_getElem?_getD, List.getElem?_append_right (by omega)]
        simp [hlenO]
        exact hmono _ _ _ hr
    · rw [List.getElem?_eq_none (by simp; omega)] at hl; simp at hl
  refine ⟨⟨⟨by simp [hlen], by simp [hlenO], fun b' i v hv => s.inv.cells b' i v (GM.cut_some hv).1, ?_, ?_, ?_, ?_, ?_⟩, ⟨s.since.size, ?_, ?_, ?_, ?_, ?_, s.since.still⟩⟩, hbx2, hA1c⟩
  · intro l ys hl
    obtain ⟨c, e', g1, g2, g3⟩ := hbx2 l ys hl
    have := RepVals.mono (ν := []) hA1c ys c.toList _ g2
    rw [List.append_nil] at this
    exact ⟨c, e', g1, this, g3⟩
  · intro b' hb' i
    unfold GM.cut
    split
    · rfl
    · rename_i hne
      rcases live_app hlen hb' with hb' | ⟨h, _⟩
      · exact s.inv.loose b' hb' i
      · exact absurd h hne
  · intro l l' ys ys' hl hl' heq
    have key : ∀ k zs, (h ++ [some xs])[k]? = some (some zs) → (k < h.length ∧ h[k]? = some (some zs) ∧ (μ ++ [b]).getD k 0 = μ.getD k 0 ∧ μ.getD k 0 ≠ b) ∨ (k = h.length ∧ (μ ++ [b]).getD k 0 = b) := by
      intro k zs hk
      rcases Nat.lt_trichotomy k h.length with hlt | heq | hgt
      · left
        rw [List.getElem?_append_left hlt] at hk
        exact ⟨hlt, hk, getD_prefix (by omega), fun h => hnl ⟨k, zs, hk, h⟩⟩
      · right
        refine ⟨heq, ?_⟩
        rw [List.getD_eq_getElem?_getD, List.getElem?_append_right (by omega)]
        simp [hlen, heq]
      · rw [List.getElem?_eq_none (by simp; omega)] at hk; simp at hk
    rcases key l ys hl with ⟨a1, a2, a3, a4⟩ | ⟨a1, a2⟩ <;> rcases key l' ys' hl' with ⟨b1, b2, b3, b4⟩ | ⟨b1, b2⟩
    · rw [a3, b3] at heq; exact s.inv.apart l l' ys ys' a2 b2 heq
    · rw [a3, b2] at heq; exact absurd heq a4
    · rw [a2, b3] at heq; exact absurd heq.symm b4
    · omega
  · intro b' n c hm'
    rw [hfl] at hm'
    have hne : b' ≠ b := fun h => hno n c (h ▸ hm')
    obtain ⟨g1, g3, g4⟩ := s.inv.own b' n c (hmemO _ hm')
    refine ⟨g1, fun i hi => by rw [GM.cut_other hne]; exact g3 i hi, fun hl => ?_⟩
    rcases live_app hlen hl with hl | ⟨h, _⟩
    · exact g4 hl
    · exact hne h
  · intro b'; rw [hfl]; exact Nat.le_trans ((hfew.app (.refl _)) (isAt b')) (s.inv.once b')
  · intro b' hb' ht
    obtain ⟨g1, g2⟩ := s.since.kept b' hb' ht
    refine ⟨g1, fun i => ?_⟩
    rw [GM.cut_other (by omega)]
    exact g2 i
  · intro b' n c hm'; rw [hfl] at hm'; exact s.since.ownT b' n c (hmemO _ hm')
  · intro b' hb'
    rcases live_app hlen hb' with hb' | ⟨rfl, _⟩
    · exact s.since.liveT b' hb'
    · exact .inl hnew
  · intro b' i v hv
    unfold GM.cut
    split
    · rename_i hb'; rw [hb', hA0 i] at hv; simp at hv
    · exact s.since.le b' i v hv
  · obtain ⟨ν, hν⟩ := s.since.ext
    exact ⟨ν ++ [b], by rw [hν, List.append_assoc]⟩
end

section
variable {x : Cx} {w : World} {A1 : GM}

theorem flatten_len {α : Type} {sz : Nat} : ∀ rows : List (List α), (∀ r ∈ rows, r.length = sz) → rows.flatten.length = rows.length * sz
  | [], _ => by simp
  | r :: rs, h => by rw [List.flatten_cons, List.length_append, h r (by simp), flatten_len rs fun q hq => h q (by simp [hq]), List.length_cons, Nat.add_mul]; omega
/-- what is asked of a block that is thawed -/
def New (x : Cx) (A1 : GM) (b : Nat) : Prop := x.w0.heap.size ≤ b ∧ (∀ i, x.A0 b i = none) ∧ ∀ i, A1 b i = none

/-- what has come of a thawed tree -/
def Thawed (x : Cx) (w : World) (A1 : GM) (B : GM) (μ : List Nat) (h : List Box) (OH : List (List Own)) (Ov E : List Own) (Rv : List Box → List Nat → Prop) : Prop :=
  ∃ B' ν bs, St' x w B' (μ ++ ν) (h ++ bs) (OH ++ List.replicate bs.length []) E ∧ A1.Le B' ∧ BoxIn w A1 (μ ++ ν) (h ++ bs) (OH ++ List.replicate bs.length []) ∧ (∀ b, ¬ Owns Ov b → ∀ i, B' b i = B b i) ∧ Rv bs ν

theorem apart_own {w : World} {B : GM} {μ : List Nat} {h : List Box} {OH : List (List Own)} {O O1 O2 E : List Own} (s : St' x w B μ h OH O) (hf : ∀ p : Own → Bool, (O1 ++ O2).countP p + E.countP p ≤ O.countP p) {b : Nat} (h1 : Owns O1 b) : ¬ Owns O2 b := by
  intro h2
  have k1 := owns_count.1 h1
  have k2 := owns_count.1 h2
  have k3 := s.inv.once b
  have k4 := hf (isAt b)
  simp only [List.countP_append] at k3 k4
  omega

mutual
theorem thaw_val : ∀ (t : LV) (B : GM) (μ : List Nat) (h : List Box) (OH : List (List Own)) (O : List Own) (v : Value) (Ov E : List Own), Whole t → St' x w B μ h OH O → A1.Le B → BoxIn w A1 μ h OH → Rep B μ t v Ov →
    (∀ p : Own → Bool, Ov.countP p + E.countP p ≤ O.countP p) → (∀ b, Owns Ov b → New x A1 b) →
    Thawed x w A1 B μ h OH Ov E fun bs ν => ∃ y, Th t h.length y bs ∧ Rep A1 (μ ++ ν) y v []
  | .sc u, B, μ, h, OH, O, v, Ov, E, hw, s, hA, hb, hr, hf, hn => by
    simp only [Rep] at hr
    obtain ⟨rfl, rfl⟩ := hr
    refine ⟨B, [], [], by simpa using s.fewer (fun p => by have := hf p; simp at this; exact this), hA, by simpa using hb, fun _ _ _ => rfl, .sc v, by simp [Th], by simp [Rep]⟩
  | .sl u nl sz rows, B, μ, h, OH, O, v, Ov, E, hw, s, hA, hb, hr, hf, hn => by
    have hfE : Fewer E O := fun p => by have := hf p; omega
    simp only [Whole] at hw
    simp only [Rep] at hr
    rcases hr with ⟨rfl, rfl, rfl, rfl⟩ | ⟨rfl, b, off, sp, cap, O', rfl, hsp, hcap, hrow, hO⟩
    · exact ⟨B, [], [], by simpa using s.fewer hfE, hA, by simpa using hb, fun _ _ _ => rfl, .sl false true sz [], by simp [Th], by simp [Rep]⟩
    · by_cases hne : rows = []
      · subst hne
        exact ⟨B, [], [], by simpa using s.fewer hfE, hA, by simpa using hb, fun _ _ _ => rfl, .sl false false sz [], by simp [Th], by
          simp only [Rep]; exact .inr ⟨trivial, b, off, sp, cap, [], rfl, hsp.imp id (fun _ => ⟨trivial, .inl trivial⟩), hcap, by simp [RepRow], .inr ⟨.inl trivial, rfl⟩⟩⟩
      · have hpos : 0 < rows.length := List.length_pos_iff.2 hne
        have hu : u = true := (hw.1.resolve_left hne).1
        have hsp : sp = none := hsp.resolve_right (fun h => hne h.1)
        subst hsp
        subst hu
        obtain ⟨hoff, hOe⟩ : off = 0 ∧ Ov = (b, rows.length * sz, cap * sz) :: O' := by
          rcases hO with ⟨_, k1, k2⟩ | ⟨k1, _⟩
          · exact ⟨k1, k2⟩
          · rcases k1 with k1 | k1
            · simp at k1
            · omega
        subst hoff hOe
        obtain ⟨vs, q1, q2, q3, q4⟩ := hrow.vals
        have hbO : (b, rows.length * sz, cap * sz) ∈ O := by
          have h1 := hf (isE (b, rows.length * sz, cap * sz))
          rw [List.countP_cons, if_pos ((isE_iff _ _).2 rfl)] at h1
          obtain ⟨z, hz, hze⟩ := List.countP_pos_iff.1 (show 0 < O.countP (isE (b, rows.length * sz, cap * sz)) by omega)
          exact (isE_iff _ _).1 hze ▸ hz
        obtain ⟨⟨cs, e', hcs, hsz, hone⟩, _, _⟩ := s.inv.own _ _ _ (List.mem_append.2 (.inl hbO))
        obtain ⟨B1, ν1, bs1, s1, hA1, hb1, hk1, ys, hth, hys⟩ := thaw_row rows B μ h OH O vs O' ((b, rows.length * sz, cap * sz) :: E) sz q3 hw.2 s hA hb q1 (fun p => by
          have := hf p
          simp only [List.countP_cons] at this ⊢
          omega) (fun b' hb' => hn b' (owns_cons.2 (.inr hb')))
        have hnb := hn b (owns_cons.2 (.inl rfl))
        have hcell : ∀ (j : Nat) (u : Value), vs[j]? = some u → cs[j]? = some u := by
          intro j u hj
          have := s.inv.cells _ _ _ (q4 j u hj).1
          rw [cell_of_block hcs] at this
          simpa using this
        have hle : vs.length ≤ cs.size := by
          rcases Nat.lt_or_ge cs.size vs.length with g | g
          · have := hcell cs.size _ (List.getElem?_eq_getElem g)
            simp at this
          · exact g
        have hsplit : cs.toList = vs ++ cs.toList.drop vs.length := by
          apply List.ext_getElem?
          intro j
          by_cases hj : j < vs.length
          · rw [List.getElem?_append_left hj, List.getElem?_eq_getElem hj, ← hcell j _ (List.getElem?_eq_getElem hj)]
            simp
          · rw [List.getElem?_append_right (by omega), List.getElem?_drop]
            congr 1; omega
        have hcells : RepVals A1 (μ ++ ν1) (ys ++ List.replicate (cs.toList.drop vs.length).length .dead) cs.toList [] := by
          rw [hsplit]
          have := RepVals.app hys (RepVals.dead (A := A1) (μ := μ ++ ν1) (cs.toList.drop vs.length))
          simpa [← hsplit] using this
        obtain ⟨s2, hb2, hA2⟩ := s1.adopt hA1 hb1 (b := b) (n := rows.length * sz) (c := cap * sz) (by simp) hnb.1 hnb.2.1 hnb.2.2 hcs hone _ hcells E (fun p => by simp only [List.countP_cons]; omega)
        refine ⟨B1.cut b, ν1 ++ [b], bs1 ++ [some (ys ++ List.replicate (cs.toList.drop vs.length).length .dead)], by simpa [List.replicate_succ', List.append_assoc] using s2, hA2, by simpa [List.replicate_succ', List.append_assoc] using hb2, fun b' hb' i => ?_, .ha (h.length + bs1.length) sz 0 rows.length cap, ?_, ?_⟩
        · rw [GM.cut_other (fun g => hb' (owns_cons.2 (.inl g)))]
          exact hk1 b' (fun g => hb' (owns_cons.2 (.inr g))) i
        · simp only [Th]
          exact .inr ⟨trivial, hne, ys, bs1, _, cap, hth, ⟨hcap, by
            have l2 := q1.length
            have l3 := hsz
            simp only [List.length_drop, Array.length_toList]
            have l4 := flatten_len rows q3
            omega⟩, rfl, rfl⟩
        · simp only [Rep]
          have l1 := s1.inv.len
          have l0 := s.inv.len
          simp only [List.length_append] at l1
          refine ⟨trivial, by simp; omega, ?_⟩
          rw [← List.append_assoc, List.getD_eq_getElem?_getD, List.getElem?_append_right (by simp; omega)]
          simp [show h.length + bs1.length - (μ.length + ν1.length) = 0 by omega]
  | .agg xs, B, μ, h, OH, O, v, Ov, E, hw, s, hA, hb, hr, hf, hn => by
    simp only [Whole] at hw
    simp only [Rep] at hr
    obtain ⟨vs, rfl, h1, h2⟩ := hr
    obtain ⟨B', ν, bs, g1, g2, g3, g4, ys, g5, g6⟩ := thaw_all xs B μ h OH O vs Ov E hw s hA hb h2 hf hn
    exact ⟨B', ν, bs, g1, g2, g3, g4, .agg ys, by simp only [Th]; exact ⟨ys, rfl, g5⟩, by simp only [Rep]; exact ⟨vs, rfl, h1, g6⟩⟩
  | .tup xs, B, μ, h, OH, O, v, Ov, E, hw, s, hA, hb, hr, hf, hn => by
    simp only [Whole] at hw
    simp only [Rep] at hr
    obtain ⟨vs, rfl, h2⟩ := hr
    obtain ⟨B', ν, bs, g1, g2, g3, g4, ys, g5, g6⟩ := thaw_all xs B μ h OH O vs Ov E hw s hA hb h2 hf hn
    exact ⟨B', ν, bs, g1, g2, g3, g4, .tup ys, by simp only [Th]; exact ⟨ys, rfl, g5⟩, by simp only [Rep]; exact ⟨vs, rfl, g6⟩⟩
  | .ha _ _ _ _ _, _, _, _, _, _, _, _, _, hw, _, _, _, _, _, _ => by simp [Whole] at hw
  | .ptr _ _, _, _, _, _, _, _, _, _, hw, _, _, _, _, _, _ => by simp [Whole] at hw
  | .rp _, _, _, _, _, _, _, _, _, hw, _, _, _, _, _, _ => by simp [Whole] at hw
  | .fn _ _, _, _, _, _, _, _, _, _, hw, _, _, _, _, _, _ => by simp [Whole] at hw
  | .fnm _ _, _, _, _, _, _, _, _, _, hw, _, _, _, _, _, _ => by simp [Whole] at hw
  | .raw _, _, _, _, _, _, _, _, _, hw, _, _, _, _, _, _ => by simp [Whole] at hw
  | .dead, _, _, _, _, _, _, _, _, hw, _, _, _, _, _, _ => by simp [Whole] at hw
  | .both _ _, _, _, _, _, _, _, _, _, hw, _, _, _, _, _, _ => by simp [Whole] at hw
theorem thaw_all : ∀ (xs : List LV) (B : GM) (μ : List Nat) (h : List Box) (OH : List (List Own)) (O : List Own) (vs : List Value) (Ov E : List Own), WholeAll xs → St' x w B μ h OH O → A1.Le B → BoxIn w A1 μ h OH → RepVals B μ xs vs Ov →
    (∀ p : Own → Bool, Ov.countP p + E.countP p ≤ O.countP p) → (∀ b, Owns Ov b → New x A1 b) →
    Thawed x w A1 B μ h OH Ov E fun bs ν => ∃ ys, ThAll xs h.length ys bs ∧ RepVals A1 (μ ++ ν) ys vs []
  | [], B, μ, h, OH, O, vs, Ov, E, hw, s, hA, hb, hr, hf, hn => by
    simp only [RepVals] at hr
    obtain ⟨rfl, rfl⟩ := hr
    exact ⟨B, [], [], by simpa using s.fewer (fun p => by have := hf p; simp at this; exact this), hA, by simpa using hb, fun _ _ _ => rfl, [], by simp [ThAll], by simp [RepVals]⟩
  | t :: xs, B, μ, h, OH, O, vs, Ov, E, hw, s, hA, hb, hr, hf, hn => by
    simp only [WholeAll] at hw
    simp only [RepVals] at hr
    obtain ⟨v, ws, O1, O2, rfl, rfl, h1, h2⟩ := hr
    obtain ⟨B1, ν1, bs1, s1, hA1, hb1, hk1, y, hth, hy⟩ := thaw_val t B μ h OH O v O1 (O2 ++ E) hw.1 s hA hb h1 (fun p => by have := hf p; simp only [List.countP_append] at this ⊢; omega) (fun b hb => hn b (owns_app.2 (.inl hb)))
    have h2' : RepVals B1 (μ ++ ν1) xs ws O2 := by
      refine RepVals.mono (fun _ _ _ h => h) xs ws O2 (RepVals.own xs ws O2 hw.2 h2 fun b hb i => hk1 b (fun h1 => apart_own s hf h1 hb) i)
    obtain ⟨B2, ν2, bs2, s2, hA2, hb2, hk2, ys, hths, hys⟩ := thaw_all xs B1 (μ ++ ν1) (h ++ bs1) _ (O2 ++ E) ws O2 E hw.2 s1 hA1 hb1 h2' (fun p => by simp) (fun b hb => hn b (owns_app.2 (.inr hb)))
    refine ⟨B2, ν1 ++ ν2, bs1 ++ bs2, ?_, hA2, ?_, fun b hb i => ?_, y :: ys, ?_, ?_⟩
    · simpa [List.append_assoc, ← List.replicate_append_replicate] using s2
    · simpa [List.append_assoc, ← List.replicate_append_replicate] using hb2
    · rw [hk2 b (fun g => hb (owns_app.2 (.inr g))), hk1 b (fun g => hb (owns_app.2 (.inl g)))]
    · simp only [ThAll]
      exact ⟨y, bs1, ys, bs2, hth, by simpa using hths, rfl, rfl⟩
    · simp only [RepVals]
      refine ⟨v, ws, [], [], rfl, rfl, ?_, by rw [← List.append_assoc]; exact hys⟩
      have := Rep.mono (ν := ν2) (fun _ _ _ h => h) y v [] hy
      rwa [List.append_assoc] at this
theorem thaw_row : ∀ (rows : List (List LV)) (B : GM) (μ : List Nat) (h : List Box) (OH : List (List Own)) (O : List Own) (vs : List Value) (Ov E : List Own) (sz : Nat), (∀ r ∈ rows, r.length = sz) → WholeRow rows → St' x w B μ h OH O → A1.Le B → BoxIn w A1 μ h OH → RepVals B μ rows.flatten vs Ov →
    (∀ p : Own → Bool, Ov.countP p + E.countP p ≤ O.countP p) → (∀ b, Owns Ov b → New x A1 b) →
    Thawed x w A1 B μ h OH Ov E fun bs ν => ∃ ys, ThRow rows sz h.length ys bs ∧ RepVals A1 (μ ++ ν) ys vs []
  | [], B, μ, h, OH, O, vs, Ov, E, sz, hl, hw, s, hA, hb, hr, hf, hn => by
    simp only [List.flatten_nil, RepVals] at hr
    obtain ⟨rfl, rfl⟩ := hr
    exact ⟨B, [], [], by simpa using s.fewer (fun p => by have := hf p; simp at this; exact this), hA, by simpa using hb, fun _ _ _ => rfl, [], by simp [ThRow], by simp [RepVals]⟩
  | row :: rows, B, μ, h, OH, O, vs, Ov, E, sz, hl, hw, s, hA, hb, hr, hf, hn => by
    simp only [WholeRow] at hw
    rw [List.flatten_cons] at hr
    obtain ⟨v1, v2, O1, O2, rfl, rfl, h1, h2⟩ := hr.split
    obtain ⟨B1, ν1, bs1, s1, hA1, hb1, hk1, y, hth, hy⟩ := thaw_all row B μ h OH O v1 O1 (O2 ++ E) hw.1 s hA hb h1 (fun p => by have := hf p; simp only [List.countP_append] at this ⊢; omega) (fun b hb => hn b (owns_app.2 (.inl hb)))
    have hwf : ∀ rows : List (List LV), WholeRow rows → WholeAll rows.flatten := by
      intro rows
      induction rows with
      | nil => intro _; simp [WholeAll]
      | cons r rs ih =>
        intro h
        simp only [WholeRow] at h
        rw [List.flatten_cons]
        have h3 := ih h.2
        clear ih
        have : ∀ r : List LV, WholeAll r → WholeAll (r ++ rs.flatten) := by
          intro r
          induction r with
          | nil => intro _; exact h3
          | cons a r ih => intro h; simp only [WholeAll] at h; exact ⟨h.1, ih h.2⟩
        exact this r h.1
    have h2' : RepVals B1 (μ ++ ν1) rows.flatten v2 O2 := by
      refine RepVals.mono (fun _ _ _ h => h) _ v2 O2 (RepVals.own _ v2 O2 (hwf rows hw.2) h2 fun b hb i => hk1 b (fun h1 => apart_own s hf h1 hb) i)
    obtain ⟨B2, ν2, bs2, s2, hA2, hb2, hk2, ys, hths, hys⟩ := thaw_row rows B1 (μ ++ ν1) (h ++ bs1) _ (O2 ++ E) v2 O2 E sz (fun r hr => hl r (by simp [hr])) hw.2 s1 hA1 hb1 h2' (fun p => by simp) (fun b hb => hn b (owns_app.2 (.inr hb)))
    refine ⟨B2, ν1 ++ ν2, bs1 ++ bs2, ?_, hA2, ?_, fun b hb i => ?_, y ++ ys, ?_, ?_⟩
    · simpa [List.append_assoc, ← List.replicate_append_replicate] using s2
    · simpa [List.append_assoc, ← List.replicate_append_replicate] using hb2
    · rw [hk2 b (fun g => hb (owns_app.2 (.inr g))), hk1 b (fun g => hb (owns_app.2 (.inl g)))]
    · simp only [ThRow]
      exact ⟨y, bs1, ys, bs2, hl row (by simp), hth, by simpa using hths, rfl, rfl⟩
    · have := RepVals.mono (ν := ν2) (fun _ _ _ h => h) y v1 [] hy
      rw [List.append_assoc] at this
      have h3 := RepVals.app this (by rw [← List.append_assoc]; exact hys)
      simpa using h3
end
end

/-! lending -/
mutual
/-- a tree seen through the variables: y stands for t -/
def View (h : List Box) : LV → LV → Prop
  | .sc v, y => y = .sc v
  | .sl u nl sz rows, y => u = false ∧ ((y = .sl false nl sz rows ∧ Low 0 y ∧ share y = y) ∨
      (nl = false ∧ ∃ l cap cells rest, y = .ha l sz 0 rows.length cap ∧ rows.length ≤ cap ∧ h[l]? = some (some (cells ++ rest)) ∧ ViewRow h rows sz cells))
  | .agg xs, y => ∃ ys, y = .agg ys ∧ ViewAll h xs ys
  | .tup xs, y => ∃ ys, y = .tup ys ∧ ViewAll h xs ys
  | _, _ => False
def ViewRow (h : List Box) : List (List LV) → Nat → List LV → Prop
  | [], _, cells => cells = []
  | row :: rows, sz, cells => ∃ c1 c2, row.length = sz ∧ ViewAll h row c1 ∧ ViewRow h rows sz c2 ∧ cells = c1 ++ c2
def ViewAll (h : List Box) : List LV → List LV → Prop
  | [], ys => ys = []
  | x :: xs, ys => ∃ y ys', View h x y ∧ ViewAll h xs ys' ∧ ys = y :: ys'
end

section
variable {P : Program}
open Classical in
/-- the variables' cells said of by the ghost memory -/
noncomputable def GM.lent (A : GM) (w : World) (μ : List Nat) (h : List Box) : GM := fun b i => if Live μ h b then w.cell? ⟨b, i, none⟩ else A b i
open Classical in
noncomputable def GM.back (B : GM) (μ : List Nat) (h : List Box) : GM := fun b i => if Live μ h b then none else B b i

section
variable {w : World} {A : GM} {μ : List Nat} {h : List Box} {OH : List (List Own)} {O : List Own}
theorem lent_le (i : WInv w A μ h OH O) : A.Le (A.lent w μ h) := by
  intro b j v hv
  unfold GM.lent
  split
  · exact i.cells b j v hv
  · exact hv
mutual
theorem View.rep (i : WInv w A μ h OH O) : ∀ (t y : LV) (v : Value) (Ov : List Own), View h t y → Rep A μ y v Ov → Rep (A.lent w μ h) [] t v [] ∧ Ov = []
  | .sc u, y, v, Ov, hv, hr => by
    simp only [View] at hv
    subst hv
    simp only [Rep] at hr ⊢
    exact ⟨⟨hr.1, trivial⟩, hr.2⟩
  | .sl u nl sz rows, y, v, Ov, hv, hr => by
    simp only [View] at hv
    obtain ⟨rfl, ⟨rfl, hlow, hsh⟩ | ⟨rfl, l, cap, cells, rest, rfl, hcap, hl, hrow⟩⟩ := hv
    · have hO := hr
      rw [← hsh] at hO
      have hO := Rep.shd _ _ _ hO
      subst hO
      have h1 := Rep.mono (ν := []) (lent_le i) _ v [] hr
      rw [List.append_nil] at h1
      exact ⟨Rep.low (k := 0) (by simp) (fun l hl => by omega) _ v [] hlow h1, rfl⟩
    · simp only [Rep] at hr ⊢
      obtain ⟨rfl, hlt, rfl⟩ := hr
      obtain ⟨c, e, g1, g2, g3⟩ := i.box l _ hl
      obtain ⟨v1, v2, O1, O2, e1, e2, k1, k2⟩ := g2.split
      obtain ⟨k3, k4⟩ := ViewRow.rep i rows sz cells v1 O1 hrow k1
      refine ⟨.inr ⟨trivial, μ.getD l 0, 0 * sz, none, cap, [], rfl, .inl rfl, hcap, ?_, .inr ⟨.inl trivial, rfl⟩⟩, rfl⟩
      refine RepRow.of_vals k4 k3 fun j u hj => ?_
      have hcj : c[j]? = some u := by
        rw [← Array.getElem?_toList, e1, List.getElem?_append_left (by
          rcases Nat.lt_or_ge j v1.length with g | g
          · exact g
          · rw [List.getElem?_eq_none g] at hj; simp at hj)]
        exact hj
      refine ⟨?_, g3 u (by rw [e1]; exact List.mem_append.2 (.inl (List.mem_of_getElem? hj)))⟩
      unfold GM.lent
      rw [if_pos ⟨l, _, hl, rfl⟩, cell_of_block g1, Nat.zero_mul, Nat.zero_add]
      exact hcj
  | .agg xs, y, v, Ov, hv, hr => by
    simp only [View] at hv
    obtain ⟨ys, rfl, hv⟩ := hv
    simp only [Rep] at hr ⊢
    obtain ⟨vs, h1, h0, h2⟩ := hr
    obtain ⟨h3, h4⟩ := ViewAll.rep i xs ys vs Ov hv h2
    exact ⟨⟨vs, h1, h0, h3⟩, h4⟩
  | .ha _ _ _ _ _, _, _, _, hv, _ => by simp [View] at hv
  | .ptr _ _, _, _, _, hv, _ => by simp [View] at hv
  | .rp _, _, _, _, hv, _ => by simp [View] at hv
  | .fn _ _, _, _, _, hv, _ => by simp [View] at hv
  | .fnm _ _, _, _, _, hv, _ => by simp [View] at hv
  | .tup xs, y, v, Ov, hv, hr => by
    simp only [View] at hv
    obtain ⟨ys, rfl, hv⟩ := hv
    simp only [Rep] at hr ⊢
    obtain ⟨vs, h1, h2⟩ := hr
    obtain ⟨h3, h4⟩ := ViewAll.rep i xs ys vs Ov hv h2
    exact ⟨⟨vs, h1, h3⟩, h4⟩
  | .raw _, _, _, _, hv, _ => by simp [View] at hv
  | .dead, _, _, _, hv, _ => by simp [View] at hv
  | .both _ _, _, _, _, hv, _ => by simp [View] at hv
theorem ViewRow.rep (i : WInv w A μ h OH O) : ∀ (rows : List (List LV)) (sz : Nat) (cells : List LV) (vs : List Value) (Ov : List Own), ViewRow h rows sz cells → RepVals A μ cells vs Ov → RepVals (A.lent w μ h) [] rows.flatten vs [] ∧ (∀ r ∈ rows, r.length = sz)
  | [], sz, cells, vs, Ov, hv, hr => by
    simp only [ViewRow] at hv
    subst hv
    simp only [RepVals] at hr
    simp [RepVals, hr.1]
  | row :: rows, sz, cells, vs, Ov, hv, hr => by
    simp only [ViewRow] at hv
    obtain ⟨c1, c2, hl, h1, h2, rfl⟩ := hv
    obtain ⟨v1, v2, O1, O2, rfl, rfl, k1, k2⟩ := hr.split
    obtain ⟨g1, _⟩ := ViewAll.rep i row c1 v1 O1 h1 k1
    obtain ⟨g2, g3⟩ := ViewRow.rep i rows sz c2 v2 O2 h2 k2
    refine ⟨?_, fun r hr => ?_⟩
    · rw [List.flatten_cons]
      exact RepVals.app (O1 := []) (O2 := []) g1 g2
    · rcases List.mem_cons.1 hr with rfl | hr
      · exact hl
      · exact g3 r hr
theorem ViewAll.rep (i : WInv w A μ h OH O) : ∀ (xs ys : List LV) (vs : List Value) (Ov : List Own), ViewAll h xs ys → RepVals A μ ys vs Ov → RepVals (A.lent w μ h) [] xs vs [] ∧ Ov = []
  | [], ys, vs, Ov, hv, hr => by
    simp only [ViewAll] at hv
    subst hv
    simp only [RepVals] at hr ⊢
    exact ⟨⟨hr.1, trivial⟩, hr.2⟩
  | x :: xs, ys, vs, Ov, hv, hr => by
    simp only [ViewAll] at hv
    obtain ⟨y, ys', h1, h2, rfl⟩ := hv
    simp only [RepVals] at hr ⊢
    obtain ⟨v, ws, O1, O2, rfl, rfl, k1, k2⟩ := hr
    obtain ⟨g1, g2⟩ := View.rep i x y v O1 h1 k1
    obtain ⟨g3, g4⟩ := ViewAll.rep i xs ys' ws O2 h2 k2
    exact ⟨⟨v, ws, [], [], rfl, rfl, g1, g3⟩, by rw [g2, g4]; rfl⟩
end
end

/-- the end of a call to which variables were lent: its result owns all that it reaches -/
theorem Gives.lendCore {f : FuncId} {args hs : List LV} {R : LV → Prop} {h : List Box} (c : Gives P f args R) (hv : ViewAll h args hs) (hR : ∀ r, R r → Whole r)
    (w : World) (A : GM) (μ : List Nat) (OH : List (List Own)) (vals : List Value) (Oa : List Own) (hr : RepVals A μ hs vals Oa) (hi : WInv w A μ h OH Oa) :
    Oa = [] ∧ Calls P f vals.toArray w fun e w' => ∃ v r B O', e = .returned v ∧ R r ∧ Rep B [] r v O' ∧ St' (CallCx w A μ h OH []) w' B μ h OH O' ∧ (∀ b, Owns O' b → w.heap.size ≤ b) ∧ ∀ b, b < w.heap.size → w'.heap[b]? = w.heap[b]? := by
  obtain ⟨h1, _, h2⟩ := c
  obtain ⟨hr0, hOa⟩ := ViewAll.rep hi args hs vals Oa hv hr
  subst hOa
  refine ⟨rfl, ?_⟩
  have hi0 : WInv w (A.lent w μ h) [] [] [] [] := by
    refine ⟨rfl, rfl, ?_, by simp, ?_, by simp, ?_, ?_⟩
    · intro b i v hv
      unfold GM.lent at hv
      split at hv
      · exact hv
      · exact hi.cells b i v hv
    · rintro b ⟨l, xs, hl, _⟩; simp at hl
    · intro b m k hm; simp at hm
    · intro b; simp
  refine (h2 w (A.lent w μ h) [] [] vals [] hr0 hi0).mono fun e w' he => ?_
  obtain ⟨v, r, h', B, ν, OH', O', g1, ⟨g2, glow⟩, g3, g4⟩ := he
  have g5 := g4.cut 0 (by simp [CallCx]) (fun l xs hl => by omega) (Nat.zero_le _)
  simp only [List.take_zero] at g5
  have g3' := Rep.low (k := 0) (ν := []) (by simp) (fun l hl => by omega) r v O' glow g3
  have hnew : ∀ b m k, (b, m, k) ∈ O' → w.heap.size ≤ b := by
    intro b m k hm
    rcases g5.since.ownT b m k (by simpa using hm) with k | k
    · exact k
    · rcases k with ⟨l, xs, k, _⟩ | ⟨m, q, k⟩
      · simp at k
      · simp at k
  have hnl : ∀ b, w.heap.size ≤ b → ¬ Live μ h b := fun b hb hl => by have := hi.live_lt hl; omega
  have g6 : St' (CallCx w A [] [] [] []) w' (B.back μ h) [] [] [] O' := by
    refine ⟨⟨rfl, rfl, fun b i v hv => ?_, by simp, ?_, by simp, ?_, g5.inv.once⟩, ⟨g5.since.size, ?_, g5.since.ownT, g5.since.liveT, ?_, g5.since.ext, g5.since.still⟩⟩
    · unfold GM.back at hv
      split at hv
      · simp at hv
      · exact g5.inv.cells b i v hv
    · rintro b ⟨l, xs, hl, _⟩; simp at hl
    · intro b m k hm
      obtain ⟨q1, q2, q3⟩ := g5.inv.own b m k hm
      refine ⟨q1, fun i hi => ?_, q3⟩
      unfold GM.back
      split
      · rfl
      · exact q2 i hi
    · intro b hb ht
      obtain ⟨q1, q2⟩ := g5.since.kept b hb ht
      refine ⟨q1, fun i => ?_⟩
      unfold GM.back
      split
      · rename_i hl; exact (hi.loose b hl i).symm
      · rename_i hl
        rw [q2 i]
        show A.lent w μ h b i = A b i
        unfold GM.lent
        rw [if_neg hl]
    · intro b i v hv
      unfold GM.back
      have hl : ¬ Live μ h b := fun hl => by
        have := hi.loose b hl i
        rw [show A b i = some v from hv] at this; simp at this
      rw [if_neg hl]
      exact g5.since.le b i v (lent_le hi b i v hv)
  refine ⟨v, r, B.back μ h, O', g1, g2, Rep.own r v O' (hR r g2) g3' fun b hb i => ?_, St'.frame (h := h) hi g6, fun b hb => ?_, fun b hb => (g5.since.kept b hb (by rintro (⟨l, xs, k, _⟩ | ⟨m, q, k⟩) <;> simp at k)).1⟩
  · obtain ⟨m, k, hm⟩ := hb
    unfold GM.back
    rw [if_neg (hnl b (hnew b m k hm))]
  · obtain ⟨m, k, hm⟩ := hb
    exact hnew b m k hm

theorem Whole.low0 : ∀ t : LV, Whole t → Low 0 t
  | .sc _, _ => by simp
  | .sl _ _ _ rows, h => by simp only [Whole] at h; simp only [Low]; exact goR rows h.2
  | .agg xs, h => by simp only [Whole] at h; simp only [Low]; exact goA xs h
  | .tup xs, h => by simp only [Whole] at h; simp only [Low]; exact goA xs h
  | .ha _ _ _ _ _, h => by simp [Whole] at h
  | .ptr _ _, h => by simp [Whole] at h
  | .rp _, h => by simp [Whole] at h
  | .fn _ _, h => by simp [Whole] at h
  | .fnm _ _, h => by simp [Whole] at h
  | .raw _, h => by simp [Whole] at h
  | .dead, h => by simp [Whole] at h
  | .both _ _, h => by simp [Whole] at h
where
  goA : ∀ xs : List LV, WholeAll xs → LowAll 0 xs
    | [], _ => by simp
    | x :: xs, h => by simp only [WholeAll] at h; simp only [LowAll]; exact ⟨Whole.low0 x h.1, goA xs h.2⟩
  goR : ∀ xs : List (List LV), WholeRow xs → LowRow 0 xs
    | [], _ => by simp
    | x :: xs, h => by simp only [WholeRow] at h; simp only [LowRow]; exact ⟨goA x h.1, goR xs h.2⟩

/-- a call to which variables are lent: they stay -/
theorem Gives.lend {f : FuncId} {args hs : List LV} {R : LV → Prop} {h : List Box} (c : Gives P f args R) (hv : ViewAll h args hs) (hR : ∀ r, R r → Whole r) :
    LCalls P f hs h (fun r h' => h' = h ∧ R r) := by
  have c' := c
  obtain ⟨h1, ⟨r, _, hr, _⟩, _⟩ := c'
  refine ⟨h1, ⟨r, h, rfl, hr⟩, fun w A μ OH vals Oa hr hi => ?_⟩
  obtain ⟨rfl, hc⟩ := c.lendCore hv hR w A μ OH vals Oa hr hi
  refine hc.mono fun e w' he => ?_
  obtain ⟨v, r, B, O', g1, g2, g3, g4, _⟩ := he
  exact ⟨v, r, h, B, [], OH, O', g1, ⟨rfl, g2⟩, Rep.low (k := 0) (by simp) (fun l hl => by omega) r v O' (Whole.low0 r (hR r g2)) g3, by rw [List.append_nil]; exact g4⟩

mutual
theorem th_ex : ∀ (t : LV), Whole t → ∀ n, ∃ y bs, Th t n y bs
  | .sc v, _, _ => ⟨_, _, by simp only [Th]; exact ⟨rfl, rfl⟩⟩
  | .sl u nl sz rows, h, n => by
    simp only [Th]
    simp only [Whole] at h
    by_cases hr : rows = []
    · exact ⟨_, _, .inl ⟨hr, rfl, rfl⟩⟩
    · obtain ⟨_, h2, h3⟩ := h.1.resolve_left hr
      obtain ⟨cells, bs, g⟩ := thRow_ex rows h.2 sz h3 n
      exact ⟨_, _, .inr ⟨h2, hr, cells, bs, 0, rows.length, g, ⟨Nat.le_refl _, rfl⟩, rfl, rfl⟩⟩
  | .agg xs, h, n => by
    simp only [Whole] at h
    obtain ⟨ys, bs, g⟩ := thAll_ex xs h n
    exact ⟨.agg ys, bs, by simp only [Th]; exact ⟨ys, rfl, g⟩⟩
  | .tup xs, h, n => by
    simp only [Whole] at h
    obtain ⟨ys, bs, g⟩ := thAll_ex xs h n
    exact ⟨.tup ys, bs, by simp only [Th]; exact ⟨ys, rfl, g⟩⟩
  | .ha _ _ _ _ _, h, _ => by simp [Whole] at h
  | .ptr _ _, h, _ => by simp [Whole] at h
  | .rp _, h, _ => by simp [Whole] at h
  | .fn _ _, h, _ => by simp [Whole] at h
  | .fnm _ _, h, _ => by simp [Whole] at h
  | .raw _, h, _ => by simp [Whole] at h
  | .dead, h, _ => by simp [Whole] at h
  | .both _ _, h, _ => by simp [Whole] at h
theorem thAll_ex : ∀ (xs : List LV), WholeAll xs → ∀ n, ∃ ys bs, ThAll xs n ys bs
  | [], _, _ => ⟨_, _, by simp only [ThAll]; exact ⟨rfl, rfl⟩⟩
  | x :: xs, h, n => by
    simp only [WholeAll] at h
    obtain ⟨y, b1, g1⟩ := th_ex x h.1 n
    obtain ⟨ys, b2, g2⟩ := thAll_ex xs h.2 (n + b1.length)
    exact ⟨_, _, by simp only [ThAll]; exact ⟨y, b1, ys, b2, g1, g2, rfl, rfl⟩⟩
theorem thRow_ex : ∀ (rows : List (List LV)), WholeRow rows → ∀ sz, (∀ r ∈ rows, r.length = sz) → ∀ n, ∃ ys bs, ThRow rows sz n ys bs
  | [], _, _, _, _ => ⟨_, _, by simp only [ThRow]; exact ⟨rfl, rfl⟩⟩
  | x :: xs, h, sz, hl, n => by
    simp only [WholeRow] at h
    obtain ⟨y, b1, g1⟩ := thAll_ex x h.1 n
    obtain ⟨ys, b2, g2⟩ := thRow_ex xs h.2 sz (fun r hr => hl r (by simp [hr])) (n + b1.length)
    exact ⟨_, _, by simp only [ThRow]; exact ⟨y, b1, ys, b2, hl x (by simp), g1, g2, rfl, rfl⟩⟩
end

/-- a call to which variables are lent, and whose result is taken as variables of one's own -/
theorem Gives.lendThaw {f : FuncId} {args hs : List LV} {R : LV → Prop} {h : List Box} (c : Gives P f args R) (hv : ViewAll h args hs) (hR : ∀ r, R r → Whole r) :
    LCalls P f hs h (fun r h' => ∃ t bs, R t ∧ Th t h.length r bs ∧ h' = h ++ bs) := by
  have c' := c
  obtain ⟨h1, hex, _⟩ := c'
  refine ⟨h1, ?_, fun w A μ OH vals Oa hr hi => ?_⟩
  · obtain ⟨r, _, hr, _⟩ := hex
    obtain ⟨y, bs, hy⟩ := th_ex r (hR r hr) h.length
    exact ⟨y, h ++ bs, r, bs, hr, hy, rfl⟩
  obtain ⟨rfl, hc⟩ := c.lendCore hv hR w A μ OH vals Oa hr hi
  refine hc.mono fun e w' he => ?_
  obtain ⟨v, r, B, O', g1, g2, g3, g4, g5, g6⟩ := he
  have hlow := Rep.low (k := 0) (ν := μ) (by simp) (fun l hl => by omega) r v O' (Whole.low0 r (hR r g2)) g3
  have hbx : BoxIn w' A μ h OH := by
    intro l xs hl
    obtain ⟨c, e, q1, q2, q3⟩ := hi.box l xs hl
    exact ⟨c, e, by rw [g6 _ (hi.live_lt ⟨l, xs, hl, rfl⟩)]; exact q1, q2, q3⟩
  obtain ⟨B', ν, bs, s2, _, _, _, y, hth, hy⟩ := thaw_val (x := CallCx w A μ h OH []) (A1 := A) r B μ h OH O' v O' [] (hR r g2) g4 g4.since.le hbx hlow (fun p => by simp) (fun b hb => ⟨g5 b hb, fun i => hi.unsettled (g5 b hb) i, fun i => hi.unsettled (g5 b hb) i⟩)
  have hyB := Rep.mono (ν := []) (show A.Le B' by assumption) y v [] hy
  rw [List.append_nil] at hyB
  exact ⟨v, y, h ++ bs, B', ν, _, [], g1, ⟨r, bs, g2, hth, rfl⟩, hyB, s2⟩
end
end Go.TL
