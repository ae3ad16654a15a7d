/- Part 3 of the proof of the row of the text YtclfngbealdbgaaGreatZRowForgetTerm: texts joined. No conditions. -/
import Derived.Test.YtclfngbealdbgaaGreatZbRowForgetTerm
namespace Go.TL
section
variable {A : GM} {μ : List Nat}
mutual
theorem Rep.shd : ∀ (x : LV) (v : Value) (O : List Own), Rep A μ (share x) v O → O = []
  | .sc _, _, _, h => by simp only [share, Rep] at h; exact h.2
  | .sl _ _ _ xs, _, _, h => by
    simp only [share, Rep] at h
    rcases h with ⟨_, _, _, h⟩ | ⟨_, b, off, sp, cap, O', _, _, _, h4, h5⟩
    · exact h
    · have := RepRow.shd xs _ _ _ _ h4
      rcases h5 with ⟨h, _⟩ | ⟨_, h⟩
      · simp at h
      · rw [h, this]
  | .ha _ _ _ _ _, _, _, h => by simp only [share, Rep] at h; exact h.1
  | .ptr _ _, _, _, h => by simp only [share, Rep] at h; exact h.1
  | .rp xs, _, _, h => by
    simp only [share, Rep] at h
    obtain ⟨b, off, _, h2⟩ := h
    exact RepCells.shd xs _ _ _ h2
  | .fn _ xs, _, _, h => by
    simp only [share, Rep] at h
    obtain ⟨vs, _, h2⟩ := h
    exact RepVals.shd xs _ _ h2
  | .fnm _ xs, _, _, h => by
    simp only [share, Rep] at h
    obtain ⟨vs, _, h2⟩ := h
    exact RepVals.shd xs _ _ h2
  | .agg xs, _, _, h => by
    simp only [share, Rep] at h
    obtain ⟨vs, _, _, h2⟩ := h
    exact RepVals.shd xs _ _ h2
  | .tup xs, _, _, h => by
    simp only [share, Rep] at h
    obtain ⟨vs, _, h2⟩ := h
    exact RepVals.shd xs _ _ h2
  | .raw _, _, _, h => by simpa only [share, Rep] using h
  | .dead, _, _, h => by simpa only [share, Rep] using h
  | .both _ t, _, _, h => by simp only [share] at h; exact Rep.shd t _ _ h
theorem RepRow.shd : ∀ (xs : List (List LV)) (sz b off : Nat) (O : List Own), RepRow A μ (shareRow xs) sz b off O → O = []
  | [], _, _, _, _, h => by simpa only [shareRow, RepRow] using h
  | x :: xs, _, _, _, _, h => by
    simp only [shareRow, RepRow] at h
    obtain ⟨O1, O2, h1, _, h3, h4⟩ := h
    rw [h1, RepCells.shd x _ _ _ h3, RepRow.shd xs _ _ _ _ h4]; rfl
theorem RepCells.shd : ∀ (xs : List LV) (b off : Nat) (O : List Own), RepCells A μ (shareAll xs) b off O → O = []
  | [], _, _, _, h => by simpa only [shareAll, RepCells] using h
  | x :: xs, _, _, _, h => by
    simp only [shareAll, RepCells] at h
    obtain ⟨v, O1, O2, h1, _, _, h3, h4⟩ := h
    rw [h1, Rep.shd x _ _ h3, RepCells.shd xs _ _ _ h4]; rfl
theorem RepVals.shd : ∀ (xs : List LV) (vs : List Value) (O : List Own), RepVals A μ (shareAll xs) vs O → O = []
  | [], _, _, h => by simp only [shareAll, RepVals] at h; exact h.2
  | x :: xs, _, _, h => by
    simp only [shareAll, RepVals] at h
    obtain ⟨v, ws, O1, O2, _, h1, h3, h4⟩ := h
    rw [h1, Rep.shd x _ _ h3, RepVals.shd xs _ _ h4]; rfl
end
end
mutual
def Whole : LV → Prop
  | .sc _ => True
  | .sl u nl sz rows => (rows = [] ∨ (u = true ∧ nl = false ∧ ∀ r ∈ rows, r.length = sz)) ∧ WholeRow rows
  | .agg xs => WholeAll xs
  | .tup xs => WholeAll xs
  | _ => False
def WholeAll : List LV → Prop
  | [] => True
  | x :: xs => Whole x ∧ WholeAll xs
def WholeRow : List (List LV) → Prop
  | [] => True
  | x :: xs => WholeAll x ∧ WholeRow xs
end
mutual
def Th : LV → Nat → LV → List Box → Prop
  | .sc v, _, y, bs => y = .sc v ∧ bs = []
  | .sl _ nl sz rows, n, y, bs => (rows = [] ∧ y = .sl false nl sz [] ∧ bs = []) ∨
      (nl = false ∧ rows ≠ [] ∧ ∃ cells bs' slack cap, ThRow rows sz n cells bs' ∧ (rows.length ≤ cap ∧ rows.length * sz + slack = cap * sz) ∧ y = .ha (n + bs'.length) sz 0 rows.length cap ∧ bs = bs' ++ [some (cells ++ List.replicate slack .dead)])
  | .agg xs, n, y, bs => ∃ ys, y = .agg ys ∧ ThAll xs n ys bs
  | .tup xs, n, y, bs => ∃ ys, y = .tup ys ∧ ThAll xs n ys bs
  | _, _, _, _ => False
def ThRow : List (List LV) → Nat → Nat → List LV → List Box → Prop
  | [], _, _, cells, bs => cells = [] ∧ bs = []
  | row :: rows, sz, n, cells, bs => ∃ c1 b1 c2 b2, row.length = sz ∧ ThAll row n c1 b1 ∧ ThRow rows sz (n + b1.length) c2 b2 ∧ cells = c1 ++ c2 ∧ bs = b1 ++ b2
def ThAll : List LV → Nat → List LV → List Box → Prop
  | [], _, ys, bs => ys = [] ∧ bs = []
  | x :: xs, n, ys, bs => ∃ y b1 ys' b2, Th x n y b1 ∧ ThAll xs (n + b1.length) ys' b2 ∧ ys = y :: ys' ∧ bs = b1 ++ b2
end
section
variable {B B' : GM} {μ : List Nat}
theorem owns_app {O1 O2 : List Own} {b : Nat} : Owns (O1 ++ O2) b ↔ Owns O1 b ∨ Owns O2 b := by
  simp only [Owns, List.mem_append]
  constructor
  · rintro ⟨n, c, h | h⟩
    · exact .inl ⟨n, c, h⟩
    · exact .inr ⟨n, c, h⟩
  · rintro (⟨n, c, h⟩ | ⟨n, c, h⟩)
    · exact ⟨n, c, .inl h⟩
    · exact ⟨n, c, .inr h⟩
theorem owns_cons {e : Own} {O : List Own} {b : Nat} : Owns (e :: O) b ↔ b = e.1 ∨ Owns O b := by
  obtain ⟨b', n', c'⟩ := e
  simp only [Owns, List.mem_cons, Prod.mk.injEq]
  constructor
  · rintro ⟨n, c, ⟨h, _⟩ | h⟩
    · exact .inl h
    · exact .inr ⟨n, c, h⟩
  · rintro (h | ⟨n, c, h⟩)
    · exact ⟨n', c', .inl ⟨h, rfl, rfl⟩⟩
    · exact ⟨n, c, .inr h⟩
mutual
theorem Rep.own : ∀ (t : LV) (v : Value) (O : List Own), Whole t → Rep B μ t v O → (∀ b, Owns O b → ∀ i, B' b i = B b i) → Rep B' μ t v O
  | .sc _, _, _, _, h, _ => by simpa only [Rep] using h
  | .sl _ _ _ rows, v, O, hw, h, ho => by
    simp only [Whole] at hw
    simp only [Rep] at h ⊢
    rcases h with h | ⟨h1, b, off, sp, cap, O', h2, hs, h3, h4, h5⟩
    · exact .inl h
    · refine .inr ⟨h1, b, off, sp, cap, O', h2, hs, h3, ?_, h5⟩
      rcases h5 with ⟨k1, k2, k3⟩ | ⟨k1, k2⟩
      · subst k3
        exact RepRow.own rows _ _ _ _ hw.2 h4 (fun i => ho b (owns_cons.2 (.inl rfl)) i) (fun b' hb' => ho b' (owns_cons.2 (.inr hb')))
      · subst k2
        have hr : rows = [] := by
          rcases hw.1 with k | k
          · exact k
          · rcases k1 with k1 | k1
            · rw [k.1] at k1; simp at k1
            · exact List.eq_nil_of_length_eq_zero (by omega)
        subst hr
        simpa only [RepRow] using h4
  | .agg xs, _, _, hw, h, ho => by
    simp only [Whole] at hw
    simp only [Rep] at h ⊢
    obtain ⟨vs, h1, h0, h2⟩ := h
    exact ⟨vs, h1, h0, RepVals.own xs _ _ hw h2 ho⟩
  | .tup xs, _, _, hw, h, ho => by
    simp only [Whole] at hw
    simp only [Rep] at h ⊢
    obtain ⟨vs, h1, h2⟩ := h
    exact ⟨vs, h1, RepVals.own xs _ _ hw h2 ho⟩
  | .ha _ _ _ _ _, _, _, hw, _, _ => by simp [Whole] at hw
  | .ptr _ _, _, _, hw, _, _ => by simp [Whole] at hw
  | .rp _, _, _, hw, _, _ => by simp [Whole] at hw
  | .fn _ _, _, _, hw, _, _ => by simp [Whole] at hw
  | .fnm _ _, _, _, hw, _, _ => by simp [Whole] at hw
  | .raw _, _, _, hw, _, _ => by simp [Whole] at hw
  | .dead, _, _, hw, _, _ => by simp [Whole] at hw
  | .both _ _, _, _, hw, _, _ => by simp [Whole] at hw
theorem RepRow.own : ∀ (rows : List (List LV)) (sz b off : Nat) (O : List Own), WholeRow rows → RepRow B μ rows sz b off O → (∀ i, B' b i = B b i) → (∀ b, Owns O b → ∀ i, B' b i = B b i) → RepRow B' μ rows sz b off O
  | [], _, _, _, _, _, h, _, _ => by simpa only [RepRow] using h
  | x :: xs, _, b, _, _, hw, h, hb, ho => by
    simp only [WholeRow] at hw
    simp only [RepRow] at h ⊢
    obtain ⟨O1, O2, h1, h2, h3, h4⟩ := h
    subst h1
    exact ⟨O1, O2, rfl, h2, RepCells.own x _ _ _ hw.1 h3 hb (fun b' h' => ho b' (owns_app.2 (.inl h'))), RepRow.own xs _ _ _ _ hw.2 h4 hb (fun b' h' => ho b' (owns_app.2 (.inr h')))⟩
theorem RepCells.own : ∀ (xs : List LV) (b off : Nat) (O : List Own), WholeAll xs → RepCells B μ xs b off O → (∀ i, B' b i = B b i) → (∀ b, Owns O b → ∀ i, B' b i = B b i) → RepCells B' μ xs b off O
  | [], _, _, _, _, h, _, _ => by simpa only [RepCells] using h
  | x :: xs, b, _, _, hw, h, hb, ho => by
    simp only [WholeAll] at hw
    simp only [RepCells] at h ⊢
    obtain ⟨v, O1, O2, h1, h2, h2', h3, h4⟩ := h
    subst h1
    exact ⟨v, O1, O2, rfl, by rw [hb]; exact h2, h2', Rep.own x _ _ hw.1 h3 (fun b' h' => ho b' (owns_app.2 (.inl h'))), RepCells.own xs _ _ _ hw.2 h4 hb (fun b' h' => ho b' (owns_app.2 (.inr h')))⟩
theorem RepVals.own : ∀ (xs : List LV) (vs : List Value) (O : List Own), WholeAll xs → RepVals B μ xs vs O → (∀ b, Owns O b → ∀ i, B' b i = B b i) → RepVals B' μ xs vs O
  | [], _, _, _, h, _ => by simpa only [RepVals] using h
  | x :: xs, _, _, hw, h, ho => by
    simp only [WholeAll] at hw
    simp only [RepVals] at h ⊢
    obtain ⟨v, ws, O1, O2, h1, h2, h3, h4⟩ := h
    subst h2
    exact ⟨v, ws, O1, O2, h1, rfl, Rep.own x _ _ hw.1 h3 (fun b' h' => ho b' (owns_app.2 (.inl h'))), RepVals.own xs _ _ hw.2 h4 (fun b' h' => ho b' (owns_app.2 (.inr h')))⟩
end
end
def GM.cut (A : GM) (b : Nat) : GM := fun b' i => if b' = b then none else A b' i
theorem GM.cut_some {A : GM} {b b' i : Nat} {v : Value} (h : A.cut b b' i = some v) : A b' i = some v ∧ b' ≠ b := by
  unfold GM.cut at h
  split at h
  · simp at h
  · exact ⟨h, by assumption⟩
theorem GM.cut_other {A : GM} {b b' : Nat} (h : b' ≠ b) (i : Nat) : A.cut b b' i = A b' i := by
  unfold GM.cut; rw [if_neg h]
def BoxIn (w : World) (A : GM) (μ : List Nat) (h : List Box) (OH : List (List Own)) : Prop :=
  ∀ l xs, h[l]? = some (some xs) → ∃ c e, w.heap[μ.getD l 0]? = some (.cells c e (0, 0)) ∧ RepVals A μ xs c.toList (OH.getD l []) ∧ (∀ v ∈ c.toList, v.oneCell' = true)
section
variable {x : Cx} {w : World} {A1 B : GM} {μ : List Nat} {h : List Box} {OH : List (List Own)} {O : List Own}
theorem St'.adopt (s : St' x w B μ h OH O) (hA1 : A1.Le B) (hbx : BoxIn w A1 μ h OH) {b n c : Nat} (hm : (b, n, c) ∈ O) (hnew : x.w0.heap.size ≤ b) (hA0 : ∀ i, x.A0 b i = none) (hA1b : ∀ i, A1 b i = none)
    {cs : Array Value} {e : TypeId} (hb : w.heap[b]? = some (.cells cs e (0, 0))) (h1 : ∀ v ∈ cs.toList, v.oneCell' = true) (xs : List LV) (hr : RepVals A1 μ xs cs.toList [])
    (O2 : List Own) (hf : ∀ p : Own → Bool, O2.countP p + (if p (b, n, c) then 1 else 0) ≤ O.countP p) :
    St' x w (B.cut b) (μ ++ [b]) (h ++ [some xs]) (OH ++ [[]]) O2 ∧ BoxIn w A1 (μ ++ [b]) (h ++ [some xs]) (OH ++ [[]]) ∧ A1.Le (B.cut b) := by
  have hlen := s.inv.len
  have hlenO := s.inv.lenO
  have hmono : ∀ xs vs O, RepVals A1 μ xs vs O → RepVals A1 (μ ++ [b]) xs vs O := fun xs vs O => RepVals.mono (fun _ _ _ h => h) xs vs O
  have hfl : (OH ++ [[]]).flatten = OH.flatten := by simp
  have hnl : ¬ Live μ h b := (s.inv.own b n c (List.mem_append.2 (.inl hm))).2.2
  have hfew : Fewer O2 O := fun p => by have := hf p; omega
  have honce : (O2 ++ OH.flatten).countP (isAt b) = 0 := by
    have h2 := s.inv.once b
    have h3 := hf (isAt b)
    simp only [List.countP_append] at h2 ⊢
    have : (if isAt b (b, n, c) = true then 1 else 0) = 1 := by simp [isAt]
    omega
  have hno : ∀ m k, (b, m, k) ∉ O2 ++ OH.flatten := fun m k hmk => by
    have := owns_count.1 ⟨m, k, hmk⟩
    omega
  have hmemO : ∀ e, e ∈ O2 ++ OH.flatten → e ∈ O ++ OH.flatten := fun e he => (hfew.app (.refl _)).mem he
  have hA1c : A1.Le (B.cut b) := by
    intro b' i v hv
    unfold GM.cut
    split
    · rename_i hb'; rw [hb', hA1b i] at hv; simp at hv
    · exact hA1 b' i v hv
  have hbx2 : BoxIn w A1 (μ ++ [b]) (h ++ [some xs]) (OH ++ [[]]) := by
    intro l ys hl
    rcases Nat.lt_trichotomy l h.length with hlt | heq | hgt
    · rw [List.getElem?_append_left hlt] at hl
      obtain ⟨c, e', g1, g2, g3⟩ := hbx l ys hl
      rw [getD_prefix (by omega)]
      refine ⟨c, e', g1, ?_, g3⟩
      rw [List.getD_eq_getElem?_getD, List.getElem?_append_left (by omega), ← List.getD_eq_getElem?_getD]
      exact hmono _ _ _ g2
    · subst heq
      simp at hl
      subst hl
      refine ⟨cs, e, ?_, ?_, h1⟩
      · rw [List.getD_eq_getElem?_getD, List.getElem?_append_right (by omega)]
        simp [hlen, hb]
      · rw [List.getD_eq_getElem?_getD, List.getElem?_append_right (by omega)]
        simp [hlenO]
        exact hmono _ _ _ hr
    · rw [List.getElem?_eq_none (by simp; omega)] at hl; simp at hl
  refine ⟨⟨⟨by simp [hlen], by simp [hlenO], fun b' i v hv => s.inv.cells b' i v (GM.cut_some hv).1, ?_, ?_, ?_, ?_, ?_⟩, ⟨s.since.size, ?_, ?_, ?_, ?_, ?_, s.since.still⟩⟩, hbx2, hA1c⟩
  · intro l ys hl
    obtain ⟨c, e', g1, g2, g3⟩ := hbx2 l ys hl
    have := RepVals.mono (ν := []) hA1c ys c.toList _ g2
    rw [List.append_nil] at this
    exact ⟨c, e', g1, this, g3⟩
  · intro b' hb' i
    unfold GM.cut
    split
    · rfl
    · rename_i hne
      rcases live_app hlen hb' with hb' | ⟨h, _⟩
      · exact s.inv.loose b' hb' i
      · exact absurd h hne
  · intro l l' ys ys' hl hl' heq
    have key : ∀ k zs, (h ++ [some xs])[k]? = some (some zs) → (k < h.length ∧ h[k]? = some (some zs) ∧ (μ ++ [b]).getD k 0 = μ.getD k 0 ∧ μ.getD k 0 ≠ b) ∨ (k = h.length ∧ (μ ++ [b]).getD k 0 = b) := by
      intro k zs hk
      rcases Nat.lt_trichotomy k h.length with hlt | heq | hgt
      · left
        rw [List.getElem?_append_left hlt] at hk
        exact ⟨hlt, hk, getD_prefix (by omega), fun h => hnl ⟨k, zs, hk, h⟩⟩
      · right
        refine ⟨heq, ?_⟩
        rw [List.getD_eq_getElem?_getD, List.getElem?_append_right (by omega)]
        simp [hlen, heq]
      · rw [List.getElem?_eq_none (by simp; omega)] at hk; simp at hk
    rcases key l ys hl with ⟨a1, a2, a3, a4⟩ | ⟨a1, a2⟩ <;> rcases key l' ys' hl' with ⟨b1, b2, b3, b4⟩ | ⟨b1, b2⟩
    · rw [a3, b3] at heq; exact s.inv.apart l l' ys ys' a2 b2 heq
    · rw [a3, b2] at heq; exact absurd heq a4
    · rw [a2, b3] at heq; exact absurd heq.symm b4
    · omega
  · intro b' n c hm'
    rw [hfl] at hm'
    have hne : b' ≠ b := fun h => hno n c (h ▸ hm')
    obtain ⟨g1, g3, g4⟩ := s.inv.own b' n c (hmemO _ hm')
    refine ⟨g1, fun i hi => by rw [GM.cut_other hne]; exact g3 i hi, fun hl => ?_⟩
    rcases live_app hlen hl with hl | ⟨h, _⟩
    · exact g4 hl
    · exact hne h
  · intro b'; rw [hfl]; exact Nat.le_trans ((hfew.app (.refl _)) (isAt b')) (s.inv.once b')
  · intro b' hb' ht
    obtain ⟨g1, g2⟩ := s.since.kept b' hb' ht
    refine ⟨g1, fun i => ?_⟩
    rw [GM.cut_other (by omega)]
    exact g2 i
  · intro b' n c hm'; rw [hfl] at hm'; exact s.since.ownT b' n c (hmemO _ hm')
  · intro b' hb'
    rcases live_app hlen hb' with hb' | ⟨rfl, _⟩
    · exact s.since.liveT b' hb'
    · exact .inl hnew
  · intro b' i v hv
    unfold GM.cut
    split
    · rename_i hb'; rw [hb', hA0 i] at hv; simp at hv
    · exact s.since.le b' i v hv
  · obtain ⟨ν, hν⟩ := s.since.ext
    exact ⟨ν ++ [b], by rw [hν, List.append_assoc]⟩
end
section
variable {x : Cx} {w : World} {A1 : GM}
theorem flatten_len {α : Type} {sz : Nat} : ∀ rows : List (List α), (∀ r ∈ rows, r.length = sz) → rows.flatten.length = rows.length * sz
  | [], _ => by simp
  | r :: rs, h => by rw [List.flatten_cons, List.length_append, h r (by simp), flatten_len rs fun q hq => h q (by simp [hq]), List.length_cons, Nat.add_mul]; omega
def New (x : Cx) (A1 : GM) (b : Nat) : Prop := x.w0.heap.size ≤ b ∧ (∀ i, x.A0 b i = none) ∧ ∀ i, A1 b i = none
def Thawed (x : Cx) (w : World) (A1 : GM) (B : GM) (μ : List Nat) (h : List Box) (OH : List (List Own)) (Ov E : List Own) (Rv : List Box → List Nat → Prop) : Prop :=
  ∃ B' ν bs, St' x w B' (μ ++ ν) (h ++ bs) (OH ++ List.replicate bs.length []) E ∧ A1.Le B' ∧ BoxIn w A1 (μ ++ ν) (h ++ bs) (OH ++ List.replicate bs.length []) ∧ (∀ b, ¬ Owns Ov b → ∀ i, B' b i = B b i) ∧ Rv bs ν
theorem apart_own {w : World} {B : GM} {μ : List Nat} {h : List Box} {OH : List (List Own)} {O O1 O2 E : List Own} (s : St' x w B μ h OH O) (hf : ∀ p : Own → Bool, (O1 ++ O2).countP p + E.countP p ≤ O.countP p) {b : Nat} (h1 : Owns O1 b) : ¬ Owns O2 b := by
  intro h2
  have k1 := owns_count.1 h1
  have k2 := owns_count.1 h2
  have k3 := s.inv.once b
  have k4 := hf (isAt b)
  simp only [List.countP_append] at k3 k4
  omega
mutual
theorem thaw_val : ∀ (t : LV) (B : GM) (μ : List Nat) (h : List Box) (OH : List (List Own)) (O : List Own) (v : Value) (Ov E : List Own), Whole t → St' x w B μ h OH O → A1.Le B → BoxIn w A1 μ h OH → Rep B μ t v Ov →
    (∀ p : Own → Bool, Ov.countP p + E.countP p ≤ O.countP p) → (∀ b, Owns Ov b → New x A1 b) →
    Thawed x w A1 B μ h OH Ov E fun bs ν => ∃ y, Th t h.length y bs ∧ Rep A1 (μ ++ ν) y v []
  | .sc u, B, μ, h, OH, O, v, Ov, E, hw, s, hA, hb, hr, hf, hn => by
    simp only [Rep] at hr
    obtain ⟨rfl, rfl⟩ := hr
    refine ⟨B, [], [], by simpa using s.fewer (fun p => by have := hf p; simp at this; exact this), hA, by simpa using hb, fun _ _ _ => rfl, .sc v, by simp [Th], by simp [Rep]⟩
  | .sl u nl sz rows, B, μ, h, OH, O, v, Ov, E, hw, s, hA, hb, hr, hf, hn => by
    have hfE : Fewer E O := fun p => by have := hf p; omega
    simp only [Whole] at hw
    simp only [Rep] at hr
    rcases hr with ⟨rfl, rfl, rfl, rfl⟩ | ⟨rfl, b, off, sp, cap, O', rfl, hsp, hcap, hrow, hO⟩
    · exact ⟨B, [], [], by simpa using s.fewer hfE, hA, by simpa using hb, fun _ _ _ => rfl, .sl false true sz [], by simp [Th], by simp [Rep]⟩
    · by_cases hne : rows = []
      · subst hne
        exact ⟨B, [], [], by simpa using s.fewer hfE, hA, by simpa using hb, fun _ _ _ => rfl, .sl false false sz [], by simp [Th], by
          simp only [Rep]; exact .inr ⟨trivial, b, off, sp, cap, [], rfl, hsp.imp id (fun _ => ⟨trivial, .inl trivial⟩), hcap, by simp [RepRow], .inr ⟨.inl trivial, rfl⟩⟩⟩
      · have hpos : 0 < rows.length := List.length_pos_iff.2 hne
        have hu : u = true := (hw.1.resolve_left hne).1
        have hsp : sp = none := hsp.resolve_right (fun h => hne h.1)
        subst hsp
        subst hu
        obtain ⟨hoff, hOe⟩ : off = 0 ∧ Ov = (b, rows.length * sz, cap * sz) :: O' := by
          rcases hO with ⟨_, k1, k2⟩ | ⟨k1, _⟩
          · exact ⟨k1, k2⟩
          · rcases k1 with k1 | k1
            · simp at k1
            · omega
        subst hoff hOe
        obtain ⟨vs, q1, q2, q3, q4⟩ := hrow.vals
        have hbO : (b, rows.length * sz, cap * sz) ∈ O := by
          have h1 := hf (isE (b, rows.length * sz, cap * sz))
          rw [List.countP_cons, if_pos ((isE_iff _ _).2 rfl)] at h1
          obtain ⟨z, hz, hze⟩ := List.countP_pos_iff.1 (show 0 < O.countP (isE (b, rows.length * sz, cap * sz)) by omega)
          exact (isE_iff _ _).1 hze ▸ hz
        obtain ⟨⟨cs, e', hcs, hsz, hone⟩, _, _⟩ := s.inv.own _ _ _ (List.mem_append.2 (.inl hbO))
        obtain ⟨B1, ν1, bs1, s1, hA1, hb1, hk1, ys, hth, hys⟩ := thaw_row rows B μ h OH O vs O' ((b, rows.length * sz, cap * sz) :: E) sz q3 hw.2 s hA hb q1 (fun p => by
          have := hf p
          simp only [List.countP_cons] at this ⊢
          omega) (fun b' hb' => hn b' (owns_cons.2 (.inr hb')))
        have hnb := hn b (owns_cons.2 (.inl rfl))
        have hcell : ∀ (j : Nat) (u : Value), vs[j]? = some u → cs[j]? = some u := by
          intro j u hj
          have := s.inv.cells _ _ _ (q4 j u hj).1
          rw [cell_of_block hcs] at this
          simpa using this
        have hle : vs.length ≤ cs.size := by
          rcases Nat.lt_or_ge cs.size vs.length with g | g
          · have := hcell cs.size _ (List.getElem?_eq_getElem g)
            simp at this
          · exact g
        have hsplit : cs.toList = vs ++ cs.toList.drop vs.length := by
          apply List.ext_getElem?
          intro j
          by_cases hj : j < vs.length
          · rw [List.getElem?_append_left hj, List.getElem?_eq_getElem hj, ← hcell j _ (List.getElem?_eq_getElem hj)]
            simp
          · rw [List.getElem?_append_right (by omega), List.getElem?_drop]
            congr 1; omega
        have hcells : RepVals A1 (μ ++ ν1) (ys ++ List.replicate (cs.toList.drop vs.length).length .dead) cs.toList [] := by
          rw [hsplit]
          have := RepVals.app hys (RepVals.dead (A := A1) (μ := μ ++ ν1) (cs.toList.drop vs.length))
          simpa [← hsplit] using this
        obtain ⟨s2, hb2, hA2⟩ := s1.adopt hA1 hb1 (b := b) (n := rows.length * sz) (c := cap * sz) (by simp) hnb.1 hnb.2.1 hnb.2.2 hcs hone _ hcells E (fun p => by simp only [List.countP_cons]; omega)
        refine ⟨B1.cut b, ν1 ++ [b], bs1 ++ [some (ys ++ List.replicate (cs.toList.drop vs.length).length .dead)], by simpa [List.replicate_succ', List.append_assoc] using s2, hA2, by simpa [List.replicate_succ', List.append_assoc] using hb2, fun b' hb' i => ?_, .ha (h.length + bs1.length) sz 0 rows.length cap, ?_, ?_⟩
        · rw [GM.cut_other (fun g => hb' (owns_cons.2 (.inl g)))]
          exact hk1 b' (fun g => hb' (owns_cons.2 (.inr g))) i
        · simp only [Th]
          exact .inr ⟨trivial, hne, ys, bs1, _, cap, hth, ⟨hcap, by
            have l2 := q1.length
            have l3 := hsz
            simp only [List.length_drop, Array.length_toList]
            have l4 := flatten_len rows q3
            omega⟩, rfl, rfl⟩
        · simp only [Rep]
          have l1 := s1.inv.len
          have l0 := s.inv.len
          simp only [List.length_append] at l1
          refine ⟨trivial, by simp; omega, ?_⟩
          rw [← List.append_assoc, List.getD_eq_getElem?_getD, List.getElem?_append_right (by simp; omega)]
          simp [show h.length + bs1.length - (μ.length + ν1.length) = 0 by omega]
  | .agg xs, B, μ, h, OH, O, v, Ov, E, hw, s, hA, hb, hr, hf, hn => by
    simp only [Whole] at hw
    simp only [Rep] at hr
    obtain ⟨vs, rfl, h1, h2⟩ := hr
    obtain ⟨B', ν, bs, g1, g2, g3, g4, ys, g5, g6⟩ := thaw_all xs B μ h OH O vs Ov E hw s hA hb h2 hf hn
    exact ⟨B', ν, bs, g1, g2, g3, g4, .agg ys, by simp only [Th]; exact ⟨ys, rfl, g5⟩, by simp only [Rep]; exact ⟨vs, rfl, h1, g6⟩⟩
  | .tup xs, B, μ, h, OH, O, v, Ov, E, hw, s, hA, hb, hr, hf, hn => by
    simp only [Whole] at hw
    simp only [Rep] at hr
    obtain ⟨vs, rfl, h2⟩ := hr
    obtain ⟨B', ν, bs, g1, g2, g3, g4, ys, g5, g6⟩ := thaw_all xs B μ h OH O vs Ov E hw s hA hb h2 hf hn
    exact ⟨B', ν, bs, g1, g2, g3, g4, .tup ys, by simp only [Th]; exact ⟨ys, rfl, g5⟩, by simp only [Rep]; exact ⟨vs, rfl, g6⟩⟩
  | .ha _ _ _ _ _, _, _, _, _, _, _, _, _, hw, _, _, _, _, _, _ => by simp [Whole] at hw
  | .ptr _ _, _, _, _, _, _, _, _, _, hw, _, _, _, _, _, _ => by simp [Whole] at hw
  | .rp _, _, _, _, _, _, _, _, _, hw, _, _, _, _, _, _ => by simp [Whole] at hw
  | .fn _ _, _, _, _, _, _, _, _, _, hw, _, _, _, _, _, _ => by simp [Whole] at hw
  | .fnm _ _, _, _, _, _, _, _, _, _, hw, _, _, _, _, _, _ => by simp [Whole] at hw
  | .raw _, _, _, _, _, _, _, _, _, hw, _, _, _, _, _, _ => by simp [Whole] at hw
  | .dead, _, _, _, _, _, _, _, _, hw, _, _, _, _, _, _ => by simp [Whole] at hw
  | .both _ _, _, _, _, _, _, _, _, _, hw, _, _, _, _, _, _ => by simp [Whole] at hw
theorem thaw_all : ∀ (xs : List LV) (B : GM) (μ : List Nat) (h : List Box) (OH : List (List Own)) (O : List Own) (vs : List Value) (Ov E : List Own), WholeAll xs → St' x w B μ h OH O → A1.Le B → BoxIn w A1 μ h OH → RepVals B μ xs vs Ov →
    (∀ p : Own → Bool, Ov.countP p + E.countP p ≤ O.countP p) → (∀ b, Owns Ov b → New x A1 b) →
    Thawed x w A1 B μ h OH Ov E fun bs ν => ∃ ys, ThAll xs h.length ys bs ∧ RepVals A1 (μ ++ ν) ys vs []
  | [], B, μ, h, OH, O, vs, Ov, E, hw, s, hA, hb, hr, hf, hn => by
    simp only [RepVals] at hr
    obtain ⟨rfl, rfl⟩ := hr
    exact ⟨B, [], [], by simpa using s.fewer (fun p => by have := hf p; simp at this; exact this), hA, by simpa using hb, fun _ _ _ => rfl, [], by simp [ThAll], by simp [RepVals]⟩
  | t :: xs, B, μ, h, OH, O, vs, Ov, E, hw, s, hA, hb, hr, hf, hn => by
    simp only [WholeAll] at hw
    simp only [RepVals] at hr
    obtain ⟨v, ws, O1, O2, rfl, rfl, h1, h2⟩ := hr
    obtain ⟨B1, ν1, bs1, s1, hA1, hb1, hk1, y, hth, hy⟩ := thaw_val t B μ h OH O v O1 (O2 ++ E) hw.1 s hA hb h1 (fun p => by have := hf p; simp only [List.countP_append] at this ⊢; omega) (fun b hb => hn b (owns_app.2 (.inl hb)))
    have h2' : RepVals B1 (μ ++ ν1) xs ws O2 := by
      refine RepVals.mono (fun _ _ _ h => h) xs ws O2 (RepVals.own xs ws O2 hw.2 h2 fun b hb i => hk1 b (fun h1 => apart_own s hf h1 hb) i)
    obtain ⟨B2, ν2, bs2, s2, hA2, hb2, hk2, ys, hths, hys⟩ := thaw_all xs B1 (μ ++ ν1) (h ++ bs1) _ (O2 ++ E) ws O2 E hw.2 s1 hA1 hb1 h2' (fun p => by simp) (fun b hb => hn b (owns_app.2 (.inr hb)))
    refine ⟨B2, ν1 ++ ν2, bs1 ++ bs2, ?_, hA2, ?_, fun b hb i => ?_, y :: ys, ?_, ?_⟩
    · simpa [List.append_assoc, ← List.replicate_append_replicate] using s2
    · simpa [List.append_assoc, ← List.replicate_append_replicate] using hb2
    · rw [hk2 b (fun g => hb (owns_app.2 (.inr g))), hk1 b (fun g => hb (owns_app.2 (.inl g)))]
    · simp only [ThAll]
      exact ⟨y, bs1, ys, bs2, hth, by simpa using hths, rfl, rfl⟩
    · simp only [RepVals]
      refine ⟨v, ws, [], [], rfl, rfl, ?_, by rw [← List.append_assoc]; exact hys⟩
      have := Rep.mono (ν := ν2) (fun _ _ _ h => h) y v [] hy
      rwa [List.append_assoc] at this
theorem thaw_row : ∀ (rows : List (List LV)) (B : GM) (μ : List Nat) (h : List Box) (OH : List (List Own)) (O : List Own) (vs : List Value) (Ov E : List Own) (sz : Nat), (∀ r ∈ rows, r.length = sz) → WholeRow rows → St' x w B μ h OH O → A1.Le B → BoxIn w A1 μ h OH → RepVals B μ rows.flatten vs Ov →
    (∀ p : Own → Bool, Ov.countP p + E.countP p ≤ O.countP p) → (∀ b, Owns Ov b → New x A1 b) →
    Thawed x w A1 B μ h OH Ov E fun bs ν => ∃ ys, ThRow rows sz h.length ys bs ∧ RepVals A1 (μ ++ ν) ys vs []
  | [], B, μ, h, OH, O, vs, Ov, E, sz, hl, hw, s, hA, hb, hr, hf, hn => by
    simp only [List.flatten_nil, RepVals] at hr
    obtain ⟨rfl, rfl⟩ := hr
    exact ⟨B, [], [], by simpa using s.fewer (fun p => by have := hf p; simp at this; exact this), hA, by simpa using hb, fun _ _ _ => rfl, [], by simp [ThRow], by simp [RepVals]⟩
  | row :: rows, B, μ, h, OH, O, vs, Ov, E, sz, hl, hw, s, hA, hb, hr, hf, hn => by
    simp only [WholeRow] at hw
    rw [List.flatten_cons] at hr
    obtain ⟨v1, v2, O1, O2, rfl, rfl, h1, h2⟩ := hr.split
    obtain ⟨B1, ν1, bs1, s1, hA1, hb1, hk1, y, hth, hy⟩ := thaw_all row B μ h OH O v1 O1 (O2 ++ E) hw.1 s hA hb h1 (fun p => by have := hf p; simp only [List.countP_append] at this ⊢; omega) (fun b hb => hn b (owns_app.2 (.inl hb)))
    have hwf : ∀ rows : List (List LV), WholeRow rows → WholeAll rows.flatten := by
      intro rows
      induction rows with
      | nil => intro _; simp [WholeAll]
      | cons r rs ih =>
        intro h
        simp only [WholeRow] at h
        rw [List.flatten_cons]
        have h3 := ih h.2
        clear ih
        have : ∀ r : List LV, WholeAll r → WholeAll (r ++ rs.flatten) := by
          intro r
          induction r with
          | nil => intro _; exact h3
          | cons a r ih => intro h; simp only [WholeAll] at h; exact ⟨h.1, ih h.2⟩
        exact this r h.1
    have h2' : RepVals B1 (μ ++ ν1) rows.flatten v2 O2 := by
      refine RepVals.mono (fun _ _ _ h => h) _ v2 O2 (RepVals.own _ v2 O2 (hwf rows hw.2) h2 fun b hb i => hk1 b (fun h1 => apart_own s hf h1 hb) i)
    obtain ⟨B2, ν2, bs2, s2, hA2, hb2, hk2, ys, hths, hys⟩ := thaw_row rows B1 (μ ++ ν1) (h ++ bs1) _ (O2 ++ E) v2 O2 E sz (fun r hr => hl r (by simp [hr])) hw.2 s1 hA1 hb1 h2' (fun p => by simp) (fun b hb => hn b (owns_app.2 (.inr hb)))
    refine ⟨B2, ν1 ++ ν2, bs1 ++ bs2, ?_, hA2, ?_, fun b hb i => ?_, y ++ ys, ?_, ?_⟩
    · simpa [List.append_assoc, ← List.replicate_append_replicate] using s2
    · simpa [List.append_assoc, ← List.replicate_append_replicate] using hb2
    · rw [hk2 b (fun g => hb (owns_app.2 (.inr g))), hk1 b (fun g => hb (owns_app.2 (.inl g)))]
    · simp only [ThRow]
      exact ⟨y, bs1, ys, bs2, hl row (by simp), hth, by simpa using hths, rfl, rfl⟩
    · have := RepVals.mono (ν := ν2) (fun _ _ _ h => h) y v1 [] hy
      rw [List.append_assoc] at this
      have h3 := RepVals.app this (by rw [← List.append_assoc]; exact hys)
      simpa using h3
end
end
mutual
def View (h : List Box) : LV → LV → Prop
  | .sc v, y => y = .sc v
  | .sl u nl sz rows, y => u = false ∧ ((y = .sl false nl sz rows ∧ Low 0 y ∧ share y = y) ∨
      (nl = false ∧ ∃ l cap cells rest, y = .ha l sz 0 rows.length cap ∧ rows.length ≤ cap ∧ h[l]? = some (some (cells ++ rest)) ∧ ViewRow h rows sz cells))
  | .agg xs, y => ∃ ys, y = .agg ys ∧ ViewAll h xs ys
  | .tup xs, y => ∃ ys, y = .tup ys ∧ ViewAll h xs ys
  | _, _ => False
def ViewRow (h : List Box) : List (List LV) → Nat → List LV → Prop
  | [], _, cells => cells = []
  | row :: rows, sz, cells => ∃ c1 c2, row.length = sz ∧ ViewAll h row c1 ∧ ViewRow h rows sz c2 ∧ cells = c1 ++ c2
def ViewAll (h : List Box) : List LV → List LV → Prop
  | [], ys => ys = []
  | x :: xs, ys => ∃ y ys', View h x y ∧ ViewAll h xs ys' ∧ ys = y :: ys'
end
section
variable {P : Program}
open Classical in
noncomputable def GM.lent (A : GM) (w : World) (μ : List Nat) (h : List Box) : GM := fun b i => if Live μ h b then w.cell? ⟨b, i, none⟩ else A b i
open Classical in
noncomputable def GM.back (B : GM) (μ : List Nat) (h : List Box) : GM := fun b i => if Live μ h b then none else B b i
section
variable {w : World} {A : GM} {μ : List Nat} {h : List Box} {OH : List (List Own)} {O : List Own}
theorem lent_le (i : WInv w A μ h OH O) : A.Le (A.lent w μ h) := by
  intro b j v hv
  unfold GM.lent
  split
  · exact i.cells b j v hv
  · exact hv
mutual
theorem View.rep (i : WInv w A μ h OH O) : ∀ (t y : LV) (v : Value) (Ov : List Own), View h t y → Rep A μ y v Ov → Rep (A.lent w μ h) [] t v [] ∧ Ov = []
  | .sc u, y, v, Ov, hv, hr => by
    simp only [View] at hv
    subst hv
    simp only [Rep] at hr ⊢
    exact ⟨⟨hr.1, trivial⟩, hr.2⟩
  | .sl u nl sz rows, y, v, Ov, hv, hr => by
    simp only [View] at hv
    obtain ⟨rfl, ⟨rfl, hlow, hsh⟩ | ⟨rfl, l, cap, cells, rest, rfl, hcap, hl, hrow⟩⟩ := hv
    · have hO := hr
      rw [← hsh] at hO
      have hO := Rep.shd _ _ _ hO
      subst hO
      have h1 := Rep.mono (ν := []) (lent_le i) _ v [] hr
      rw [List.append_nil] at h1
      exact ⟨Rep.low (k := 0) (by simp) (fun l hl => by omega) _ v [] hlow h1, rfl⟩
    · simp only [Rep] at hr ⊢
      obtain ⟨rfl, hlt, rfl⟩ := hr
      obtain ⟨c, e, g1, g2, g3⟩ := i.box l _ hl
      obtain ⟨v1, v2, O1, O2, e1, e2, k1, k2⟩ := g2.split
      obtain ⟨k3, k4⟩ := ViewRow.rep i rows sz cells v1 O1 hrow k1
      refine ⟨.inr ⟨trivial, μ.getD l 0, 0 * sz, none, cap, [], rfl, .inl rfl, hcap, ?_, .inr ⟨.inl trivial, rfl⟩⟩, rfl⟩
      refine RepRow.of_vals k4 k3 fun j u hj => ?_
      have hcj : c[j]? = some u := by
        rw [← Array.getElem?_toList, e1, List.getElem?_append_left (by
          rcases Nat.lt_or_ge j v1.length with g | g
          · exact g
          · rw [List.getElem?_eq_none g] at hj; simp at hj)]
        exact hj
      refine ⟨?_, g3 u (by rw [e1]; exact List.mem_append.2 (.inl (List.mem_of_getElem? hj)))⟩
      unfold GM.lent
      rw [if_pos ⟨l, _, hl, rfl⟩, cell_of_block g1, Nat.zero_mul, Nat.zero_add]
      exact hcj
  | .agg xs, y, v, Ov, hv, hr => by
    simp only [View] at hv
    obtain ⟨ys, rfl, hv⟩ := hv
    simp only [Rep] at hr ⊢
    obtain ⟨vs, h1, h0, h2⟩ := hr
    obtain ⟨h3, h4⟩ := ViewAll.rep i xs ys vs Ov hv h2
    exact ⟨⟨vs, h1, h0, h3⟩, h4⟩
  | .ha _ _ _ _ _, _, _, _, hv, _ => by simp [View] at hv
  | .ptr _ _, _, _, _, hv, _ => by simp [View] at hv
  | .rp _, _, _, _, hv, _ => by simp [View] at hv
  | .fn _ _, _, _, _, hv, _ => by simp [View] at hv
  | .fnm _ _, _, _, _, hv, _ => by simp [View] at hv
  | .tup xs, y, v, Ov, hv, hr => by
    simp only [View] at hv
    obtain ⟨ys, rfl, hv⟩ := hv
    simp only [Rep] at hr ⊢
    obtain ⟨vs, h1, h2⟩ := hr
    obtain ⟨h3, h4⟩ := ViewAll.rep i xs ys vs Ov hv h2
    exact ⟨⟨vs, h1, h3⟩, h4⟩
  | .raw _, _, _, _, hv, _ => by simp [View] at hv
  | .dead, _, _, _, hv, _ => by simp [View] at hv
  | .both _ _, _, _, _, hv, _ => by simp [View] at hv
theorem ViewRow.rep (i : WInv w A μ h OH O) : ∀ (rows : List (List LV)) (sz : Nat) (cells : List LV) (vs : List Value) (Ov : List Own), ViewRow h rows sz cells → RepVals A μ cells vs Ov → RepVals (A.lent w μ h) [] rows.flatten vs [] ∧ (∀ r ∈ rows, r.length = sz)
  | [], sz, cells, vs, Ov, hv, hr => by
    simp only [ViewRow] at hv
    subst hv
    simp only [RepVals] at hr
    simp [RepVals, hr.1]
  | row :: rows, sz, cells, vs, Ov, hv, hr => by
    simp only [ViewRow] at hv
    obtain ⟨c1, c2, hl, h1, h2, rfl⟩ := hv
    obtain ⟨v1, v2, O1, O2, rfl, rfl, k1, k2⟩ := hr.split
    obtain ⟨g1, _⟩ := ViewAll.rep i row c1 v1 O1 h1 k1
    obtain ⟨g2, g3⟩ := ViewRow.rep i rows sz c2 v2 O2 h2 k2
    refine ⟨?_, fun r hr => ?_⟩
    · rw [List.flatten_cons]
      exact RepVals.app (O1 := []) (O2 := []) g1 g2
    · rcases List.mem_cons.1 hr with rfl | hr
      · exact hl
      · exact g3 r hr
theorem ViewAll.rep (i : WInv w A μ h OH O) : ∀ (xs ys : List LV) (vs : List Value) (Ov : List Own), ViewAll h xs ys → RepVals A μ ys vs Ov → RepVals (A.lent w μ h) [] xs vs [] ∧ Ov = []
  | [], ys, vs, Ov, hv, hr => by
    simp only [ViewAll] at hv
    subst hv
    simp only [RepVals] at hr ⊢
    exact ⟨⟨hr.1, trivial⟩, hr.2⟩
  | x :: xs, ys, vs, Ov, hv, hr => by
    simp only [ViewAll] at hv
    obtain ⟨y, ys', h1, h2, rfl⟩ := hv
    simp only [RepVals] at hr ⊢
    obtain ⟨v, ws, O1, O2, rfl, rfl, k1, k2⟩ := hr
    obtain ⟨g1, g2⟩ := View.rep i x y v O1 h1 k1
    obtain ⟨g3, g4⟩ := ViewAll.rep i xs ys' ws O2 h2 k2
    exact ⟨⟨v, ws, [], [], rfl, rfl, g1, g3⟩, by rw [g2, g4]; rfl⟩
end
end
theorem Gives.lendCore {f : FuncId} {args hs : List LV} {R : LV → Prop} {h : List Box} (c : Gives P f args R) (hv : ViewAll h args hs) (hR : ∀ r, R r → Whole r)
    (w : World) (A : GM) (μ : List Nat) (OH : List (List Own)) (vals : List Value) (Oa : List Own) (hr : RepVals A μ hs vals Oa) (hi : WInv w A μ h OH Oa) :
    Oa = [] ∧ Calls P f vals.toArray w fun e w' => ∃ v r B O', e = .returned v ∧ R r ∧ Rep B [] r v O' ∧ St' (CallCx w A μ h OH []) w' B μ h OH O' ∧ (∀ b, Owns O' b → w.heap.size ≤ b) ∧ ∀ b, b < w.heap.size → w'.heap[b]? = w.heap[b]? := by
  obtain ⟨h1, _, h2⟩ := c
  obtain ⟨hr0, hOa⟩ := ViewAll.rep hi args hs vals Oa hv hr
  subst hOa
  refine ⟨rfl, ?_⟩
  have hi0 : WInv w (A.lent w μ h) [] [] [] [] := by
    refine ⟨rfl, rfl, ?_, by simp, ?_, by simp, ?_, ?_⟩
    · intro b i v hv
      unfold GM.lent at hv
      split at hv
      · exact hv
      · exact hi.cells b i v hv
    · rintro b ⟨l, xs, hl, _⟩; simp at hl
    · intro b m k hm; simp at hm
    · intro b; simp
  refine (h2 w (A.lent w μ h) [] [] vals [] hr0 hi0).mono fun e w' he => ?_
  obtain ⟨v, r, h', B, ν, OH', O', g1, ⟨g2, glow⟩, g3, g4⟩ := he
  have g5 := g4.cut 0 (by simp [CallCx]) (fun l xs hl => by omega) (Nat.zero_le _)
  simp only [List.take_zero] at g5
  have g3' := Rep.low (k := 0) (ν := []) (by simp) (fun l hl => by omega) r v O' glow g3
  have hnew : ∀ b m k, (b, m, k) ∈ O' → w.heap.size ≤ b := by
    intro b m k hm
    rcases g5.since.ownT b m k (by simpa using hm) with k | k
    · exact k
    · rcases k with ⟨l, xs, k, _⟩ | ⟨m, q, k⟩
      · simp at k
      · simp at k
  have hnl : ∀ b, w.heap.size ≤ b → ¬ Live μ h b := fun b hb hl => by have := hi.live_lt hl; omega
  have g6 : St' (CallCx w A [] [] [] []) w' (B.back μ h) [] [] [] O' := by
    refine ⟨⟨rfl, rfl, fun b i v hv => ?_, by simp, ?_, by simp, ?_, g5.inv.once⟩, ⟨g5.since.size, ?_, g5.since.ownT, g5.since.liveT, ?_, g5.since.ext, g5.since.still⟩⟩
    · unfold GM.back at hv
      split at hv
      · simp at hv
      · exact g5.inv.cells b i v hv
    · rintro b ⟨l, xs, hl, _⟩; simp at hl
    · intro b m k hm
      obtain ⟨q1, q2, q3⟩ := g5.inv.own b m k hm
      refine ⟨q1, fun i hi => ?_, q3⟩
      unfold GM.back
      split
      · rfl
      · exact q2 i hi
    · intro b hb ht
      obtain ⟨q1, q2⟩ := g5.since.kept b hb ht
      refine ⟨q1, fun i => ?_⟩
      unfold GM.back
      split
      · rename_i hl; exact (hi.loose b hl i).symm
      · rename_i hl
        rw [q2 i]
        show A.lent w μ h b i = A b i
        unfold GM.lent
        rw [if_neg hl]
    · intro b i v hv
      unfold GM.back
      have hl : ¬ Live μ h b := fun hl => by
        have := hi.loose b hl i
        rw [show A b i = some v from hv] at this; simp at this
      rw [if_neg hl]
      exact g5.since.le b i v (lent_le hi b i v hv)
  refine ⟨v, r, B.back μ h, O', g1, g2, Rep.own r v O' (hR r g2) g3' fun b hb i => ?_, St'.frame (h := h) hi g6, fun b hb => ?_, fun b hb => (g5.since.kept b hb (by rintro (⟨l, xs, k, _⟩ | ⟨m, q, k⟩) <;> simp at k)).1⟩
  · obtain ⟨m, k, hm⟩ := hb
    unfold GM.back
    rw [if_neg (hnl b (hnew b m k hm))]
  · obtain ⟨m, k, hm⟩ := hb
    exact hnew b m k hm
theorem Whole.low0 : ∀ t : LV, Whole t → Low 0 t
  | .sc _, _ => by simp
  | .sl _ _ _ rows, h => by simp only [Whole] at h; simp only [Low]; exact goR rows h.2
  | .agg xs, h => by simp only [Whole] at h; simp only [Low]; exact goA xs h
  | .tup xs, h => by simp only [Whole] at h; simp only [Low]; exact goA xs h
  | .ha _ _ _ _ _, h => by simp [Whole] at h
  | .ptr _ _, h => by simp [Whole] at h
  | .rp _, h => by simp [Whole] at h
  | .fn _ _, h => by simp [Whole] at h
  | .fnm _ _, h => by simp [Whole] at h
  | .raw _, h => by simp [Whole] at h
  | .dead, h => by simp [Whole] at h
  | .both _ _, h => by simp [Whole] at h
where
  goA : ∀ xs : List LV, WholeAll xs → LowAll 0 xs
    | [], _ => by simp
    | x :: xs, h => by simp only [WholeAll] at h; simp only [LowAll]; exact ⟨Whole.low0 x h.1, goA xs h.2⟩
  goR : ∀ xs : List (List LV), WholeRow xs → LowRow 0 xs
    | [], _ => by simp
    | x :: xs, h => by simp only [WholeRow] at h; simp only [LowRow]; exact ⟨goA x h.1, goR xs h.2⟩
theorem Gives.lend {f : FuncId} {args hs : List LV} {R : LV → Prop} {h : List Box} (c : Gives P f args R) (hv : ViewAll h args hs) (hR : ∀ r, R r → Whole r) :
    LCalls P f hs h (fun r h' => h' = h ∧ R r) := by
  have c' := c
  obtain ⟨h1, ⟨r, _, hr, _⟩, _⟩ := c'
  refine ⟨h1, ⟨r, h, rfl, hr⟩, fun w A μ OH vals Oa hr hi => ?_⟩
  obtain ⟨rfl, hc⟩ := c.lendCore hv hR w A μ OH vals Oa hr hi
  refine hc.mono fun e w' he => ?_
  obtain ⟨v, r, B, O', g1, g2, g3, g4, _⟩ := he
  exact ⟨v, r, h, B, [], OH, O', g1, ⟨rfl, g2⟩, Rep.low (k := 0) (by simp) (fun l hl => by omega) r v O' (Whole.low0 r (hR r g2)) g3, by rw [List.append_nil]; exact g4⟩
mutual
theorem th_ex : ∀ (t : LV), Whole t → ∀ n, ∃ y bs, Th t n y bs
  | .sc v, _, _ => ⟨_, _, by simp only [Th]; exact ⟨rfl, rfl⟩⟩
  | .sl u nl sz rows, h, n => by
    simp only [Th]
    simp only [Whole] at h
    by_cases hr : rows = []
    · exact ⟨_, _, .inl ⟨hr, rfl, rfl⟩⟩
    · obtain ⟨_, h2, h3⟩ := h.1.resolve_left hr
      obtain ⟨cells, bs, g⟩ := thRow_ex rows h.2 sz h3 n
      exact ⟨_, _, .inr ⟨h2, hr, cells, bs, 0, rows.length, g, ⟨Nat.le_refl _, rfl⟩, rfl, rfl⟩⟩
  | .agg xs, h, n => by
    simp only [Whole] at h
    obtain ⟨ys, bs, g⟩ := thAll_ex xs h n
    exact ⟨.agg ys, bs, by simp only [Th]; exact ⟨ys, rfl, g⟩⟩
  | .tup xs, h, n => by
    simp only [Whole] at h
    obtain ⟨ys, bs, g⟩ := thAll_ex xs h n
    exact ⟨.tup ys, bs, by simp only [Th]; exact ⟨ys, rfl, g⟩⟩
  | .ha _ _ _ _ _, h, _ => by simp [Whole] at h
  | .ptr _ _, h, _ => by simp [Whole] at h
  | .rp _, h, _ => by simp [Whole] at h
  | .fn _ _, h, _ => by simp [Whole] at h
  | .fnm _ _, h, _ => by simp [Whole] at h
  | .raw _, h, _ => by simp [Whole] at h
  | .dead, h, _ => by simp [Whole] at h
  | .both _ _, h, _ => by simp [Whole] at h
theorem thAll_ex : ∀ (xs : List LV), WholeAll xs → ∀ n, ∃ ys bs, ThAll xs n ys bs
  | [], _, _ => ⟨_, _, by simp only [ThAll]; exact ⟨rfl, rfl⟩⟩
  | x :: xs, h, n => by
    simp only [WholeAll] at h
    obtain ⟨y, b1, g1⟩ := th_ex x h.1 n
    obtain ⟨ys, b2, g2⟩ := thAll_ex xs h.2 (n + b1.length)
    exact ⟨_, _, by simp only [ThAll]; exact ⟨y, b1, ys, b2, g1, g2, rfl, rfl⟩⟩
theorem thRow_ex : ∀ (rows : List (List LV)), WholeRow rows → ∀ sz, (∀ r ∈ rows, r.length = sz) → ∀ n, ∃ ys bs, ThRow rows sz n ys bs
  | [], _, _, _, _ => ⟨_, _, by simp only [ThRow]; exact ⟨rfl, rfl⟩⟩
  | x :: xs, h, sz, hl, n => by
    simp only [WholeRow] at h
    obtain ⟨y, b1, g1⟩ := thAll_ex x h.1 n
    obtain ⟨ys, b2, g2⟩ := thRow_ex xs h.2 sz (fun r hr => hl r (by simp [hr])) (n + b1.length)
    exact ⟨_, _, by simp only [ThRow]; exact ⟨y, b1, ys, b2, hl x (by simp), g1, g2, rfl, rfl⟩⟩
end
theorem Gives.lendThaw {f : FuncId} {args hs : List LV} {R : LV → Prop} {h : List Box} (c : Gives P f args R) (hv : ViewAll h args hs) (hR : ∀ r, R r → Whole r) :
    LCalls P f hs h (fun r h' => ∃ t bs, R t ∧ Th t h.length r bs ∧ h' = h ++ bs) := by
  have c' := c
  obtain ⟨h1, hex, _⟩ := c'
  refine ⟨h1, ?_, fun w A μ OH vals Oa hr hi => ?_⟩
  · obtain ⟨r, _, hr, _⟩ := hex
    obtain ⟨y, bs, hy⟩ := th_ex r (hR r hr) h.length
    exact ⟨y, h ++ bs, r, bs, hr, hy, rfl⟩
  obtain ⟨rfl, hc⟩ := c.lendCore hv hR w A μ OH vals Oa hr hi
  refine hc.mono fun e w' he => ?_
  obtain ⟨v, r, B, O', g1, g2, g3, g4, g5, g6⟩ := he
  have hlow := Rep.low (k := 0) (ν := μ) (by simp) (fun l hl => by omega) r v O' (Whole.low0 r (hR r g2)) g3
  have hbx : BoxIn w' A μ h OH := by
    intro l xs hl
    obtain ⟨c, e, q1, q2, q3⟩ := hi.box l xs hl
    exact ⟨c, e, by rw [g6 _ (hi.live_lt ⟨l, xs, hl, rfl⟩)]; exact q1, q2, q3⟩
  obtain ⟨B', ν, bs, s2, _, _, _, y, hth, hy⟩ := thaw_val (x := CallCx w A μ h OH []) (A1 := A) r B μ h OH O' v O' [] (hR r g2) g4 g4.since.le hbx hlow (fun p => by simp) (fun b hb => ⟨g5 b hb, fun i => hi.unsettled (g5 b hb) i, fun i => hi.unsettled (g5 b hb) i⟩)
  have hyB := Rep.mono (ν := []) (show A.Le B' by assumption) y v [] hy
  rw [List.append_nil] at hyB
  exact ⟨v, y, h ++ bs, B', ν, _, [], g1, ⟨r, bs, g2, hth, rfl⟩, hyB, s2⟩
end
end Go.TL
namespace Go.TL
@[simp] theorem eqB_self {a : Int} : eqB a a = true := by simp [eqB]
@[simp] theorem leB_self {a : Int} : leB a a = true := by simp [leB]
@[simp] theorem ltB_self {a : Int} : ltB a a = false := by simp [ltB]
mutual
theorem Th.view (h : List Box) : ∀ (t y : LV) (n : Nat) (bs : List Box), Whole t → Th t n y bs → (∀ i b, bs[i]? = some b → h[n + i]? = some b) → View h (share t) y
  | .sc v, y, n, bs, _, ht, _ => by
    simp only [Th] at ht
    simp only [share, View]
    exact ht.1
  | .sl u nl sz rows, y, n, bs, hw, ht, hb => by
    simp only [Th] at ht
    simp only [Whole] at hw
    simp only [share, View]
    refine ⟨by trivial, ?_⟩
    rcases ht with ⟨rfl, rfl, rfl⟩ | ⟨rfl, hne, cells, bs', slack, cap, hr, hcap, rfl, rfl⟩
    · left; simp
    · right
      refine ⟨by trivial, n + bs'.length, cap, cells, List.replicate slack .dead, by rw [shareRow_length], by rw [shareRow_length]; exact hcap.1, hb bs'.length _ (by simp), ?_⟩
      exact ThRow.view h rows sz n cells bs' hw.2 hr fun i b hi => hb i b (by
        rw [List.getElem?_append_left]
        · exact hi
        · rcases Nat.lt_or_ge i bs'.length with g | g
          · exact g
          · rw [List.getElem?_eq_none g] at hi; simp at hi)
  | .agg xs, y, n, bs, hw, ht, hb => by
    simp only [Th] at ht
    simp only [Whole] at hw
    obtain ⟨ys, rfl, ht⟩ := ht
    simp only [share, View]
    exact ⟨ys, rfl, ThAll.view h xs n ys bs hw ht hb⟩
  | .tup xs, y, n, bs, hw, ht, hb => by
    simp only [Th] at ht
    simp only [Whole] at hw
    obtain ⟨ys, rfl, ht⟩ := ht
    simp only [share, View]
    exact ⟨ys, rfl, ThAll.view h xs n ys bs hw ht hb⟩
  | .ha _ _ _ _ _, _, _, _, hw, _, _ => by simp [Whole] at hw
  | .ptr _ _, _, _, _, hw, _, _ => by simp [Whole] at hw
  | .rp _, _, _, _, hw, _, _ => by simp [Whole] at hw
  | .fn _ _, _, _, _, hw, _, _ => by simp [Whole] at hw
  | .fnm _ _, _, _, _, hw, _, _ => by simp [Whole] at hw
  | .raw _, _, _, _, hw, _, _ => by simp [Whole] at hw
  | .dead, _, _, _, hw, _, _ => by simp [Whole] at hw
  | .both _ _, _, _, _, hw, _, _ => by simp [Whole] at hw
theorem ThAll.view (h : List Box) : ∀ (xs : List LV) (n : Nat) (ys : List LV) (bs : List Box), WholeAll xs → ThAll xs n ys bs → (∀ i b, bs[i]? = some b → h[n + i]? = some b) → ViewAll h (shareAll xs) ys
  | [], n, ys, bs, _, ht, _ => by simp only [ThAll] at ht; simp only [shareAll, ViewAll]; exact ht.1
  | x :: xs, n, ys, bs, hw, ht, hb => by
    simp only [ThAll] at ht
    simp only [WholeAll] at hw
    obtain ⟨y, b1, ys', b2, h1, h2, rfl, rfl⟩ := ht
    simp only [shareAll, ViewAll]
    refine ⟨y, ys', Th.view h x y n b1 hw.1 h1 fun i b hi => hb i b ?_, ThAll.view h xs (n + b1.length) ys' b2 hw.2 h2 fun i b hi => ?_, rfl⟩
    · rw [List.getElem?_append_left]
      · exact hi
      · rcases Nat.lt_or_ge i b1.length with g | g
        · exact g
        · rw [List.getElem?_eq_none g] at hi; simp at hi
    · rw [Nat.add_assoc]
      refine hb _ b ?_
      rw [List.getElem?_append_right (by omega)]
      rw [show b1.length + i - b1.length = i by omega]; exact hi
theorem ThRow.view (h : List Box) : ∀ (rows : List (List LV)) (sz n : Nat) (ys : List LV) (bs : List Box), WholeRow rows → ThRow rows sz n ys bs → (∀ i b, bs[i]? = some b → h[n + i]? = some b) → ViewRow h (shareRow rows) sz ys
  | [], sz, n, ys, bs, _, ht, _ => by simp only [ThRow] at ht; simp only [shareRow, ViewRow]; exact ht.1
  | x :: xs, sz, n, ys, bs, hw, ht, hb => by
    simp only [ThRow] at ht
    simp only [WholeRow] at hw
    obtain ⟨c1, b1, c2, b2, hl, h1, h2, rfl, rfl⟩ := ht
    simp only [shareRow, ViewRow]
    refine ⟨c1, c2, by rw [shareAll_length]; exact hl, ThAll.view h x n c1 b1 hw.1 h1 fun i b hi => hb i b ?_, ThRow.view h xs sz (n + b1.length) c2 b2 hw.2 h2 fun i b hi => ?_, rfl⟩
    · rw [List.getElem?_append_left]
      · exact hi
      · rcases Nat.lt_or_ge i b1.length with g | g
        · exact g
        · rw [List.getElem?_eq_none g] at hi; simp at hi
    · rw [Nat.add_assoc]
      refine hb _ b ?_
      rw [List.getElem?_append_right (by omega)]
      rw [show b1.length + i - b1.length = i by omega]; exact hi
end
mutual
theorem Th.share : ∀ (t y : LV) (n : Nat) (bs : List Box), Th t n y bs → TL.share y = y
  | .sc v, y, n, bs, ht => by simp only [Th] at ht; rw [ht.1]; simp
  | .sl u nl sz rows, y, n, bs, ht => by
    simp only [Th] at ht
    rcases ht with ⟨_, rfl, _⟩ | ⟨_, _, cells, bs', slack, cap, _, _, rfl, _⟩ <;> simp
  | .agg xs, y, n, bs, ht => by
    simp only [Th] at ht
    obtain ⟨ys, rfl, ht⟩ := ht
    simp [ThAll.share xs n ys bs ht]
  | .tup xs, y, n, bs, ht => by
    simp only [Th] at ht
    obtain ⟨ys, rfl, ht⟩ := ht
    simp [ThAll.share xs n ys bs ht]
  | .ha _ _ _ _ _, _, _, _, ht => by simp [Th] at ht
  | .ptr _ _, _, _, _, ht => by simp [Th] at ht
  | .rp _, _, _, _, ht => by simp [Th] at ht
  | .fn _ _, _, _, _, ht => by simp [Th] at ht
  | .fnm _ _, _, _, _, ht => by simp [Th] at ht
  | .raw _, _, _, _, ht => by simp [Th] at ht
  | .dead, _, _, _, ht => by simp [Th] at ht
  | .both _ _, _, _, _, ht => by simp [Th] at ht
theorem ThAll.share : ∀ (xs : List LV) (n : Nat) (ys : List LV) (bs : List Box), ThAll xs n ys bs → TL.shareAll ys = ys
  | [], n, ys, bs, ht => by simp only [ThAll] at ht; rw [ht.1]; simp
  | x :: xs, n, ys, bs, ht => by
    simp only [ThAll] at ht
    obtain ⟨y, b1, ys', b2, h1, h2, rfl, rfl⟩ := ht
    simp [Th.share x y n b1 h1, ThAll.share xs _ ys' b2 h2]
end
theorem Th.alive : ∀ (t y : LV) (n : Nat) (bs : List Box), Th t n y bs → y.alive = true
  | .sc v, y, n, bs, ht => by simp only [Th] at ht; rw [ht.1]; rfl
  | .sl u nl sz rows, y, n, bs, ht => by
    simp only [Th] at ht
    rcases ht with ⟨_, rfl, _⟩ | ⟨_, _, cells, bs', slack, cap, _, _, rfl, _⟩ <;> rfl
  | .agg xs, y, n, bs, ht => by simp only [Th] at ht; obtain ⟨ys, rfl, _⟩ := ht; rfl
  | .tup xs, y, n, bs, ht => by simp only [Th] at ht; obtain ⟨ys, rfl, _⟩ := ht; rfl
  | .ha _ _ _ _ _, y, n, bs, ht => by simp [Th] at ht
  | .ptr _ _, y, n, bs, ht => by simp [Th] at ht
  | .rp _, y, n, bs, ht => by simp [Th] at ht
  | .fn _ _, y, n, bs, ht => by simp [Th] at ht
  | .fnm _ _, y, n, bs, ht => by simp [Th] at ht
  | .raw _, y, n, bs, ht => by simp [Th] at ht
  | .dead, y, n, bs, ht => by simp [Th] at ht
  | .both _ _, y, n, bs, ht => by simp [Th] at ht
theorem viewAll_nil {h : List Box} : ViewAll h [] [] := by simp [ViewAll]
theorem viewAll_cons {h : List Box} {x y : LV} {xs ys : List LV} (h1 : View h x y) (h2 : ViewAll h xs ys) : ViewAll h (x :: xs) (y :: ys) := by
  simp only [ViewAll]; exact ⟨y, ys, h1, h2, rfl⟩
theorem view_sc {h : List Box} {v : Value} : View h (.sc v) (.sc v) := by simp [View]
theorem view_sl {h : List Box} {nl : Bool} {sz : Nat} {rows : List (List LV)} (hl : LowRow 0 rows) (hs : shareRow rows = rows) : View h (.sl false nl sz rows) (.sl false nl sz rows) := by
  simp only [View]
  exact ⟨by trivial, .inl ⟨by trivial, by simpa using hl, by simp [hs]⟩⟩
section
variable {P : Program} {K : St → Prop} {s : St}
theorem onCall_lend {d : Nat} {f : FuncId} {args vals : List LV} {R : LV → Prop} (c : Gives P f args R) (hv : ViewAll s.h args vals) (hR : ∀ r, R r → Whole r)
    (hk : ∀ r, R r → K { t := upd s.t d r, h := s.h }) : onCall P .any f vals (some d) K s := by
  unfold onCall
  rw [callWp_t]
  exact (c.lend hv hR).mono fun r h' hr => by rw [hr.1]; exact hk r hr.2
theorem onCall_thaw {d : Nat} {f : FuncId} {args vals : List LV} {R : LV → Prop} (c : Gives P f args R) (hv : ViewAll s.h args vals) (hR : ∀ r, R r → Whole r)
    (hk : ∀ t y bs, R t → Th t s.h.length y bs → K { t := upd s.t d y, h := s.h ++ bs }) : onCall P .any f vals (some d) K s := by
  unfold onCall
  rw [callWp_t]
  refine (c.lendThaw hv hR).mono fun r h' hr => ?_
  obtain ⟨t, bs, h1, h2, rfl⟩ := hr
  exact hk t r bs h1 h2
theorem frz_ha {h : List Box} {l sz n : Nat} {xs : List LV} (hl : h[l]? = some (some xs)) (hx : xs.length = n * sz) : frzLV h (.ha l sz 0 n n) = some (.sl true false sz (chunks sz n xs), h.set l none) := by
  simp only [frzLV, hl]
  rw [if_pos ⟨hx, Nat.le_refl _⟩]
theorem chunks_map {α : Type} (e : α → LV) : ∀ (l : List α), chunks 1 l.length (l.map e) = l.map fun x => [e x]
  | [] => rfl
  | x :: l => by simp [chunks, chunks_map e l]
theorem chunks_flat {α : Type} (e : α → List LV) (sz : Nat) : ∀ (l : List α), (∀ x ∈ l, (e x).length = sz) → chunks sz l.length (l.map e).flatten = l.map e
  | [], _ => rfl
  | x :: l, h => by
    have h1 := h x (by simp)
    simp only [List.length_cons, List.map_cons, List.flatten_cons, chunks]
    rw [List.take_append_of_le_length (by omega), List.take_of_length_le (by omega), List.drop_append, List.drop_of_length_le (by omega), h1, Nat.sub_self, List.drop_zero, List.nil_append,
      chunks_flat e sz l (fun y hy => h y (by simp [hy]))]
theorem onCall_any {d : Nat} {f : FuncId} {vals : List LV} {R : LV → List Box → Prop} (c : LCalls P f vals s.h R) (hk : ∀ r h', R r h' → K { t := upd s.t d r, h := h' }) : onCall P .any f vals (some d) K s := by
  unfold onCall
  rw [callWp_t]
  exact c.mono fun r h' hr => hk r h' hr
end
theorem post_tmp {t m : Nat} {R : LV → List Box → Prop} {e : Exit} {s : St} (he : e = .normal ∨ e = .ret) (h1 : m ≤ s.h.length) (hR : R (s.t t) s.h) : Post [.tmp t] m R e s := by
  refine ⟨he, [s.t t], _, s.h.length, rfl, h1, Nat.le_refl _, .inl rfl, ?_⟩
  rw [List.take_of_length_le (Nat.le_refl _)]
  exact hR
theorem take_done {α : Type} (dn : List α) (r : List α) (n : Nat) (h : n = dn.length) : List.take n (dn ++ r) = dn := by
  rw [h, List.take_append_of_le_length (Nat.le_refl _), List.take_of_length_le (Nat.le_refl _)]
theorem drop_done {α : Type} (dn : List α) (x : α) (r : List α) (n : Nat) (h : n = dn.length + 1) : List.drop n (dn ++ x :: r) = r := by
  rw [h, List.drop_append, List.drop_of_length_le (by omega)]
  simp
@[simp] theorem get_mid {α : Type} {h1 h2 : List α} {b : α} : (h1 ++ b :: h2)[h1.length]? = some b := by simp
@[simp] theorem get_skip {α : Type} {h1 h2 : List α} {k : Nat} : (h1 ++ h2)[h1.length + k]? = h2[k]? := by
  rw [List.getElem?_append_right (by omega)]; congr 1; omega
@[simp] theorem set_skip {α : Type} {h1 h2 : List α} {k : Nat} {c : α} : (h1 ++ h2).set (h1.length + k) c = h1 ++ h2.set k c := by
  rw [List.set_append_right _ _ (by omega)]; congr 2; omega
@[simp] theorem set_mid {α : Type} {h1 h2 : List α} {b c : α} : (h1 ++ b :: h2).set h1.length c = h1 ++ c :: h2 := by simp
def GM.all (w : World) : GM := fun b i => w.cell? ⟨b, i, none⟩
theorem Gives.row {P : Program} {f : FuncId} {args : List LV} {v : Value} (c : Gives P f args (· = .sc v)) (w : World) (vals : List Value) (hv : RepVals (GM.all w) [] args vals []) :
    Calls P f vals.toArray w fun e w' => e = .returned v ∧ Still w w' ∧ w.heap.size ≤ w'.heap.size ∧ ∀ b, b < w.heap.size → w'.heap[b]? = w.heap[b]? := by
  have hi0 : WInv w (GM.all w) [] [] [] [] := by
    refine ⟨rfl, rfl, fun b i v hv => hv, by simp, ?_, by simp, ?_, ?_⟩
    · rintro b ⟨l, xs, hl, _⟩; simp at hl
    · intro b m k hm; simp at hm
    · intro b; simp
  refine (c.2.2 w _ [] [] vals [] hv hi0).mono fun e w' he => ?_
  obtain ⟨u, r, h', B, ν, OH', O', g1, ⟨g2, glow⟩, g3, g4⟩ := he
  subst g2
  simp only [Rep] at g3
  obtain ⟨rfl, _⟩ := g3
  refine ⟨g1, g4.since.still, g4.since.size, fun b hb => (g4.since.kept b hb ?_).1⟩
  rintro (⟨l, xs, k, _⟩ | ⟨m, q, k⟩) <;> simp at k
end Go.TL
namespace Go.TL
theorem onBool_split {b w : Bool} {p q : Prop} (h1 : b = w → p) (h2 : b = (!w) → q) : @onBool (some b) w ⟨p⟩ ⟨q⟩ := by
  refine ⟨b, rfl, h1, fun h => h2 ?_⟩
  cases b <;> cases w <;> simp at h ⊢
theorem onBoolT {b : Bool} {p q : Prop} (h1 : b = true → p) (h2 : b = false → q) : @onBool (some b) true ⟨p⟩ ⟨q⟩ := onBool_split h1 h2
theorem onBoolF {b : Bool} {p q : Prop} (h1 : b = true → q) (h2 : b = false → p) : @onBool (some b) false ⟨p⟩ ⟨q⟩ := onBool_split h2 h1
@[simp] theorem bin_beql {a b : Bool} : binLV .bool .eql (.sc (.bool a)) (.sc (.bool b)) = some (.sc (.bool (a == b))) := by
  cases a <;> cases b <;> rfl
@[simp] theorem bin_bneq {a b : Bool} : binLV .bool .neq (.sc (.bool a)) (.sc (.bool b)) = some (.sc (.bool (!(a == b)))) := by
  cases a <;> cases b <;> rfl
def cellAt (b : Option Box) (agg : Bool) (sz l : Nat) (h : List Box) : Option (LV × List Box) := match b with
  | some (some xs) => if sz = xs.length then (ofCells agg xs).map fun v => (v, h.set l (some (shareAll xs))) else none
  | _ => none
def cellLV (v : LV) (h : List Box) (agg : Bool) (sz : Nat) : Option (LV × List Box) := match v with
  | .ptr l 0 => cellAt h[l]? agg sz l h
  | _ => none
@[simp] theorem cellAt_some {xs : List LV} {agg : Bool} {sz l : Nat} {h : List Box} : cellAt (some (some xs)) agg sz l h = if sz = xs.length then (ofCells agg xs).map fun v => (v, h.set l (some (shareAll xs))) else none := rfl
@[simp] theorem cellLV_ptr {h : List Box} {agg : Bool} {sz l : Nat} : cellLV (.ptr l 0) h agg sz = cellAt h[l]? agg sz l h := rfl
@[simp] theorem rvVals_cell {s : St} {t : Nat} {agg : Bool} {sz : Nat} {rs : List RV} : rvVals s (.cell t agg sz :: rs) = (cellLV (s.t t) s.h agg sz).bind fun q => (rvVals { t := s.t, h := q.2 } rs).map fun p => (q.1 :: p.1, p.2) := by
  simp only [rvVals, rvVal, cellLV]
  cases h : s.t t <;> try rfl
  rename_i l o
  cases o with
  | succ o => rfl
  | zero =>
    simp only [cellAt]
    cases h2 : s.h[l]? with
    | none => rfl
    | some b => cases b with
      | none => rfl
      | some xs =>
        by_cases hc : sz = xs.length
        · simp only [if_pos hc]
          cases ofCells agg xs with
          | none => rfl
          | some v =>
            simp only [Option.map_some, Option.bind_some]
            cases rvVals { s with h := s.h.set l (some (shareAll xs)) } rs <;> rfl
        · simp only [if_neg hc]; rfl
def writesG (gs : List GI) : List Nat := gs.flatMap fun g => g.2.writes
def writesC : C → List Nat
  | .skip => []
  | .reg gs => writesG gs
  | .par its => its.flatMap fun it => writesG it.list
  | .frz k => [k]
  | .seq a b => writesC a ++ writesC b
  | .cond _ a b => writesC a ++ writesC b
  | .block _ b => writesC b
  | .loop b => writesC b
  | .exit _ => []
  | .ret => []
def Fr (W : List Nat) (t t' : Nat → LV) : Prop := ∀ k, k ∉ W → t' k = t k
theorem Fr.refl (W : List Nat) (t : Nat → LV) : Fr W t t := fun _ _ => rfl
theorem Fr.trans {W : List Nat} {a b c : Nat → LV} (h : Fr W a b) (g : Fr W b c) : Fr W a c := fun k hk => (g k hk).trans (h k hk)
section
variable {P : Program}
theorem wpG_fr {g : GI} {K : St → Prop} {s : St} {W : List Nat} (hw : ∀ k ∈ g.2.writes, k ∈ W) (h : wpG P g K s) : wpG P g (fun s' => K s' ∧ Fr W s.t s'.t) s := by
  cases hc : g.2.isCall with
  | false =>
    rw [wpG_det hc] at h ⊢
    obtain ⟨s', h1, h2⟩ := h
    exact ⟨s', h1, h2, fun k hk => (gstep_frame g s s' h1).1 k (fun hk' => hk (hw k hk'))⟩
  | true =>
    cases hg : g.2 <;> (try (simp [hg, I.isCall] at hc; done))
    rename_i rw_ d f args
    have hd : ∀ k ∈ d.toList, k ∈ W := fun k hk => hw k (by rw [hg]; simp [I.writes, I.dst] at hk ⊢; exact .inl hk)
    have put : ∀ r h', Fr W s.t (putcall s d r h').t := fun r h' k hk => by
      simp only [putcall]
      exact putO_out (fun hk' => hk (hd k hk'))
    have core : wpCall P rw_ d f args K s → wpCall P rw_ d f args (fun s' => K s' ∧ Fr W s.t s'.t) s := by
      rintro ⟨fid, caps, c1, c2⟩
      exact ⟨fid, caps, c1, callWp_mono c2 fun r h' hr => ⟨hr, put r h'⟩⟩
    rw [wpG_call hg] at h ⊢
    cases hg1 : g.1 with
    | none => rw [hg1] at h; exact core h
    | some jw =>
      obtain ⟨j, want⟩ := jw
      rw [hg1] at h
      obtain ⟨b, hb, h1, h2⟩ := h
      refine ⟨b, hb, fun e => core (h1 e), fun e => ⟨h2 e, ?_⟩⟩
      rw [skip_call_put]; exact put _ _
theorem wpL_fr {W : List Nat} : ∀ (gs : List GI) {K : St → Prop} {s : St}, (∀ k ∈ writesG gs, k ∈ W) → wpL P gs K s → wpL P gs (fun s' => K s' ∧ Fr W s.t s'.t) s
  | [], K, s, _, h => ⟨h, Fr.refl W _⟩
  | g :: gs, K, s, hw, h => by
    simp only [writesG, List.flatMap_cons, List.mem_append] at hw
    refine wpG_mono (wpG_fr (W := W) (fun k hk => hw k (.inl hk)) h) fun s1 ⟨h1, f1⟩ => ?_
    refine Gives.of_code.wpL_mono gs (wpL_fr gs (fun k hk => hw k (.inr hk)) h1) fun s2 ⟨h2, f2⟩ => ⟨h2, f1.trans f2⟩
theorem wpIts_fr {W : List Nat} : ∀ (its : List (It GI)) {K : St → Prop} {s : St}, (∀ k ∈ its.flatMap fun it => writesG it.list, k ∈ W) → wpIts P its K s → wpIts P its (fun s' => K s' ∧ Fr W s.t s'.t) s
  | [], K, s, _, h => ⟨h, Fr.refl W _⟩
  | it :: its, K, s, hw, h => by
    simp only [List.flatMap_cons, List.mem_append] at hw
    have rest : ∀ s1, Fr W s.t s1.t → wpIts P its K s1 → wpIts P its (fun s' => K s' ∧ Fr W s.t s'.t) s1 := fun s1 f1 h1 =>
      wpIts_mono its (wpIts_fr its (fun k hk => hw k (.inr hk)) h1) fun s2 ⟨h2, f2⟩ => ⟨h2, f1.trans f2⟩
    cases it with
    | one g =>
      have hg : ∀ k ∈ g.2.writes, k ∈ W := fun k hk => hw k (.inl (by simp [It.list, writesG]; exact hk))
      exact wpG_mono (wpG_fr hg h) fun s1 ⟨h1, f1⟩ => rest s1 f1 h1
    | two g g' =>
      have hg : ∀ k ∈ g.2.writes, k ∈ W := fun k hk => hw k (.inl (by simp [It.list, writesG]; exact .inl hk))
      have hg' : ∀ k ∈ g'.2.writes, k ∈ W := fun k hk => hw k (.inl (by simp [It.list, writesG]; exact .inr hk))
      refine ⟨wpG_mono (wpG_fr hg h.1) fun s1 ⟨h1, f1⟩ => wpG_mono (wpG_fr hg' h1) fun s2 ⟨h2, f2⟩ => rest s2 (f1.trans f2) h2,
        wpG_mono (wpG_fr hg' h.2) fun s1 ⟨h1, f1⟩ => wpG_mono (wpG_fr hg h1) fun s2 ⟨h2, f2⟩ => rest s2 (f1.trans f2) h2⟩
theorem wpC_fr {W : List Nat} : ∀ (c : C) {Q : Exit → St → Prop} {s : St}, (∀ k ∈ writesC c, k ∈ W) → wpC P c Q s → wpC P c (fun e s' => Q e s' ∧ Fr W s.t s'.t) s
  | .skip, Q, s, _, h => ⟨h, Fr.refl W _⟩
  | .reg gs, Q, s, hw, h => wpL_fr gs hw h
  | .par its, Q, s, hw, h => wpIts_fr its hw h
  | .frz k, Q, s, hw, h => by
    obtain ⟨s', h1, h2⟩ := h
    refine ⟨s', h1, h2, fun j hj => frzStep_frame h1 j fun e => hj (hw j (by simp [writesC, e]))⟩
  | .seq a b, Q, s, hw, h => by
    simp only [writesC, List.mem_append] at hw
    refine Gives.of_code.wpC_mono a (wpC_fr a (fun k hk => hw k (.inl hk)) h) fun e s1 ⟨h1, f1⟩ => ?_
    cases e <;> first | exact ⟨h1, f1⟩ | skip
    exact Gives.of_code.wpC_mono b (wpC_fr b (fun k hk => hw k (.inr hk)) h1) fun e s2 ⟨h2, f2⟩ => ⟨h2, f1.trans f2⟩
  | .cond x a b, Q, s, hw, h => by
    simp only [writesC, List.mem_append] at hw
    obtain ⟨v, h1, h2, h3⟩ := h
    exact ⟨v, h1, fun e => wpC_fr a (fun k hk => hw k (.inl hk)) (h2 e), fun e => wpC_fr b (fun k hk => hw k (.inr hk)) (h3 e)⟩
  | .block id b, Q, s, hw, h => by
    refine Gives.of_code.wpC_mono b (wpC_fr b hw h) fun e s1 ⟨h1, f1⟩ => ?_
    cases e <;> first | exact ⟨h1, f1⟩ | skip
    simp only [inBlockL] at h1 ⊢
    split
    · rename_i hid; rw [if_pos hid] at h1; exact ⟨h1, f1⟩
    · rename_i hid; rw [if_neg hid] at h1; exact ⟨h1, f1⟩
  | .loop b, Q, s, hw, h => by
    obtain ⟨I, k0, h0, hr⟩ := h
    refine ⟨fun k s' => I k s' ∧ Fr W s.t s'.t, k0, ⟨h0, Fr.refl W _⟩, fun k s1 ⟨hI, f1⟩ => ?_⟩
    refine Gives.of_code.wpC_mono b (wpC_fr b hw (hr k s1 hI)) fun e s2 ⟨h2, f2⟩ => ?_
    cases e <;> first | exact ⟨h2, f1.trans f2⟩ | skip
    obtain ⟨k', hlt, h3⟩ := h2
    exact ⟨k', hlt, h3, f1.trans f2⟩
  | .exit id, Q, s, _, h => ⟨h, Fr.refl W _⟩
  | .ret, Q, s, _, h => ⟨h, Fr.refl W _⟩
theorem wpC_loopW {b : C} {Q : Exit → St → Prop} {s : St} (J : Nat → (Nat → LV) → List Box → Prop) (k0 : Nat) (h0 : J k0 s.t s.h)
    (hr : ∀ k t h, (∀ j, ((writesC b).contains j) = false → t j = s.t j) → J k t h → wpC P b (thenL (fun s' => ∃ k', k' < k ∧ J k' s'.t s'.h) Q) ⟨t, h⟩) : wpC P (.loop b) Q s := by
  refine ⟨fun k s' => J k s'.t s'.h ∧ Fr (writesC b) s.t s'.t, k0, ⟨h0, Fr.refl _ _⟩, fun k s1 ⟨hJ, f1⟩ => ?_⟩
  have h1 := hr k s1.t s1.h (fun j hj => f1 j (by simpa using hj)) hJ
  refine Gives.of_code.wpC_mono b (wpC_fr b (fun k hk => hk) h1) fun e s2 ⟨h2, f2⟩ => ?_
  cases e <;> first | exact h2 | skip
  obtain ⟨k', hlt, h3⟩ := h2
  exact ⟨k', hlt, h3, f1.trans f2⟩
theorem wpL_mid {gs : List GI} {K : St → Prop} {s : St} (M : (Nat → LV) → List Box → Prop) (h : wpL P gs (fun s' => M s'.t s'.h) s)
    (hk : ∀ t h, (∀ j, ((writesG gs).contains j) = false → t j = s.t j) → M t h → K ⟨t, h⟩) : wpL P gs K s :=
  Gives.of_code.wpL_mono gs (wpL_fr (W := writesG gs) gs (fun k hk => hk) h) fun s' ⟨h1, f1⟩ => hk s'.t s'.h (fun j hj => f1 j (by simpa using hj)) h1
theorem wpC_mid {c : C} {Q : Exit → St → Prop} {s : St} (M : (Nat → LV) → List Box → Prop) (h : wpC P c (fun e s' => match e with | .normal => M s'.t s'.h | e => Q e s') s)
    (hk : ∀ t h, (∀ j, ((writesC c).contains j) = false → t j = s.t j) → M t h → Q .normal ⟨t, h⟩) : wpC P c Q s := by
  refine Gives.of_code.wpC_mono c (wpC_fr (W := writesC c) c (fun k hk => hk) h) fun e s' ⟨h1, f1⟩ => ?_
  cases e <;> first | exact h1 | skip
  exact hk s'.t s'.h (fun j hj => f1 j (by simpa using hj)) h1
theorem wpC_loopM {b : C} {id : Nat} {Q : Exit → St → Prop} {s : St} (J : Nat → (Nat → LV) → List Box → Prop) (M : (Nat → LV) → List Box → Prop) (k0 : Nat) (h0 : J k0 s.t s.h)
    (hr : ∀ k t h, (∀ j, ((writesC b).contains j) = false → t j = s.t j) → J k t h → wpC P b (thenL (fun s' => ∃ k', k' < k ∧ J k' s'.t s'.h) (inBlockL id (thenL (fun s' => M s'.t s'.h) Q))) ⟨t, h⟩)
    (hk : ∀ t h, (∀ j, ((writesC b).contains j) = false → t j = s.t j) → M t h → Q .normal ⟨t, h⟩) : wpC P (.loop b) (inBlockL id Q) s := by
  have h1 := wpC_loopW (Q := inBlockL id (thenL (fun s' => M s'.t s'.h) Q)) J k0 h0 hr
  have h2 := wpC_fr (W := writesC b) (.loop b) (fun k hk => hk) h1
  refine Gives.of_code.wpC_mono (.loop b) h2 fun e s' ⟨h3, f1⟩ => ?_
  have hf : ∀ j, ((writesC b).contains j) = false → s'.t j = s.t j := fun j hj => f1 j (by simpa using hj)
  cases e <;> first | exact hk _ _ hf h3 | exact h3 | skip
  · simp only [inBlockL] at h3 ⊢
    split
    · rename_i hid; rw [if_pos hid] at h3; exact hk _ _ hf h3
    · rename_i hid; rw [if_neg hid] at h3; exact h3
theorem wpC_for {b : C} {Q : Exit → St → Prop} {s : St} (n i0 : Nat) (J : Nat → (Nat → LV) → List Box → Prop) (h0 : J i0 s.t s.h) (hi0 : i0 ≤ n)
    (hr : ∀ i t h, (∀ j, ((writesC b).contains j) = false → t j = s.t j) → i ≤ n → J i t h → wpC P b (thenL (fun s' => i < n ∧ J (i + 1) s'.t s'.h) Q) ⟨t, h⟩) : wpC P (.loop b) Q s := by
  refine wpC_loopW (fun k t h => ∃ i, k = n - i ∧ i ≤ n ∧ J i t h) (n - i0) ⟨i0, rfl, hi0, h0⟩ ?_
  rintro k t h hf ⟨i, rfl, hi, hJ⟩
  refine Gives.of_code.wpC_mono b (hr i t h hf hi hJ) fun e s' hs => ?_
  cases e <;> first | exact hs | skip
  exact ⟨n - (i + 1), by have := hs.1; omega, i + 1, rfl, hs.1, hs.2⟩
theorem wpC_forM {b : C} {id : Nat} {Q : Exit → St → Prop} {s : St} (n i0 : Nat) (J : Nat → (Nat → LV) → List Box → Prop) (M : (Nat → LV) → List Box → Prop) (h0 : J i0 s.t s.h) (hi0 : i0 ≤ n)
    (hr : ∀ i t h, (∀ j, ((writesC b).contains j) = false → t j = s.t j) → i ≤ n → J i t h → wpC P b (thenL (fun s' => i < n ∧ J (i + 1) s'.t s'.h) (inBlockL id (thenL (fun s' => M s'.t s'.h) Q))) ⟨t, h⟩)
    (hk : ∀ t h, (∀ j, ((writesC b).contains j) = false → t j = s.t j) → M t h → Q .normal ⟨t, h⟩) : wpC P (.loop b) (inBlockL id Q) s := by
  refine wpC_loopM (fun k t h => ∃ i, k = n - i ∧ i ≤ n ∧ J i t h) M (n - i0) ⟨i0, rfl, hi0, h0⟩ ?_ hk
  rintro k t h hf ⟨i, rfl, hi, hJ⟩
  refine Gives.of_code.wpC_mono b (hr i t h hf hi hJ) fun e s' hs => ?_
  cases e <;> first | exact hs | skip
  exact ⟨n - (i + 1), by have := hs.1; omega, i + 1, rfl, hs.1, hs.2⟩
theorem wpC_cut {a b : C} {Q : Exit → St → Prop} {s : St} (M : (Nat → LV) → List Box → Prop) (h : wpC P a (thenL (fun s' => M s'.t s'.h) Q) s)
    (hk : ∀ t h, (∀ j, ((writesC a).contains j) = false → t j = s.t j) → M t h → wpC P b Q ⟨t, h⟩) : wpC P (.seq a b) Q s := by
  show wpC P a (thenL (wpC P b Q) Q) s
  refine wpC_mid M (Gives.of_code.wpC_mono a h fun e s' hs => ?_) hk
  cases e <;> exact hs
end
end Go.TL
namespace Go.TL
mutual
def Fz : LV → LV → List Box → List Box → Prop
  | .sl u nl sz rows, y, h, h1 => (y = .sl u nl sz rows ∧ h1 = h) ∨
      (u = true ∧ nl = false ∧ ∃ l cap cells rest, y = .ha l sz 0 rows.length cap ∧ h[l]? = some (some (cells ++ rest)) ∧ rows.length ≤ cap ∧ (cells ++ rest).length = cap * sz ∧ FzRow rows sz cells (h.set l none) h1)
  | .rp ys, y, h, h1 => (y = .rp ys ∧ h1 = h) ∨ ∃ l xs, y = .ptr l 0 ∧ h[l]? = some (some xs) ∧ FzAll ys xs (h.set l none) h1
  | .agg ys, y, h, h1 => ∃ xs, y = .agg xs ∧ FzAll ys xs h h1
  | .tup ys, y, h, h1 => ∃ xs, y = .tup xs ∧ FzAll ys xs h h1
  | t, y, h, h1 => y = t ∧ h1 = h
def FzRow : List (List LV) → Nat → List LV → List Box → List Box → Prop
  | [], _, cells, h, h1 => cells = [] ∧ h1 = h
  | row :: rows, sz, cells, h, h1 => ∃ c1 c2 h', cells = c1 ++ c2 ∧ row.length = sz ∧ FzAll row c1 h h' ∧ FzRow rows sz c2 h' h1
def FzAll : List LV → List LV → List Box → List Box → Prop
  | [], xs, h, h1 => xs = [] ∧ h1 = h
  | y :: ys, xs, h, h1 => ∃ x xs' h', xs = x :: xs' ∧ Fz y x h h' ∧ FzAll ys xs' h' h1
end
theorem fzAll_length : ∀ (ys xs : List LV) (h h1 : List Box), FzAll ys xs h h1 → xs.length = ys.length
  | [], xs, h, h1, hz => by simp only [FzAll] at hz; rw [hz.1]
  | y :: ys, xs, h, h1, hz => by
    simp only [FzAll] at hz
    obtain ⟨u, us, h', rfl, _, z2⟩ := hz
    simp [fzAll_length ys us h' h1 z2]
theorem fzRow_length : ∀ (rows : List (List LV)) (sz : Nat) (cells : List LV) (h h1 : List Box), FzRow rows sz cells h h1 → cells.length = rows.length * sz
  | [], sz, cells, h, h1, hz => by simp only [FzRow] at hz; rw [hz.1]; simp
  | row :: rows, sz, cells, h, h1, hz => by
    simp only [FzRow] at hz
    obtain ⟨c1, c2, h', rfl, hs, z1, z2⟩ := hz
    have e1 := fzAll_length row c1 h h' z1
    have e2 := fzRow_length rows sz c2 h' h1 z2
    rw [List.length_append, List.length_cons, Nat.add_mul, e1, e2, hs]; omega
section
variable {x : Cx} {w : World} {μ : List Nat}
def Frozen (x : Cx) (w : World) (μ : List Nat) (B : GM) (h1 : List Box) (E : List Own) (Rv : GM → List Own → Prop) : Prop :=
  ∃ B' OH' O', St' x w B' μ h1 OH' (O' ++ E) ∧ B.Le B' ∧ Rv B' O'
theorem fz_box {B : GM} {h : List Box} {OH : List (List Own)} {O : List Own} (s : St' x w B μ h OH O) {l : Nat} {xs : List LV} (hl : h[l]? = some (some xs)) (m : Nat) (hm : m ≤ xs.length) :
    ∃ (c : Array Value) (e : TypeId) (Oc : List Own) (vs : List Value), w.heap[μ.getD l 0]? = some (.cells c e (0, 0)) ∧ c.size = xs.length ∧ (∀ p : Own → Bool, Oc.countP p ≤ (OH.getD l []).countP p) ∧
      RepVals (B.put (μ.getD l 0) 0 m c) μ (xs.take m) vs Oc ∧ (∀ j v, vs[j]? = some v → B.put (μ.getD l 0) 0 m c (μ.getD l 0) j = some v ∧ v.oneCell' = true) ∧ vs.length = m ∧ B.Le (B.put (μ.getD l 0) 0 m c) := by
  obtain ⟨c, e, hc, hxs, hone⟩ := s.inv.box l xs hl
  have hcl : c.size = xs.length := by rw [← hxs.length, Array.length_toList]
  have hlv : Live μ h (μ.getD l 0) := ⟨l, xs, hl, rfl⟩
  have hle : B.Le (B.put (μ.getD l 0) 0 m c) := GM.put_le (fun i _ => s.inv.loose _ hlv i)
  have h2 := RepVals.mono (ν := []) hle xs c.toList _ hxs
  rw [List.append_nil, ← List.take_append_drop m xs] at h2
  obtain ⟨v1, v2, Oc, Or, e1, e2, k1, k2⟩ := h2.split
  have l1 := k1.length
  rw [List.length_take, Nat.min_eq_left hm] at l1
  refine ⟨c, e, Oc, v1, hc, hcl, fun p => by rw [e2, List.countP_append]; omega, k1, fun j v hj => ?_, l1, hle⟩
  have hjl : j < v1.length := by
    rcases Nat.lt_or_ge j v1.length with g | g
    · exact g
    · rw [List.getElem?_eq_none (by simpa using g)] at hj; simp at hj
  have hj' : c[j]? = some v := by
    rw [← Array.getElem?_toList, e1, List.getElem?_append_left hjl]; exact hj
  refine ⟨?_, hone v (List.mem_of_getElem? (by rw [Array.getElem?_toList]; exact hj'))⟩
  unfold GM.put
  rw [if_pos (by omega)]
  exact hj'
theorem St'.le {B : GM} {h : List Box} {OH : List (List Own)} {O O2 : List Own} (s : St' x w B μ h OH O) (hf : Fewer O2 O) : St' x w B μ h OH O2 := s.fewer hf
mutual
theorem freeze_val : ∀ (t y : LV) (h h1 : List Box) (B : GM) (OH : List (List Own)) (O : List Own) (v : Value) (Ov E : List Own), Fz t y h h1 → St' x w B μ h OH O → Rep B μ y v Ov →
    (∀ p : Own → Bool, Ov.countP p + E.countP p ≤ O.countP p) → Frozen x w μ B h1 E fun B' O' => Rep B' μ t v O'
  | .sl u nl sz rows, y, h, h1, B, OH, O, v, Ov, E, hz, s, hr, hf => by
    simp only [Fz] at hz
    rcases hz with ⟨rfl, rfl⟩ | ⟨rfl, rfl, l, cap, cells, rest, rfl, hl, hcap, hlen, hz⟩
    · exact ⟨B, OH, Ov, s.le (fun p => by have := hf p; simp only [List.countP_append]; omega), fun _ _ _ h => h, hr⟩
    · simp only [Rep] at hr
      obtain ⟨rfl, hlμ, rfl⟩ := hr
      have hclen := fzRow_length rows sz cells _ _ hz
      obtain ⟨c, e, Oc, vs, hc, hcs, hOc, hvs, hAt, hvl, hle⟩ := fz_box s hl (rows.length * sz) (by rw [List.length_append]; omega)
      rw [List.take_append_of_le_length (by omega), List.take_of_length_le (by omega)] at hvs
      have s1 := s.settle hl (Oc ++ ((μ.getD l 0, rows.length * sz, c.size) :: E)) hc (rows.length * sz) (fun p => by
        have h1 := hf p
        have h2 := hOc p
        simp only [List.countP_append, List.countP_cons, List.countP_nil] at h1 ⊢
        omega)
      obtain ⟨B', OH', O', s2, hle2, hr2, hrows⟩ := freeze_row rows sz cells (h.set l none) h1 _ _ _ vs Oc ((μ.getD l 0, rows.length * sz, c.size) :: E) hz s1 hvs (fun p => by simp only [List.countP_append]; omega)
      refine ⟨B', OH', (μ.getD l 0, rows.length * sz, c.size) :: O', s2.le (fun p => by simp only [List.countP_append, List.countP_cons]; omega), fun b i v hv => hle2 b i v (hle b i v hv), ?_⟩
      simp only [Rep]
      refine .inr ⟨trivial, _, 0, none, cap, O', by rw [Nat.zero_mul], .inl rfl, hcap, RepRow.of_vals hrows hr2 (fun j u hj => ?_), .inl ⟨trivial, rfl, by rw [hcs, hlen]⟩⟩
      obtain ⟨q1, q2⟩ := hAt j u hj
      exact ⟨by rw [Nat.zero_add]; exact hle2 _ _ _ q1, q2⟩
  | .rp ys, y, h, h1, B, OH, O, v, Ov, E, hz, s, hr, hf => by
    simp only [Fz] at hz
    rcases hz with ⟨rfl, rfl⟩ | ⟨l, xs, rfl, hl, hz⟩
    · exact ⟨B, OH, Ov, s.le (fun p => by have := hf p; simp only [List.countP_append]; omega), fun _ _ _ h => h, hr⟩
    · simp only [Rep] at hr
      obtain ⟨rfl, hlμ, rfl⟩ := hr
      obtain ⟨c, e, Oc, vs, hc, hcs, hOc, hvs, hAt, hvl, hle⟩ := fz_box s hl xs.length (Nat.le_refl _)
      rw [List.take_of_length_le (Nat.le_refl _)] at hvs
      have s1 := s.settle hl (Oc ++ E) hc xs.length (fun p => by
        have h1 := hf p
        have h2 := hOc p
        simp only [List.countP_append, List.countP_nil] at h1 ⊢
        omega)
      obtain ⟨B', OH', O', s2, hle2, hr2⟩ := freeze_all ys xs (h.set l none) h1 _ _ _ vs Oc E hz s1 hvs (fun p => by simp only [List.countP_append]; omega)
      refine ⟨B', OH', O', s2, fun b i v hv => hle2 b i v (hle b i v hv), ?_⟩
      simp only [Rep]
      refine ⟨_, 0, rfl, RepCells.of hr2 fun j u hj => ?_⟩
      obtain ⟨q1, q2⟩ := hAt j u hj
      exact ⟨by rw [Nat.zero_add]; exact hle2 _ _ _ q1, q2⟩
  | .agg ys, y, h, h1, B, OH, O, v, Ov, E, hz, s, hr, hf => by
    simp only [Fz] at hz
    obtain ⟨xs, rfl, hz⟩ := hz
    simp only [Rep] at hr
    obtain ⟨vs, rfl, h0, h2⟩ := hr
    obtain ⟨B', OH', O', s2, hle2, hr2⟩ := freeze_all ys xs h h1 B OH O vs Ov E hz s h2 hf
    exact ⟨B', OH', O', s2, hle2, by simp only [Rep]; exact ⟨vs, rfl, h0, hr2⟩⟩
  | .tup ys, y, h, h1, B, OH, O, v, Ov, E, hz, s, hr, hf => by
    simp only [Fz] at hz
    obtain ⟨xs, rfl, hz⟩ := hz
    simp only [Rep] at hr
    obtain ⟨vs, rfl, h2⟩ := hr
    obtain ⟨B', OH', O', s2, hle2, hr2⟩ := freeze_all ys xs h h1 B OH O vs Ov E hz s h2 hf
    exact ⟨B', OH', O', s2, hle2, by simp only [Rep]; exact ⟨vs, rfl, hr2⟩⟩
  | .sc u, y, h, h1, B, OH, O, v, Ov, E, hz, s, hr, hf => by
    simp only [Fz] at hz; obtain ⟨rfl, rfl⟩ := hz
    exact ⟨B, OH, Ov, s.le (fun p => by have := hf p; simp only [List.countP_append]; omega), fun _ _ _ h => h, hr⟩
  | .ha _ _ _ _ _, y, h, h1, B, OH, O, v, Ov, E, hz, s, hr, hf => by
    simp only [Fz] at hz; obtain ⟨rfl, rfl⟩ := hz
    exact ⟨B, OH, Ov, s.le (fun p => by have := hf p; simp only [List.countP_append]; omega), fun _ _ _ h => h, hr⟩
  | .ptr _ _, y, h, h1, B, OH, O, v, Ov, E, hz, s, hr, hf => by
    simp only [Fz] at hz; obtain ⟨rfl, rfl⟩ := hz
    exact ⟨B, OH, Ov, s.le (fun p => by have := hf p; simp only [List.countP_append]; omega), fun _ _ _ h => h, hr⟩
  | .fn _ _, y, h, h1, B, OH, O, v, Ov, E, hz, s, hr, hf => by
    simp only [Fz] at hz; obtain ⟨rfl, rfl⟩ := hz
    exact ⟨B, OH, Ov, s.le (fun p => by have := hf p; simp only [List.countP_append]; omega), fun _ _ _ h => h, hr⟩
  | .fnm _ _, y, h, h1, B, OH, O, v, Ov, E, hz, s, hr, hf => by
    simp only [Fz] at hz; obtain ⟨rfl, rfl⟩ := hz
    exact ⟨B, OH, Ov, s.le (fun p => by have := hf p; simp only [List.countP_append]; omega), fun _ _ _ h => h, hr⟩
  | .raw _, y, h, h1, B, OH, O, v, Ov, E, hz, s, hr, hf => by
    simp only [Fz] at hz; obtain ⟨rfl, rfl⟩ := hz
    exact ⟨B, OH, Ov, s.le (fun p => by have := hf p; simp only [List.countP_append]; omega), fun _ _ _ h => h, hr⟩
  | .dead, y, h, h1, B, OH, O, v, Ov, E, hz, s, hr, hf => by
    simp only [Fz] at hz; obtain ⟨rfl, rfl⟩ := hz
    exact ⟨B, OH, Ov, s.le (fun p => by have := hf p; simp only [List.countP_append]; omega), fun _ _ _ h => h, hr⟩
  | .both _ _, y, h, h1, B, OH, O, v, Ov, E, hz, s, hr, hf => by
    simp only [Fz] at hz; obtain ⟨rfl, rfl⟩ := hz
    exact ⟨B, OH, Ov, s.le (fun p => by have := hf p; simp only [List.countP_append]; omega), fun _ _ _ h => h, hr⟩
theorem freeze_all : ∀ (ys xs : List LV) (h h1 : List Box) (B : GM) (OH : List (List Own)) (O : List Own) (vs : List Value) (Ov E : List Own), FzAll ys xs h h1 → St' x w B μ h OH O → RepVals B μ xs vs Ov →
    (∀ p : Own → Bool, Ov.countP p + E.countP p ≤ O.countP p) → Frozen x w μ B h1 E fun B' O' => RepVals B' μ ys vs O'
  | [], xs, h, h1, B, OH, O, vs, Ov, E, hz, s, hr, hf => by
    simp only [FzAll] at hz
    obtain ⟨rfl, rfl⟩ := hz
    exact ⟨B, OH, Ov, s.le (fun p => by have := hf p; simp only [List.countP_append]; omega), fun _ _ _ h => h, hr⟩
  | y :: ys, xs, h, h1, B, OH, O, vs, Ov, E, hz, s, hr, hf => by
    simp only [FzAll] at hz
    obtain ⟨u, us, h', rfl, z1, z2⟩ := hz
    simp only [RepVals] at hr
    obtain ⟨v, ws, O1, O2, rfl, rfl, k1, k2⟩ := hr
    obtain ⟨B1, OH1, O1', s1, hle1, r1⟩ := freeze_val y u h h' B OH O v O1 (O2 ++ E) z1 s k1 (fun p => by have := hf p; simp only [List.countP_append] at this ⊢; omega)
    have k2' := RepVals.mono (ν := []) hle1 us ws O2 k2
    rw [List.append_nil] at k2'
    obtain ⟨B2, OH2, O2', s2, hle2, r2⟩ := freeze_all ys us h' h1 B1 OH1 _ ws O2 (O1' ++ E) z2 s1 k2' (fun p => by simp only [List.countP_append]; omega)
    have r1' := Rep.mono (ν := []) hle2 y v O1' r1
    rw [List.append_nil] at r1'
    exact ⟨B2, OH2, O1' ++ O2', s2.le (fun p => by simp only [List.countP_append]; omega), fun b i v hv => hle2 b i v (hle1 b i v hv), by simp only [RepVals]; exact ⟨v, ws, O1', O2', rfl, rfl, r1', r2⟩⟩
theorem freeze_row : ∀ (rows : List (List LV)) (sz : Nat) (cells : List LV) (h h1 : List Box) (B : GM) (OH : List (List Own)) (O : List Own) (vs : List Value) (Ov E : List Own), FzRow rows sz cells h h1 → St' x w B μ h OH O → RepVals B μ cells vs Ov →
    (∀ p : Own → Bool, Ov.countP p + E.countP p ≤ O.countP p) → Frozen x w μ B h1 E fun B' O' => RepVals B' μ rows.flatten vs O' ∧ ∀ r ∈ rows, r.length = sz
  | [], sz, cells, h, h1, B, OH, O, vs, Ov, E, hz, s, hr, hf => by
    simp only [FzRow] at hz
    obtain ⟨rfl, rfl⟩ := hz
    exact ⟨B, OH, Ov, s.le (fun p => by have := hf p; simp only [List.countP_append]; omega), fun _ _ _ h => h, by simpa using hr, by simp⟩
  | row :: rows, sz, cells, h, h1, B, OH, O, vs, Ov, E, hz, s, hr, hf => by
    simp only [FzRow] at hz
    obtain ⟨c1, c2, h', rfl, hlen, z1, z2⟩ := hz
    obtain ⟨v1, v2, O1, O2, rfl, rfl, k1, k2⟩ := hr.split
    obtain ⟨B1, OH1, O1', s1, hle1, r1⟩ := freeze_all row c1 h h' B OH O v1 O1 (O2 ++ E) z1 s k1 (fun p => by have := hf p; simp only [List.countP_append] at this ⊢; omega)
    have k2' := RepVals.mono (ν := []) hle1 c2 v2 O2 k2
    rw [List.append_nil] at k2'
    obtain ⟨B2, OH2, O2', s2, hle2, r2, r3⟩ := freeze_row rows sz c2 h' h1 B1 OH1 _ v2 O2 (O1' ++ E) z2 s1 k2' (fun p => by simp only [List.countP_append]; omega)
    have r1' := RepVals.mono (ν := []) hle2 row v1 O1' r1
    rw [List.append_nil] at r1'
    refine ⟨B2, OH2, O1' ++ O2', s2.le (fun p => by simp only [List.countP_append]; omega), fun b i v hv => hle2 b i v (hle1 b i v hv), ?_, ?_⟩
    · rw [List.flatten_cons]; exact RepVals.app r1' r2
    · intro r hr
      rcases List.mem_cons.1 hr with rfl | hr
      · exact hlen
      · exact r3 r hr
end
end
theorem LCalls.freeze {P : Program} {f : FuncId} {args : List LV} {h : List Box} {R : LV → List Box → Prop}
    (c : LCalls P f args h fun r h' => ∃ t h1 m, Fz t r h' h1 ∧ h.length ≤ m ∧ m ≤ h1.length ∧ Low m t ∧ (∀ l xs, l < m → h1[l]? = some (some xs) → LowAll m xs) ∧ R t (h1.take m)) : LCalls P f args h R := by
  obtain ⟨h1, ⟨r0, h0', t0, h01, m0, _, _, _, _, _, hR0⟩, h2⟩ := c
  refine ⟨h1, ⟨_, _, hR0⟩, fun w A μ OH vals Oa hv hi => (h2 w A μ OH vals Oa hv hi).mono fun e w' he => ?_⟩
  obtain ⟨v, r, h', B, ν, OH', O', g1, ⟨t, h1', m, z, m1, m2, lo, lb, hR⟩, g3, g4⟩ := he
  obtain ⟨B', OH2, O2, s2, hle, r2⟩ := freeze_val t r h' h1' B OH' (O' ++ []) v O' [] z (by rw [List.append_nil]; exact g4) g3 (fun p => by simp)
  rw [List.append_nil] at s2
  have hlen := s2.inv.len
  have hμ := hi.len
  have s3 := s2.cut m (by simp only [CallCx]; omega) lb m2
  have htk : (μ ++ ν).take m = μ ++ ν.take (m - μ.length) := by
    rw [List.take_append, List.take_of_length_le (by omega)]
  rw [htk] at s3
  refine ⟨v, t, h1'.take m, B', ν.take (m - μ.length), _, O2, g1, hR, ?_, s3⟩
  rw [← htk]
  exact Rep.low (k := m) (by simp only [List.length_take]; omega) (fun l hl => by
    rw [List.getD_eq_getElem?_getD, List.getElem?_take, if_pos hl, ← List.getD_eq_getElem?_getD]) t v O2 lo r2
mutual
def Hard : LV → Bool
  | .sc _ => true
  | .ha _ _ _ _ _ => true
  | .ptr _ _ => true
  | .dead => true
  | .both _ _ => true
  | _ => false
end
theorem Hard.rep {A B : GM} {μ : List Nat} : ∀ (y : LV) (v : Value) (O : List Own), Hard y = true → (∀ u x, y = .both u x → Rep A μ x u []) → Rep B μ y v O → Rep A μ y v O ∧ O = []
  | .sc _, v, O, _, _, h => by simp only [Rep] at h ⊢; exact ⟨h, h.2⟩
  | .ha _ _ _ _ _, v, O, _, _, h => by simp only [Rep] at h ⊢; exact ⟨h, h.1⟩
  | .ptr _ _, v, O, _, _, h => by simp only [Rep] at h ⊢; exact ⟨h, h.1⟩
  | .dead, v, O, _, _, h => by simp only [Rep] at h ⊢; exact ⟨h, h⟩
  | .both u x, v, O, _, hx, h => by simp only [Rep] at h ⊢; obtain ⟨h1, rfl, _⟩ := h; exact ⟨⟨h1, rfl, hx _ x rfl⟩, h1⟩
  | .sl _ _ _ _, _, _, h, _, _ => by simp [Hard] at h
  | .rp _, _, _, h, _, _ => by simp [Hard] at h
  | .fn _ _, _, _, h, _, _ => by simp [Hard] at h
  | .fnm _ _, _, _, h, _, _ => by simp [Hard] at h
  | .agg _, _, _, h, _, _ => by simp [Hard] at h
  | .tup _, _, _, h, _, _ => by simp [Hard] at h
  | .raw _, _, _, h, _, _ => by simp [Hard] at h
end Go.TL
namespace Go.TL
def LowH (h : List Box) : Prop := ∀ (l : Nat) (xs : List LV), h[l]? = some (some xs) → LowAll h.length xs
theorem WInv.lowH {w : World} {A : GM} {μ : List Nat} {h : List Box} {OH : List (List Own)} {O : List Own} (i : WInv w A μ h OH O) : LowH h := by
  intro l xs hl
  obtain ⟨c, e, _, h2, _⟩ := i.box l xs hl
  rw [← i.len]
  exact RepVals.seen xs _ _ h2
theorem codeOf_callable {P : Program} {f : FuncId} {m : List (Nat × List Md)} {k : C} {rvs : List RV} {n : Nat} (hc : codeOf P f m = some (k, rvs, n)) : callable P f = true := by
  unfold codeOf at hc
  split at hc
  · rename_i hcal; exact hcal
  · simp at hc
theorem LCalls.of_low {P : Program} {f : FuncId} {args : List LV} {h : List Box} {R : LV → List Box → Prop} (hc : callable P f = true) (hex : ∃ r h', R r h') (c : LowH h → LCalls P f args h R) : LCalls P f args h R :=
  ⟨hc, hex, fun w A μ OH vals Oa hv hi => (c hi.lowH).2.2 w A μ OH vals Oa hv hi⟩
structure Dr where
  nl : Bool
  bs : List Int
abbrev Dr.lv (D : Dr) : LV := .sl false D.nl 1 (D.bs.map fun b => [.sc (.int .u8 b)])
structure Dr.ok (D : Dr) : Prop where
  len : D.bs.length ≤ 1099511627776
  byte : ∀ b ∈ D.bs, 0 ≤ b ∧ b ≤ 255
def CurOk (D : Dr) (i k : Int) : Prop := 0 ≤ i ∧ i ≤ D.bs.length ∧ -9223372036854775808 ≤ k ∧ k ≤ 9223372036854775807
def FCalls (P : Program) (D : Dr) (f : FuncId) (rest : List LV) (Q : LV → Prop) : Prop :=
  ∀ (h1 h3 : List Box) (ct : LV) (i k : Int), share ct = D.lv → CurOk D i k → LCalls P f (.ptr h1.length 0 :: rest) (h1 ++ some [ct, N i, N k] :: h3) fun r h' => ∃ i' k', CurOk D i' k' ∧ Q r ∧ h' = h1 ++ some [ct, N i', N k'] :: h3
section
variable {P : Program} {D : Dr} {K : St → Prop}
theorem FCalls.mono {f : FuncId} {rest : List LV} {Q Q' : LV → Prop} (c : FCalls P D f rest Q) (h : ∀ r, Q r → Q' r) : FCalls P D f rest Q' :=
  fun h1 h3 ct i k hct hk => (c h1 h3 ct i k hct hk).mono fun r h' hr => by
    obtain ⟨i', k', q1, q2, q3⟩ := hr
    exact ⟨i', k', q1, h r q2, q3⟩
def PostC (D : Dr) (rvs : List RV) (h1 h3 : List Box) (ct : LV) (Q : LV → Prop) : Exit → St → Prop := fun e s => (e = .normal ∨ e = .ret) ∧
  ∃ r s' i' k' ex, rvVals s rvs = some (r, s') ∧ s'.h = h1 ++ some [ct, N i', N k'] :: (h3 ++ ex) ∧ CurOk D i' k' ∧ Low 0 (pack r) ∧ Q (pack r)
theorem postC_post {rvs : List RV} {h1 h3 : List Box} {ct : LV} {i j : Int} {Q : LV → Prop} {e : Exit} {s : St} (lh : LowH (h1 ++ some [ct, N i, N j] :: h3)) (hs : PostC D rvs h1 h3 ct Q e s) :
    Post rvs (h1 ++ some [ct, N i, N j] :: h3).length (fun r h' => ∃ i' k', CurOk D i' k' ∧ Q r ∧ h' = h1 ++ some [ct, N i', N k'] :: h3) e s := by
  obtain ⟨he, r, s', i', k', ex, q1, q2, q3, q4, q5⟩ := hs
  have hl : (h1 ++ some [ct, N i', N k'] :: h3).length = (h1 ++ some [ct, N i, N j] :: h3).length := by simp
  have htk : s'.h.take (h1 ++ some [ct, N i, N j] :: h3).length = h1 ++ some [ct, N i', N k'] :: h3 := by
    rw [q2, ← hl, show h1 ++ some [ct, N i', N k'] :: (h3 ++ ex) = (h1 ++ some [ct, N i', N k'] :: h3) ++ ex by simp, List.take_left']
    rfl
  refine ⟨he, r, s', (h1 ++ some [ct, N i, N j] :: h3).length, q1, Nat.le_refl _, by rw [q2]; simp, .inr ⟨Low.mono_go (Nat.zero_le _) _ q4, fun l xs hl' hx => ?_⟩, by rw [htk]; exact ⟨i', k', q3, q5, rfl⟩⟩
  have hx2 : (h1 ++ some [ct, N i', N k'] :: h3)[l]? = some (some xs) := by
    rw [← htk, List.getElem?_take, if_pos hl']; exact hx
  by_cases e : l = h1.length
  · subst e
    simp at hx2
    subst hx2
    have := lh h1.length _ (by simp; rfl)
    simpa [LowAll] using this
  · refine lh l xs ?_
    rcases Nat.lt_or_ge l h1.length with g | g
    · rw [List.getElem?_append_left g] at hx2 ⊢; exact hx2
    · rw [List.getElem?_append_right g] at hx2 ⊢
      obtain ⟨q, hq⟩ : ∃ q, l - h1.length = q + 1 := ⟨l - h1.length - 1, by omega⟩
      rw [hq] at hx2 ⊢
      simpa using hx2
theorem FCalls.of_codeOf {f : FuncId} {m : List (Nat × List Md)} {k : C} {rvs : List RV} {n : Nat} {rest : List LV} {Q : LV → Prop} (hc : codeOf P f m = some (k, rvs, n)) (hm : P.follows .mixedOrders = true)
    (hlen : rest.length + 1 ≤ n) (hex : ∃ r, Q r) (hw : ∀ h1 h3 ct i j, share ct = D.lv → CurOk D i j → wpC P k (PostC D rvs h1 h3 ct Q) { t := env (.ptr h1.length 0 :: rest), h := h1 ++ some [ct, N i, N j] :: h3 }) : FCalls P D f rest Q := by
  intro h1 h3 ct i j hct hk
  have hex' : ∃ r h', ∃ i' k', CurOk D i' k' ∧ Q r ∧ h' = h1 ++ some [ct, N i', N k'] :: h3 := by
    obtain ⟨r, hr⟩ := hex
    exact ⟨r, _, i, j, hk, hr, rfl⟩
  refine LCalls.of_low (codeOf_callable hc) hex' fun lh => ?_
  exact LCalls.of_codeOf hc hm (by simpa using hlen) hex' (Gives.of_code.wpC_mono k (hw h1 h3 ct i j hct hk) fun e s hs => postC_post lh hs)
def HardH (h : List Box) : Prop := ∀ b ∈ h, ∀ ys, b = some ys → ys.all Hard = true ∧ ∀ u z, LV.both u z ∉ ys
theorem HardH.nil : HardH [] := fun _ h => by simp at h
theorem HardH.none {h : List Box} (H : HardH h) : HardH (h ++ [none]) := fun b hb ys e => by
  rcases List.mem_append.1 hb with hb | hb
  · exact H b hb ys e
  · simp at hb; subst hb; simp at e
theorem HardH.one {h : List Box} (H : HardH h) {xs : List LV} (hx : xs.all Hard = true) (hn : ∀ u z, LV.both u z ∉ xs) : HardH (h ++ [some xs]) := fun b hb ys e => by
  rcases List.mem_append.1 hb with hb | hb
  · exact H b hb ys e
  · simp at hb; subst hb; simp at e; subst e; exact ⟨hx, hn⟩
def CtOk (D : Dr) (ct : LV) : Prop := ct = D.lv ∨ ∃ u, ct = .both u D.lv
theorem Dr.share (D : Dr) : share D.lv = D.lv := by simp
theorem CtOk.share {ct : LV} (h : CtOk D ct) : TL.share ct = D.lv := by
  rcases h with rfl | ⟨u, rfl⟩
  · exact D.share
  · simp only [TL.share]; exact D.share
def HCalls (P : Program) (D : Dr) (f : FuncId) (rest : List LV) (Q : LV → Prop) : Prop :=
  ∀ (h1 h3 : List Box) (ct : LV) (i k : Int), HardH h1 → HardH h3 → CtOk D ct → CurOk D i k → LCalls P f (.ptr h1.length 0 :: rest) (h1 ++ some [ct, N i, N k] :: h3) fun r h' => ∃ i' k', CurOk D i' k' ∧ Q r ∧ h' = h1 ++ some [ct, N i', N k'] :: h3
theorem HCalls.mono {f : FuncId} {rest : List LV} {Q Q' : LV → Prop} (c : HCalls P D f rest Q) (h : ∀ r, Q r → Q' r) : HCalls P D f rest Q' :=
  fun h1 h3 ct i k H1 H3 hct hk => (c h1 h3 ct i k H1 H3 hct hk).mono fun r h' hr => by
    obtain ⟨i', k', q1, q2, q3⟩ := hr
    exact ⟨i', k', q1, h r q2, q3⟩
theorem HCalls.of_codeOf {f : FuncId} {m : List (Nat × List Md)} {k : C} {rvs : List RV} {n : Nat} {rest : List LV} {Q : LV → Prop} (hc : codeOf P f m = some (k, rvs, n)) (hm : P.follows .mixedOrders = true)
    (hlen : rest.length + 1 ≤ n) (hex : ∃ r, Q r) (hw : ∀ h1 h3 ct i j, HardH h1 → HardH h3 → CtOk D ct → CurOk D i j → wpC P k (PostC D rvs h1 h3 ct Q) { t := env (.ptr h1.length 0 :: rest), h := h1 ++ some [ct, N i, N j] :: h3 }) : HCalls P D f rest Q := by
  intro h1 h3 ct i j H1 H3 hct hk
  have hex' : ∃ r h', ∃ i' k', CurOk D i' k' ∧ Q r ∧ h' = h1 ++ some [ct, N i', N k'] :: h3 := by
    obtain ⟨r, hr⟩ := hex
    exact ⟨r, _, i, j, hk, hr, rfl⟩
  refine LCalls.of_low (codeOf_callable hc) hex' fun lh => ?_
  refine LCalls.of_codeOf hc hm (by simpa using hlen) hex' (Gives.of_code.wpC_mono k (hw h1 h3 ct i j H1 H3 hct hk) fun e s hs => ?_)
  exact postC_post lh hs
end
end Go.TL
