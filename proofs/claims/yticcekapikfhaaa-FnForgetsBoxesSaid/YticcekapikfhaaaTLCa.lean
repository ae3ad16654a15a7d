/- Contracts of calls over trees; those that leave the variables alone. No program, no conditions. -/
import Derived.Test.YticcekapikfhaaaTLC
import Derived.Orders
namespace Go.TL

def callable (P : Program) (f : FuncId) : Bool := match P.funcs[f]? with
  | some fn => !(fn.name == "runtime.NumGoroutine") && fn.body.isSome
  | none => false

def CallCx (w : World) (A : GM) (μ : List Nat) (h : List Box) (OH : List (List Own)) (Oa : List Own) : Cx :=
  { w0 := w, A0 := A, μ0 := μ, T0 := fun b => Live μ h b ∨ Owns (Oa ++ OH.flatten) b }

/-- what a call may end with -/
def Ends (w : World) (A : GM) (μ : List Nat) (h : List Box) (OH : List (List Own)) (Oa : List Own) (R : LV → List Box → Prop) (e : Ending) (w' : World) : Prop :=
  ∃ v r h' B ν OH' O', e = .returned v ∧ R r h' ∧ Rep B (μ ++ ν) r v O' ∧ St' (CallCx w A μ h OH Oa) w' B (μ ++ ν) h' OH' O'

/-- a call over trees: whatever the memory, it ends with a result and variables of which R holds -/
def LCalls (P : Program) (f : FuncId) (args : List LV) (h : List Box) (R : LV → List Box → Prop) : Prop :=
  callable P f = true ∧ (∃ r h', R r h') ∧
  ∀ (w : World) (A : GM) (μ : List Nat) (OH : List (List Own)) (vals : List Value) (Oa : List Own), RepVals A μ args vals Oa → WInv w A μ h OH Oa →
    Calls P f vals.toArray w (Ends w A μ h OH Oa R)

theorem LCalls.mono {P : Program} {f : FuncId} {args : List LV} {h : List Box} {R R' : LV → List Box → Prop} (c : LCalls P f args h R) (hr : ∀ r h', R r h' → R' r h') : LCalls P f args h R' := by
  obtain ⟨h1, ⟨r, h', hR⟩, h2⟩ := c
  refine ⟨h1, ⟨r, h', hr r h' hR⟩, fun w A μ OH vals Oa hv hi => (h2 w A μ OH vals Oa hv hi).mono fun e w' he => ?_⟩
  obtain ⟨v, r, h', B, ν, OH', O', g1, g2, g3⟩ := he
  exact ⟨v, r, h', B, ν, OH', O', g1, hr _ _ g2, g3⟩

mutual
/-- no place of a variable from the k-th on in it -/
def Low (k : Nat) : LV → Prop
  | .sc _ => True
  | .sl _ _ _ xs => LowRow k xs
  | .ha l _ _ _ _ => l < k
  | .ptr l _ => l < k
  | .rp xs => LowAll k xs
  | .fn _ xs => LowAll k xs
  | .fnm _ xs => LowAll k xs
  | .agg xs => LowAll k xs
  | .tup xs => LowAll k xs
  | .raw _ => True
  | .dead => True
  | .both _ t => Low k t
def LowAll (k : Nat) : List LV → Prop
  | [] => True
  | x :: xs => Low k x ∧ LowAll k xs
def LowRow (k : Nat) : List (List LV) → Prop
  | [] => True
  | x :: xs => LowAll k x ∧ LowRow k xs
end

section
variable {A : GM} {μ ν : List Nat} {k : Nat}
mutual
theorem Rep.low (hl : k ≤ ν.length) (he : ∀ l, l < k → ν.getD l 0 = μ.getD l 0) : ∀ (x : LV) (v : Value) (O : List Own), Low k x → Rep A μ x v O → Rep A ν x v O
  | .sc _, _, _, _, h => by simpa only [Rep] using h
  | .sl _ _ _ xs, _, _, lo, h => by
    simp only [Rep] at h ⊢
    simp only [Low] at lo
    rcases h with h | ⟨h1, b, off, sp, cap, O', h2, hs, h3, h4, h5⟩
    · exact .inl h
    · exact .inr ⟨h1, b, off, sp, cap, O', h2, hs, h3, RepRow.low hl he xs _ _ _ _ lo h4, h5⟩
  | .ha l _ _ _ _, _, _, lo, h => by
    simp only [Rep] at h ⊢
    simp only [Low] at lo
    obtain ⟨h1, h2, h3⟩ := h
    rw [← he _ lo] at h3
    exact ⟨h1, by omega, h3⟩
  | .ptr _ _, _, _, lo, h => by
    simp only [Rep] at h ⊢
    simp only [Low] at lo
    obtain ⟨h1, h2, h3⟩ := h
    rw [← he _ lo] at h3
    exact ⟨h1, by omega, h3⟩
  | .rp xs, _, _, lo, h => by
    simp only [Rep] at h ⊢
    simp only [Low] at lo
    obtain ⟨b, off, h1, h2⟩ := h
    exact ⟨b, off, h1, RepCells.low hl he xs _ _ _ lo h2⟩
  | .fn _ xs, _, _, lo, h => by
    simp only [Rep] at h ⊢
    simp only [Low] at lo
    obtain ⟨vs, h1, h2⟩ := h
    exact ⟨vs, h1, RepVals.low hl he xs _ _ lo h2⟩
  | .fnm _ xs, _, _, lo, h => by
    simp only [Rep] at h ⊢
    simp only [Low] at lo
    obtain ⟨vs, h1, h2⟩ := h
    exact ⟨vs, h1, RepVals.low hl he xs _ _ lo h2⟩
  | .agg xs, _, _, lo, h => by
    simp only [Rep] at h ⊢
    simp only [Low] at lo
    obtain ⟨vs, h1, h0, h2⟩ := h
    exact ⟨vs, h1, h0, RepVals.low hl he xs _ _ lo h2⟩
  | .tup xs, _, _, lo, h => by
    simp only [Rep] at h ⊢
    simp only [Low] at lo
    obtain ⟨vs, h1, h2⟩ := h
    exact ⟨vs, h1, RepVals.low hl he xs _ _ lo h2⟩
  | .raw _, _, _, _, h => by simpa only [Rep] using h
  | .dead, _, _, _, h => by simpa only [Rep] using h
  | .both _ t, _, _, lo, h => by
    simp only [Rep] at h ⊢
    simp only [Low] at lo
    exact ⟨h.1, h.2.1, Rep.low hl he t _ _ lo h.2.2⟩
theorem RepRow.low (hl : k ≤ ν.length) (he : ∀ l, l < k → ν.getD l 0 = μ.getD l 0) : ∀ (xs : List (List LV)) (sz b off : Nat) (O : List Own), LowRow k xs → RepRow A μ xs sz b off O → RepRow A ν xs sz b off O
  | [], _, _, _, _, _, h => by simpa only [RepRow] using h
  | x :: xs, _, _, _, _, lo, h => by
    simp only [RepRow] at h ⊢
    simp only [LowRow] at lo
    obtain ⟨O1, O2, h1, h2, h3, h4⟩ := h
    exact ⟨O1, O2, h1, h2, RepCells.low hl he x _ _ _ lo.1 h3, RepRow.low hl he xs _ _ _ _ lo.2 h4⟩
theorem RepCells.low (hl : k ≤ ν.length) (he : ∀ l, l < k → ν.getD l 0 = μ.getD l 0) : ∀ (xs : List LV) (b off : Nat) (O : List Own), LowAll k xs → RepCells A μ xs b off O → RepCells A ν xs b off O
  | [], _, _, _, _, h => by simpa only [RepCells] using h
  | x :: xs, _, _, _, lo, h => by
    simp only [RepCells] at h ⊢
    simp only [LowAll] at lo
    obtain ⟨v, O1, O2, h1, h2, h2', h3, h4⟩ := h
    exact ⟨v, O1, O2, h1, h2, h2', Rep.low hl he x _ _ lo.1 h3, RepCells.low hl he xs _ _ _ lo.2 h4⟩
theorem RepVals.low (hl : k ≤ ν.length) (he : ∀ l, l < k → ν.getD l 0 = μ.getD l 0) : ∀ (xs : List LV) (vs : List Value) (O : List Own), LowAll k xs → RepVals A μ xs vs O → RepVals A ν xs vs O
  | [], _, _, _, h => by simpa only [RepVals] using h
  | x :: xs, _, _, lo, h => by
    simp only [RepVals] at h ⊢
    simp only [LowAll] at lo
    obtain ⟨v, ws, O1, O2, h1, h2, h3, h4⟩ := h
    exact ⟨v, ws, O1, O2, h1, h2, Rep.low hl he x _ _ lo.1 h3, RepVals.low hl he xs _ _ lo.2 h4⟩
end
end

section
variable {x : Cx} {w : World} {A : GM} {μ : List Nat} {h : List Box} {OH : List (List Own)} {O : List Own}

/-- the last variables are forgotten: where what is left leads to none of them -/
theorem St'.cut (s : St' x w A μ h OH O) (k : Nat) (hk : x.μ0.length ≤ k) (hlow : ∀ l xs, l < k → h[l]? = some (some xs) → LowAll k xs) (hkl : k ≤ h.length) : St' x w A (μ.take k) (h.take k) (OH.take k) O := by
  have hlen := s.inv.len
  have hlenO := s.inv.lenO
  have hget : ∀ l, l < k → (μ.take k).getD l 0 = μ.getD l 0 := fun l hl => by
    rw [List.getD_eq_getElem?_getD, List.getElem?_take, if_pos hl, ← List.getD_eq_getElem?_getD]
  have hbox : ∀ (l : Nat) (xs : List LV), (h.take k)[l]? = some (some xs) → l < k ∧ h[l]? = some (some xs) := by
    intro l xs hl
    rw [List.getElem?_take] at hl
    split at hl
    · exact ⟨by assumption, hl⟩
    · simp at hl
  have hlive : ∀ b, Live (μ.take k) (h.take k) b → Live μ h b := by
    rintro b ⟨l, xs, h1, h2⟩
    obtain ⟨h3, h4⟩ := hbox l xs h1
    exact ⟨l, xs, h4, by rw [← hget l h3]; exact h2⟩
  have hfl : Fewer (O ++ (OH.take k).flatten) (O ++ OH.flatten) := by
    intro p
    simp only [List.countP_append]
    have : OH.flatten = (OH.take k).flatten ++ (OH.drop k).flatten := by rw [← List.flatten_append, List.take_append_drop]
    rw [this, List.countP_append]; omega
  refine ⟨⟨by simp [hlen], by simp [hlenO], s.inv.cells, ?_, ?_, ?_, ?_, fun b => Nat.le_trans (hfl (isAt b)) (s.inv.once b)⟩, ⟨s.since.size, s.since.kept, ?_, fun b hb => s.since.liveT b (hlive b hb), s.since.le, ?_, s.since.still⟩⟩
  · intro l xs hl
    obtain ⟨h1, h2⟩ := hbox l xs hl
    obtain ⟨c, e, g1, g2, g3⟩ := s.inv.box l xs h2
    refine ⟨c, e, by rw [hget l h1]; exact g1, ?_, g3⟩
    rw [List.getD_eq_getElem?_getD, List.getElem?_take, if_pos h1, ← List.getD_eq_getElem?_getD]
    exact RepVals.low (k := k) (by simp; omega) (fun j hj => hget j hj) xs _ _ (hlow l xs h1 h2) g2
  · exact fun b hb i => s.inv.loose b (hlive b hb) i
  · intro l l' xs xs' hl hl' he
    obtain ⟨h1, h2⟩ := hbox l xs hl
    obtain ⟨h3, h4⟩ := hbox l' xs' hl'
    rw [hget l h1, hget l' h3] at he
    exact s.inv.apart l l' xs xs' h2 h4 he
  · intro b m c hm
    obtain ⟨g1, g2, g3⟩ := s.inv.own b m c (hfl.mem hm)
    exact ⟨g1, g2, fun hl => g3 (hlive b hl)⟩
  · exact fun b m c hm => s.since.ownT b m c (hfl.mem hm)
  · obtain ⟨ν, hν⟩ := s.since.ext
    exact ⟨ν.take (k - x.μ0.length), by rw [hν, List.take_append, List.take_of_length_le hk]⟩
end

section
variable {w w' : World} {A B : GM} {μ : List Nat} {h : List Box} {OH : List (List Own)} {Oa O' : List Own}

theorem St'.frame (i : WInv w A μ h OH Oa) (c : St' (CallCx w A [] [] [] Oa) w' B [] [] [] O') : St' (CallCx w A μ h OH Oa) w' B μ h OH O' := by
  have csz : w.heap.size ≤ w'.heap.size := c.since.size
  have nlive : ∀ b, Live μ h b → b < w.heap.size ∧ ¬ (Live [] [] b ∨ Owns (Oa ++ ([] : List (List Own)).flatten) b) := by
    intro b hb
    refine ⟨i.live_lt hb, ?_⟩
    rintro (⟨l, xs, h1, _⟩ | ⟨m, k, ho⟩)
    · simp at h1
    · exact (i.own b m k (by simp at ho; exact List.mem_append.2 (.inl ho))).2.2 hb
  have nown : ∀ b m k, (b, m, k) ∈ OH.flatten → b < w.heap.size ∧ ¬ (Live [] [] b ∨ Owns (Oa ++ ([] : List (List Own)).flatten) b) := by
    intro b m k hm
    refine ⟨i.own_lt (List.mem_append.2 (.inr hm)), ?_⟩
    rintro (⟨l, xs, h1, _⟩ | ⟨m', k', ho⟩)
    · simp at h1
    · have h1 := i.once b
      simp only [List.countP_append] at h1
      have h2 : 0 < OH.flatten.countP (isAt b) := owns_count.1 ⟨m, k, hm⟩
      have h3 : 0 < Oa.countP (isAt b) := owns_count.1 ⟨m', k', by simpa using ho⟩
      omega
  have cown : ∀ b m k, (b, m, k) ∈ O' → w.heap.size ≤ b ∨ Owns Oa b := by
    intro b m k hm
    rcases c.since.ownT b m k (by simpa using hm) with h1 | h1 | ⟨m', k', ho⟩
    · exact .inl h1
    · obtain ⟨l, xs, h2, _⟩ := h1; simp at h2
    · exact .inr ⟨m', k', by simpa using ho⟩
  refine ⟨⟨i.len, i.lenO, c.inv.cells, ?_, ?_, i.apart, ?_, ?_⟩, ⟨csz, ?_, ?_, fun b hb => .inr (.inl hb), c.since.le, ⟨[], by simp [CallCx]⟩, c.since.still⟩⟩
  · intro l xs hl
    obtain ⟨cs, e, g1, g2, g3⟩ := i.box l xs hl
    obtain ⟨hlt, hT⟩ := nlive _ ⟨l, xs, hl, rfl⟩
    obtain ⟨k1, k2⟩ := c.since.kept _ hlt hT
    refine ⟨cs, e, by rw [k1]; exact g1, ?_, g3⟩
    have := RepVals.mono (ν := []) c.since.le xs cs.toList _ g2
    rwa [List.append_nil] at this
  · intro b hb j
    obtain ⟨hlt, hT⟩ := nlive b hb
    obtain ⟨_, k2⟩ := c.since.kept _ hlt hT
    rw [k2 j]; exact i.loose b hb j
  · intro b m k hm
    rcases List.mem_append.1 hm with hm | hm
    · obtain ⟨g1, g2, _⟩ := c.inv.own b m k (by simpa using hm)
      refine ⟨g1, g2, fun hl => ?_⟩
      rcases cown b m k hm with h1 | ⟨m', k', h1⟩
      · have := i.live_lt hl; omega
      · exact (i.own b m' k' (List.mem_append.2 (.inl h1))).2.2 hl
    · obtain ⟨hlt, hT⟩ := nown b m k hm
      obtain ⟨⟨cs, e, g1, g2⟩, g3, g4⟩ := i.own b m k (List.mem_append.2 (.inr hm))
      obtain ⟨k1, k2⟩ := c.since.kept _ hlt hT
      exact ⟨⟨cs, e, by rw [k1]; exact g1, g2⟩, fun j hj => by rw [k2 j]; exact g3 j hj, g4⟩
  · intro b
    have h1 := i.once b
    have h2 := c.inv.once b
    simp only [List.countP_append, List.flatten_nil, List.countP_nil] at h1 h2 ⊢
    by_cases hb : 0 < OH.flatten.countP (isAt b)
    · have h4 : O'.countP (isAt b) = 0 := by
        refine Nat.eq_zero_of_not_pos fun hp => ?_
        obtain ⟨m, k, hm⟩ := owns_count.2 hp
        obtain ⟨m', k', hm'⟩ := owns_count.2 hb
        rcases cown b m k hm with h5 | h5
        · have := (nown b m' k' hm').1; omega
        · have := owns_count.1 h5; omega
      omega
    · omega
  · intro b hb ht
    refine c.since.kept b hb fun hc => ht ?_
    rcases hc with ⟨l, xs, h1, _⟩ | ⟨m, k, ho⟩
    · simp at h1
    · exact .inr ⟨m, k, List.mem_append.2 (.inl (by simpa using ho))⟩
  · intro b m k hm
    rcases List.mem_append.1 hm with hm | hm
    · rcases cown b m k hm with h1 | ⟨m', k', h1⟩
      · exact .inl h1
      · exact .inr (.inr ⟨m', k', List.mem_append.2 (.inl h1)⟩)
    · exact .inr (.inr ⟨m, k, List.mem_append.2 (.inr hm)⟩)
end

/-- a function that leaves the variables alone: R holds of its result, in which no place of a variable is -/
def Gives (P : Program) (f : FuncId) (args : List LV) (R : LV → Prop) : Prop := LCalls P f args [] fun r _ => R r ∧ Low 0 r

theorem LowAll.mono {k m : Nat} (h : k ≤ m) {xs : List LV} (hx : LowAll k xs) : LowAll m xs := goA xs hx
where
  go : ∀ x : LV, Low k x → Low m x
    | .sc _, _ => trivial
    | .sl _ _ _ xs, hx => goR xs hx
    | .ha _ _ _ _ _, hx => Nat.lt_of_lt_of_le hx h
    | .ptr _ _, hx => Nat.lt_of_lt_of_le hx h
    | .rp xs, hx => goA xs hx
    | .fn _ xs, hx => goA xs hx
    | .fnm _ xs, hx => goA xs hx
    | .agg xs, hx => goA xs hx
    | .tup xs, hx => goA xs hx
    | .raw _, _ => trivial
    | .dead, _ => trivial
    | .both _ t, hx => go t hx
  goA : ∀ xs : List LV, LowAll k xs → LowAll m xs
    | [], _ => trivial
    | x :: xs, hx => ⟨go x hx.1, goA xs hx.2⟩
  goR : ∀ xs : List (List LV), LowRow k xs → LowRow m xs
    | [], _ => trivial
    | x :: xs, hx => ⟨goA x hx.1, goR xs hx.2⟩

section
variable {P : Program}

/-- such a function may be called whatever the variables are: they stay -/
theorem Gives.lift {f : FuncId} {args : List LV} {R : LV → Prop} (c : Gives P f args R) (ha : LowAll 0 args) (h : List Box) : LCalls P f args h fun r h' => h' = h ∧ R r := by
  obtain ⟨h1, ⟨r, _, hr, _⟩, h2⟩ := c
  refine ⟨h1, ⟨r, h, rfl, hr⟩, fun w A μ OH vals Oa hv hi => ?_⟩
  have hv0 : RepVals A [] args vals Oa := RepVals.low (k := 0) (by simp) (fun l hl => by omega) args vals Oa ha hv
  have hi0 : WInv w A [] [] [] Oa := by
    refine ⟨rfl, rfl, hi.cells, by simp, ?_, by simp, ?_, ?_⟩
    · rintro b ⟨l, xs, hl, _⟩; simp at hl
    · intro b m k hm
      obtain ⟨g1, g2, _⟩ := hi.own b m k (List.mem_append.2 (.inl (by simpa using hm)))
      exact ⟨g1, g2, by rintro ⟨l, xs, hl, _⟩; simp at hl⟩
    · intro b
      have := hi.once b
      simp only [List.countP_append, List.flatten_nil, List.countP_nil] at this ⊢
      omega
  refine (h2 w A [] [] vals Oa hv0 hi0).mono fun e w' he => ?_
  obtain ⟨v, r, h', B, ν, OH', O', g1, ⟨g2, glow⟩, g3, g4⟩ := he
  have g5 := g4.cut 0 (by simp [CallCx]) (fun l xs hl => by omega) (Nat.zero_le _)
  simp only [List.take_zero] at g5
  have g6 := St'.frame hi g5
  refine ⟨v, r, h, B, [], OH, O', g1, ⟨rfl, g2⟩, ?_, by rw [List.append_nil]; exact g6⟩
  refine Rep.low (k := 0) (by simp) (fun l hl => by omega) r v O' glow g3

theorem Gives.mono {f : FuncId} {args : List LV} {R R' : LV → Prop} (c : Gives P f args R) (h : ∀ r, R r → R' r) : Gives P f args R' :=
  LCalls.mono c fun r _ hr => ⟨h r hr.1, hr.2⟩
end

end Go.TL
