/- Part 2 of the proof of the row of the text YtclfngbealdbgaaGreatZRowForgetTerm: texts joined. No conditions. -/
import Derived.Orders
import Derived.Scope
import Derived.IntWalk
import Derived.Test.YtclfngbealdbgaaGreatZaRowForgetTerm
namespace Go.TL
def callable (P : Program) (f : FuncId) : Bool := match P.funcs[f]? with
  | some fn => !(fn.name == "runtime.NumGoroutine") && fn.body.isSome
  | none => false
def CallCx (w : World) (A : GM) (μ : List Nat) (h : List Box) (OH : List (List Own)) (Oa : List Own) : Cx :=
  { w0 := w, A0 := A, μ0 := μ, T0 := fun b => Live μ h b ∨ Owns (Oa ++ OH.flatten) b }
def Ends (w : World) (A : GM) (μ : List Nat) (h : List Box) (OH : List (List Own)) (Oa : List Own) (R : LV → List Box → Prop) (e : Ending) (w' : World) : Prop :=
  ∃ v r h' B ν OH' O', e = .returned v ∧ R r h' ∧ Rep B (μ ++ ν) r v O' ∧ St' (CallCx w A μ h OH Oa) w' B (μ ++ ν) h' OH' O'
def LCalls (P : Program) (f : FuncId) (args : List LV) (h : List Box) (R : LV → List Box → Prop) : Prop :=
  callable P f = true ∧ (∃ r h', R r h') ∧
  ∀ (w : World) (A : GM) (μ : List Nat) (OH : List (List Own)) (vals : List Value) (Oa : List Own), RepVals A μ args vals Oa → WInv w A μ h OH Oa →
    Calls P f vals.toArray w (Ends w A μ h OH Oa R)
theorem LCalls.mono {P : Program} {f : FuncId} {args : List LV} {h : List Box} {R R' : LV → List Box → Prop} (c : LCalls P f args h R) (hr : ∀ r h', R r h' → R' r h') : LCalls P f args h R' := by
  obtain ⟨h1, ⟨r, h', hR⟩, h2⟩ := c
  refine ⟨h1, ⟨r, h', hr r h' hR⟩, fun w A μ OH vals Oa hv hi => (h2 w A μ OH vals Oa hv hi).mono fun e w' he => ?_⟩
  obtain ⟨v, r, h', B, ν, OH', O', g1, g2, g3⟩ := he
  exact ⟨v, r, h', B, ν, OH', O', g1, hr _ _ g2, g3⟩
mutual
def Low (k : Nat) : LV → Prop
  | .sc _ => True
  | .sl _ _ _ xs => LowRow k xs
  | .ha l _ _ _ _ => l < k
  | .ptr l _ => l < k
  | .rp xs => LowAll k xs
  | .fn _ xs => LowAll k xs
  | .fnm _ xs => LowAll k xs
  | .agg xs => LowAll k xs
  | .tup xs => LowAll k xs
  | .raw _ => True
  | .dead => True
  | .both _ t => Low k t
def LowAll (k : Nat) : List LV → Prop
  | [] => True
  | x :: xs => Low k x ∧ LowAll k xs
def LowRow (k : Nat) : List (List LV) → Prop
  | [] => True
  | x :: xs => LowAll k x ∧ LowRow k xs
end
section
variable {A : GM} {μ ν : List Nat} {k : Nat}
mutual
theorem Rep.low (hl : k ≤ ν.length) (he : ∀ l, l < k → ν.getD l 0 = μ.getD l 0) : ∀ (x : LV) (v : Value) (O : List Own), Low k x → Rep A μ x v O → Rep A ν x v O
  | .sc _, _, _, _, h => by simpa only [Rep] using h
  | .sl _ _ _ xs, _, _, lo, h => by
    simp only [Rep] at h ⊢
    simp only [Low] at lo
    rcases h with h | ⟨h1, b, off, sp, cap, O', h2, hs, h3, h4, h5⟩
    · exact .inl h
    · exact .inr ⟨h1, b, off, sp, cap, O', h2, hs, h3, RepRow.low hl he xs _ _ _ _ lo h4, h5⟩
  | .ha l _ _ _ _, _, _, lo, h => by
    simp only [Rep] at h ⊢
    simp only [Low] at lo
    obtain ⟨h1, h2, h3⟩ := h
    rw [← he _ lo] at h3
    exact ⟨h1, by omega, h3⟩
  | .ptr _ _, _, _, lo, h => by
    simp only [Rep] at h ⊢
    simp only [Low] at lo
    obtain ⟨h1, h2, h3⟩ := h
    rw [← he _ lo] at h3
    exact ⟨h1, by omega, h3⟩
  | .rp xs, _, _, lo, h => by
    simp only [Rep] at h ⊢
    simp only [Low] at lo
    obtain ⟨b, off, h1, h2⟩ := h
    exact ⟨b, off, h1, RepCells.low hl he xs _ _ _ lo h2⟩
  | .fn _ xs, _, _, lo, h => by
    simp only [Rep] at h ⊢
    simp only [Low] at lo
    obtain ⟨vs, h1, h2⟩ := h
    exact ⟨vs, h1, RepVals.low hl he xs _ _ lo h2⟩
  | .fnm _ xs, _, _, lo, h => by
    simp only [Rep] at h ⊢
    simp only [Low] at lo
    obtain ⟨vs, h1, h2⟩ := h
    exact ⟨vs, h1, RepVals.low hl he xs _ _ lo h2⟩
  | .agg xs, _, _, lo, h => by
    simp only [Rep] at h ⊢
    simp only [Low] at lo
    obtain ⟨vs, h1, h0, h2⟩ := h
    exact ⟨vs, h1, h0, RepVals.low hl he xs _ _ lo h2⟩
  | .tup xs, _, _, lo, h => by
    simp only [Rep] at h ⊢
    simp only [Low] at lo
    obtain ⟨vs, h1, h2⟩ := h
    exact ⟨vs, h1, RepVals.low hl he xs _ _ lo h2⟩
  | .raw _, _, _, _, h => by simpa only [Rep] using h
  | .dead, _, _, _, h => by simpa only [Rep] using h
  | .both _ t, _, _, lo, h => by
    simp only [Rep] at h ⊢
    simp only [Low] at lo
    exact ⟨h.1, h.2.1, Rep.low hl he t _ _ lo h.2.2⟩
theorem RepRow.low (hl : k ≤ ν.length) (he : ∀ l, l < k → ν.getD l 0 = μ.getD l 0) : ∀ (xs : List (List LV)) (sz b off : Nat) (O : List Own), LowRow k xs → RepRow A μ xs sz b off O → RepRow A ν xs sz b off O
  | [], _, _, _, _, _, h => by simpa only [RepRow] using h
  | x :: xs, _, _, _, _, lo, h => by
    simp only [RepRow] at h ⊢
    simp only [LowRow] at lo
    obtain ⟨O1, O2, h1, h2, h3, h4⟩ := h
    exact ⟨O1, O2, h1, h2, RepCells.low hl he x _ _ _ lo.1 h3, RepRow.low hl he xs _ _ _ _ lo.2 h4⟩
theorem RepCells.low (hl : k ≤ ν.length) (he : ∀ l, l < k → ν.getD l 0 = μ.getD l 0) : ∀ (xs : List LV) (b off : Nat) (O : List Own), LowAll k xs → RepCells A μ xs b off O → RepCells A ν xs b off O
  | [], _, _, _, _, h => by simpa only [RepCells] using h
  | x :: xs, _, _, _, lo, h => by
    simp only [RepCells] at h ⊢
    simp only [LowAll] at lo
    obtain ⟨v, O1, O2, h1, h2, h2', h3, h4⟩ := h
    exact ⟨v, O1, O2, h1, h2, h2', Rep.low hl he x _ _ lo.1 h3, RepCells.low hl he xs _ _ _ lo.2 h4⟩
theorem RepVals.low (hl : k ≤ ν.length) (he : ∀ l, l < k → ν.getD l 0 = μ.getD l 0) : ∀ (xs : List LV) (vs : List Value) (O : List Own), LowAll k xs → RepVals A μ xs vs O → RepVals A ν xs vs O
  | [], _, _, _, h => by simpa only [RepVals] using h
  | x :: xs, _, _, lo, h => by
    simp only [RepVals] at h ⊢
    simp only [LowAll] at lo
    obtain ⟨v, ws, O1, O2, h1, h2, h3, h4⟩ := h
    exact ⟨v, ws, O1, O2, h1, h2, Rep.low hl he x _ _ lo.1 h3, RepVals.low hl he xs _ _ lo.2 h4⟩
end
end
section
variable {x : Cx} {w : World} {A : GM} {μ : List Nat} {h : List Box} {OH : List (List Own)} {O : List Own}
theorem St'.cut (s : St' x w A μ h OH O) (k : Nat) (hk : x.μ0.length ≤ k) (hlow : ∀ l xs, l < k → h[l]? = some (some xs) → LowAll k xs) (hkl : k ≤ h.length) : St' x w A (μ.take k) (h.take k) (OH.take k) O := by
  have hlen := s.inv.len
  have hlenO := s.inv.lenO
  have hget : ∀ l, l < k → (μ.take k).getD l 0 = μ.getD l 0 := fun l hl => by
    rw [List.getD_eq_getElem?_getD, List.getElem?_take, if_pos hl, ← List.getD_eq_getElem?_getD]
  have hbox : ∀ (l : Nat) (xs : List LV), (h.take k)[l]? = some (some xs) → l < k ∧ h[l]? = some (some xs) := by
    intro l xs hl
    rw [List.getElem?_take] at hl
    split at hl
    · exact ⟨by assumption, hl⟩
    · simp at hl
  have hlive : ∀ b, Live (μ.take k) (h.take k) b → Live μ h b := by
    rintro b ⟨l, xs, h1, h2⟩
    obtain ⟨h3, h4⟩ := hbox l xs h1
    exact ⟨l, xs, h4, by rw [← hget l h3]; exact h2⟩
  have hfl : Fewer (O ++ (OH.take k).flatten) (O ++ OH.flatten) := by
    intro p
    simp only [List.countP_append]
    have : OH.flatten = (OH.take k).flatten ++ (OH.drop k).flatten := by rw [← List.flatten_append, List.take_append_drop]
    rw [this, List.countP_append]; omega
  refine ⟨⟨by simp [hlen], by simp [hlenO], s.inv.cells, ?_, ?_, ?_, ?_, fun b => Nat.le_trans (hfl (isAt b)) (s.inv.once b)⟩, ⟨s.since.size, s.since.kept, ?_, fun b hb => s.since.liveT b (hlive b hb), s.since.le, ?_, s.since.still⟩⟩
  · intro l xs hl
    obtain ⟨h1, h2⟩ := hbox l xs hl
    obtain ⟨c, e, g1, g2, g3⟩ := s.inv.box l xs h2
    refine ⟨c, e, by rw [hget l h1]; exact g1, ?_, g3⟩
    rw [List.getD_eq_getElem?_getD, List.getElem?_take, if_pos h1, ← List.getD_eq_getElem?_getD]
    exact RepVals.low (k := k) (by simp; omega) (fun j hj => hget j hj) xs _ _ (hlow l xs h1 h2) g2
  · exact fun b hb i => s.inv.loose b (hlive b hb) i
  · intro l l' xs xs' hl hl' he
    obtain ⟨h1, h2⟩ := hbox l xs hl
    obtain ⟨h3, h4⟩ := hbox l' xs' hl'
    rw [hget l h1, hget l' h3] at he
    exact s.inv.apart l l' xs xs' h2 h4 he
  · intro b m c hm
    obtain ⟨g1, g2, g3⟩ := s.inv.own b m c (hfl.mem hm)
    exact ⟨g1, g2, fun hl => g3 (hlive b hl)⟩
  · exact fun b m c hm => s.since.ownT b m c (hfl.mem hm)
  · obtain ⟨ν, hν⟩ := s.since.ext
    exact ⟨ν.take (k - x.μ0.length), by rw [hν, List.take_append, List.take_of_length_le hk]⟩
end
section
variable {w w' : World} {A B : GM} {μ : List Nat} {h : List Box} {OH : List (List Own)} {Oa O' : List Own}
theorem St'.frame (i : WInv w A μ h OH Oa) (c : St' (CallCx w A [] [] [] Oa) w' B [] [] [] O') : St' (CallCx w A μ h OH Oa) w' B μ h OH O' := by
  have csz : w.heap.size ≤ w'.heap.size := c.since.size
  have nlive : ∀ b, Live μ h b → b < w.heap.size ∧ ¬ (Live [] [] b ∨ Owns (Oa ++ ([] : List (List Own)).flatten) b) := by
    intro b hb
    refine ⟨i.live_lt hb, ?_⟩
    rintro (⟨l, xs, h1, _⟩ | ⟨m, k, ho⟩)
    · simp at h1
    · exact (i.own b m k (by simp at ho; exact List.mem_append.2 (.inl ho))).2.2 hb
  have nown : ∀ b m k, (b, m, k) ∈ OH.flatten → b < w.heap.size ∧ ¬ (Live [] [] b ∨ Owns (Oa ++ ([] : List (List Own)).flatten) b) := by
    intro b m k hm
    refine ⟨i.own_lt (List.mem_append.2 (.inr hm)), ?_⟩
    rintro (⟨l, xs, h1, _⟩ | ⟨m', k', ho⟩)
    · simp at h1
    · have h1 := i.once b
      simp only [List.countP_append] at h1
      have h2 : 0 < OH.flatten.countP (isAt b) := owns_count.1 ⟨m, k, hm⟩
      have h3 : 0 < Oa.countP (isAt b) := owns_count.1 ⟨m', k', by simpa using ho⟩
      omega
  have cown : ∀ b m k, (b, m, k) ∈ O' → w.heap.size ≤ b ∨ Owns Oa b := by
    intro b m k hm
    rcases c.since.ownT b m k (by simpa using hm) with h1 | h1 | ⟨m', k', ho⟩
    · exact .inl h1
    · obtain ⟨l, xs, h2, _⟩ := h1; simp at h2
    · exact .inr ⟨m', k', by simpa using ho⟩
  refine ⟨⟨i.len, i.lenO, c.inv.cells, ?_, ?_, i.apart, ?_, ?_⟩, ⟨csz, ?_, ?_, fun b hb => .inr (.inl hb), c.since.le, ⟨[], by simp [CallCx]⟩, c.since.still⟩⟩
  · intro l xs hl
    obtain ⟨cs, e, g1, g2, g3⟩ := i.box l xs hl
    obtain ⟨hlt, hT⟩ := nlive _ ⟨l, xs, hl, rfl⟩
    obtain ⟨k1, k2⟩ := c.since.kept _ hlt hT
    refine ⟨cs, e, by rw [k1]; exact g1, ?_, g3⟩
    have := RepVals.mono (ν := []) c.since.le xs cs.toList _ g2
    rwa [List.append_nil] at this
  · intro b hb j
    obtain ⟨hlt, hT⟩ := nlive b hb
    obtain ⟨_, k2⟩ := c.since.kept _ hlt hT
    rw [k2 j]; exact i.loose b hb j
  · intro b m k hm
    rcases List.mem_append.1 hm with hm | hm
    · obtain ⟨g1, g2, _⟩ := c.inv.own b m k (by simpa using hm)
      refine ⟨g1, g2, fun hl => ?_⟩
      rcases cown b m k hm with h1 | ⟨m', k', h1⟩
      · have := i.live_lt hl; omega
      · exact (i.own b m' k' (List.mem_append.2 (.inl h1))).2.2 hl
    · obtain ⟨hlt, hT⟩ := nown b m k hm
      obtain ⟨⟨cs, e, g1, g2⟩, g3, g4⟩ := i.own b m k (List.mem_append.2 (.inr hm))
      obtain ⟨k1, k2⟩ := c.since.kept _ hlt hT
      exact ⟨⟨cs, e, by rw [k1]; exact g1, g2⟩, fun j hj => by rw [k2 j]; exact g3 j hj, g4⟩
  · intro b
    have h1 := i.once b
    have h2 := c.inv.once b
    simp only [List.countP_append, List.flatten_nil, List.countP_nil] at h1 h2 ⊢
    by_cases hb : 0 < OH.flatten.countP (isAt b)
    · have h4 : O'.countP (isAt b) = 0 := by
        refine Nat.eq_zero_of_not_pos fun hp => ?_
        obtain ⟨m, k, hm⟩ := owns_count.2 hp
        obtain ⟨m', k', hm'⟩ := owns_count.2 hb
        rcases cown b m k hm with h5 | h5
        · have := (nown b m' k' hm').1; omega
        · have := owns_count.1 h5; omega
      omega
    · omega
  · intro b hb ht
    refine c.since.kept b hb fun hc => ht ?_
    rcases hc with ⟨l, xs, h1, _⟩ | ⟨m, k, ho⟩
    · simp at h1
    · exact .inr ⟨m, k, List.mem_append.2 (.inl (by simpa using ho))⟩
  · intro b m k hm
    rcases List.mem_append.1 hm with hm | hm
    · rcases cown b m k hm with h1 | ⟨m', k', h1⟩
      · exact .inl h1
      · exact .inr (.inr ⟨m', k', List.mem_append.2 (.inl h1)⟩)
    · exact .inr (.inr ⟨m, k, List.mem_append.2 (.inr hm)⟩)
end
def Gives (P : Program) (f : FuncId) (args : List LV) (R : LV → Prop) : Prop := LCalls P f args [] fun r _ => R r ∧ Low 0 r
theorem LowAll.mono {k m : Nat} (h : k ≤ m) {xs : List LV} (hx : LowAll k xs) : LowAll m xs := goA xs hx
where
  go : ∀ x : LV, Low k x → Low m x
    | .sc _, _ => trivial
    | .sl _ _ _ xs, hx => goR xs hx
    | .ha _ _ _ _ _, hx => Nat.lt_of_lt_of_le hx h
    | .ptr _ _, hx => Nat.lt_of_lt_of_le hx h
    | .rp xs, hx => goA xs hx
    | .fn _ xs, hx => goA xs hx
    | .fnm _ xs, hx => goA xs hx
    | .agg xs, hx => goA xs hx
    | .tup xs, hx => goA xs hx
    | .raw _, _ => trivial
    | .dead, _ => trivial
    | .both _ t, hx => go t hx
  goA : ∀ xs : List LV, LowAll k xs → LowAll m xs
    | [], _ => trivial
    | x :: xs, hx => ⟨go x hx.1, goA xs hx.2⟩
  goR : ∀ xs : List (List LV), LowRow k xs → LowRow m xs
    | [], _ => trivial
    | x :: xs, hx => ⟨goA x hx.1, goR xs hx.2⟩
section
variable {P : Program}
theorem Gives.lift {f : FuncId} {args : List LV} {R : LV → Prop} (c : Gives P f args R) (ha : LowAll 0 args) (h : List Box) : LCalls P f args h fun r h' => h' = h ∧ R r := by
  obtain ⟨h1, ⟨r, _, hr, _⟩, h2⟩ := c
  refine ⟨h1, ⟨r, h, rfl, hr⟩, fun w A μ OH vals Oa hv hi => ?_⟩
  have hv0 : RepVals A [] args vals Oa := RepVals.low (k := 0) (by simp) (fun l hl => by omega) args vals Oa ha hv
  have hi0 : WInv w A [] [] [] Oa := by
    refine ⟨rfl, rfl, hi.cells, by simp, ?_, by simp, ?_, ?_⟩
    · rintro b ⟨l, xs, hl, _⟩; simp at hl
    · intro b m k hm
      obtain ⟨g1, g2, _⟩ := hi.own b m k (List.mem_append.2 (.inl (by simpa using hm)))
      exact ⟨g1, g2, by rintro ⟨l, xs, hl, _⟩; simp at hl⟩
    · intro b
      have := hi.once b
      simp only [List.countP_append, List.flatten_nil, List.countP_nil] at this ⊢
      omega
  refine (h2 w A [] [] vals Oa hv0 hi0).mono fun e w' he => ?_
  obtain ⟨v, r, h', B, ν, OH', O', g1, ⟨g2, glow⟩, g3, g4⟩ := he
  have g5 := g4.cut 0 (by simp [CallCx]) (fun l xs hl => by omega) (Nat.zero_le _)
  simp only [List.take_zero] at g5
  have g6 := St'.frame hi g5
  refine ⟨v, r, h, B, [], OH, O', g1, ⟨rfl, g2⟩, ?_, by rw [List.append_nil]; exact g6⟩
  refine Rep.low (k := 0) (by simp) (fun l hl => by omega) r v O' glow g3
theorem Gives.mono {f : FuncId} {args : List LV} {R R' : LV → Prop} (c : Gives P f args R) (h : ∀ r, R r → R' r) : Gives P f args R' :=
  LCalls.mono c fun r _ hr => ⟨h r hr.1, hr.2⟩
end
end Go.TL
namespace Go.TL
def putO (t : Nat → LV) : Option Nat → LV → (Nat → LV)
  | some d, v => upd t d v
  | none, _ => t
def putcall (s : St) (d : Option Nat) (r : LV) (h' : List Box) : St := { t := putO s.t d r, h := h' }
def callWp (P : Program) (rw : Rw) (fid : FuncId) (vals : List LV) (h : List Box) (Kr : LV → List Box → Prop) : Prop :=
  match rw with
  | .any => LCalls P fid vals h Kr
  | .no => LowAll 0 vals ∧ ∃ R, Gives P fid vals R ∧ ∀ r, R r → Kr r h
  | .fr => ∃ (l o : Nat) (xs : List LV) (Q : LV → List LV → Prop), .ptr l o ∈ vals ∧ h[l]? = some (some xs) ∧ (∀ h2 : List Box, h2[l]? = some (some xs) → LCalls P fid vals h2 fun r h' => ∃ xs', Q r xs' ∧ h' = h2.set l (some xs')) ∧
      ∀ r xs', Q r xs' → Kr r (h.set l (some xs'))
theorem callWp_t {P : Program} {fid : FuncId} {vals : List LV} {h : List Box} {Kr : LV → List Box → Prop} : callWp P .any fid vals h Kr ↔ LCalls P fid vals h Kr := Iff.rfl
theorem callWp_f {P : Program} {fid : FuncId} {vals : List LV} {h : List Box} {Kr : LV → List Box → Prop} : callWp P .no fid vals h Kr ↔ LowAll 0 vals ∧ ∃ R, Gives P fid vals R ∧ ∀ r, R r → Kr r h := Iff.rfl
theorem callWp_r {P : Program} {fid : FuncId} {vals : List LV} {h : List Box} {Kr : LV → List Box → Prop} : callWp P .fr fid vals h Kr ↔ ∃ (l o : Nat) (xs : List LV) (Q : LV → List LV → Prop), .ptr l o ∈ vals ∧ h[l]? = some (some xs) ∧
    (∀ h2 : List Box, h2[l]? = some (some xs) → LCalls P fid vals h2 fun r h' => ∃ xs', Q r xs' ∧ h' = h2.set l (some xs')) ∧ ∀ r xs', Q r xs' → Kr r (h.set l (some xs')) := Iff.rfl
theorem callWp_mono {P : Program} {rw : Rw} {fid : FuncId} {vals : List LV} {h : List Box} {Kr Kr' : LV → List Box → Prop} (c : callWp P rw fid vals h Kr) (hk : ∀ r h', Kr r h' → Kr' r h') : callWp P rw fid vals h Kr' := by
  cases rw with
  | any => rw [callWp_t] at c ⊢; exact c.mono hk
  | no =>
    rw [callWp_f] at c ⊢
    obtain ⟨lo, R, h1, h2⟩ := c
    exact ⟨lo, R, h1, fun r hr => hk r h (h2 r hr)⟩
  | fr =>
    rw [callWp_r] at c ⊢
    obtain ⟨l, o, xs, Q, h0, h1, h2, h3⟩ := c
    exact ⟨l, o, xs, Q, h0, h1, h2, fun r xs' hq => hk _ _ (h3 r xs' hq)⟩
theorem callWp_lcalls {P : Program} {rw : Rw} {fid : FuncId} {vals : List LV} {h : List Box} {Kr : LV → List Box → Prop} (c : callWp P rw fid vals h Kr) : LCalls P fid vals h Kr := by
  cases rw with
  | any => rwa [callWp_t] at c
  | no =>
    rw [callWp_f] at c
    obtain ⟨lo, R, h1, h2⟩ := c
    exact (h1.lift lo h).mono fun r h' hr => by rw [hr.1]; exact h2 r hr.2
  | fr =>
    rw [callWp_r] at c
    obtain ⟨l, o, xs, Q, h0, h1, h2, h3⟩ := c
    exact (h2 h h1).mono fun r h' hr => by
      obtain ⟨xs', hq, rfl⟩ := hr
      exact h3 r xs' hq
def fnArgs (v : LV) (as : List LV) : Option (FuncId × List LV) :=
  match v with
  | .fn f caps => some (f, as ++ shareAll caps)
  | .fnm f first => some (f, shareAll first ++ as)
  | _ => none
def wpCall (P : Program) (rw : Rw) (d : Option Nat) (f : X) (args : List X) (K : St → Prop) (s : St) : Prop :=
  ∃ fid vals, fnArgs (get s.t f) (args.map (fun x => share (get s.t x))) = some (fid, vals) ∧ callWp P rw fid vals s.h (fun r h' => K (putcall s d r h'))
def wpG (P : Program) (g : GI) (K : St → Prop) (s : St) : Prop :=
  match g.2 with
  | .call rw d f args => match g.1 with
    | none => wpCall P rw d f args K s
    | some (j, want) => ∃ b, gd want (s.t j) = some b ∧ (b = want → wpCall P rw d f args K s) ∧ (¬ b = want → K (TL.skip g.2 s))
  | _ => ∃ s', gstep g s = some s' ∧ K s'
def wpL (P : Program) : List GI → (St → Prop) → St → Prop
  | [], Q, s => Q s
  | g :: gs, Q, s => wpG P g (wpL P gs Q) s
section
variable {P : Program}
theorem wpCall_mono {rw : Rw} {d : Option Nat} {f : X} {args : List X} {K K' : St → Prop} {s : St} (h : wpCall P rw d f args K s) (hk : ∀ s', K s' → K' s') : wpCall P rw d f args K' s := by
  obtain ⟨fid, caps, h1, h2⟩ := h
  exact ⟨fid, caps, h1, callWp_mono h2 fun r h' hr => hk _ hr⟩
theorem wpG_mono {g : GI} {K K' : St → Prop} {s : St} (h : wpG P g K s) (hk : ∀ s', K s' → K' s') : wpG P g K' s := by
  unfold wpG at h ⊢
  split
  · split
    · rename_i hg1; simp only [hg1] at h
      rename_i hg2 _; simp only [hg2] at h
      exact wpCall_mono h hk
    · rename_i hg2 _ _ _ hg1
      simp only [hg2, hg1] at h
      obtain ⟨b, h1, h2, h3⟩ := h
      exact ⟨b, h1, fun e => wpCall_mono (h2 e) hk, fun e => hk _ (by simpa [hg2] using h3 e)⟩
  · rename_i hne
    split at h
    · rename_i rw d f args hg2
      exact absurd hg2 (hne rw d f args)
    · obtain ⟨s', h1, h2⟩ := h
      exact ⟨s', h1, hk _ h2⟩
theorem wpG_det {g : GI} {K : St → Prop} {s : St} (hc : g.2.isCall = false) : wpG P g K s ↔ ∃ s', gstep g s = some s' ∧ K s' := by
  unfold wpG
  split
  · rename_i hg; simp [hg, I.isCall] at hc
  · exact Iff.rfl
theorem wpG_call {g : GI} {K : St → Prop} {s : St} {rw : Rw} {d : Option Nat} {f : X} {args : List X} (hg : g.2 = .call rw d f args) :
    wpG P g K s ↔ match g.1 with
      | none => wpCall P rw d f args K s
      | some (j, want) => ∃ b, gd want (s.t j) = some b ∧ (b = want → wpCall P rw d f args K s) ∧ (¬ b = want → K (TL.skip (.call rw d f args) s)) := by
  unfold wpG
  simp only [hg]
theorem putO_out {t : Nat → LV} {d : Option Nat} {v : LV} {k : Nat} (h : k ∉ d.toList) : putO t d v k = t k := by
  cases d with
  | none => rfl
  | some d => exact upd_other _ _ _ (fun e => h (by simp [e]))
theorem callcomm {g : GI} {d : Option Nat} {s s1 : St} {r : LV} {h' : List Box} (h1 : gstep g s = some s1) (hd1 : ∀ k ∈ d.toList, k ∉ greads g) (hd2 : ∀ k ∈ d.toList, k ∉ g.2.writes) (hhw : g.2.hw = false)
    (hh : g.2.hr = true → h' = s.h) : gstep g (putcall s d r h') = some (putcall s1 d r h') := by
  have l := gstep_local g s (putcall s d r h') (fun k hk => (putO_out (fun hk' => hd1 k hk' hk)).symm) (fun h => (hh h).symm) (hw_hr _)
  rw [h1] at l
  cases h2 : gstep g (putcall s d r h') with
  | none => rw [h2] at l; exact l.elim
  | some s2 =>
    rw [h2] at l
    have f1 := gstep_frame g s s1 h1
    have f2 := gstep_frame g _ s2 h2
    congr 1
    have et : s2.t = putO s1.t d r := by
      funext k
      by_cases hk : k ∈ g.2.writes
      · rw [← l.1 k hk, putO_out (fun hk' => hd2 k hk' hk)]
      · rw [f2.1 k hk]
        show putO s.t d r k = _
        cases d with
        | none => exact (f1.1 k hk).symm
        | some d =>
          simp only [putO]
          by_cases e : k = d
          · subst e; rw [upd_same, upd_same]
          · rw [upd_other _ _ _ e, upd_other _ _ _ e]; exact (f1.1 k hk).symm
    have eh : s2.h = h' := f2.2 hhw
    cases s2
    simp only at et eh
    rw [et, eh]; rfl
theorem callcomm_back {g : GI} {d : Option Nat} {s s2 : St} {r : LV} {h' : List Box} (h2 : gstep g (putcall s d r h') = some s2) (hd1 : ∀ k ∈ d.toList, k ∉ greads g) (hd2 : ∀ k ∈ d.toList, k ∉ g.2.writes) (hhw : g.2.hw = false)
    (hh : g.2.hr = true → h' = s.h) : ∃ s1, gstep g s = some s1 ∧ s2 = putcall s1 d r h' := by
  have l := gstep_local g s (putcall s d r h') (fun k hk => (putO_out (fun hk' => hd1 k hk' hk)).symm) (fun h => (hh h).symm) (hw_hr _)
  rw [h2] at l
  cases h1 : gstep g s with
  | none => rw [h1] at l; exact l.elim
  | some s1 =>
    have := callcomm (r := r) (h' := h') h1 hd1 hd2 hhw hh
    rw [this] at h2
    exact ⟨s1, rfl, by simpa using h2.symm⟩
theorem purecomm {g : GI} {d : Option Nat} {s s1 : St} {r : LV} (h1 : gstep g s = some s1) (hd1 : ∀ k ∈ d.toList, k ∉ greads g) (hd2 : ∀ k ∈ d.toList, k ∉ g.2.writes) :
    gstep g (putcall s d r s.h) = some (putcall s1 d r s1.h) := by
  have l := gstep_local g s (putcall s d r s.h) (fun k hk => (putO_out (fun hk' => hd1 k hk' hk)).symm) (fun _ => rfl) (hw_hr _)
  rw [h1] at l
  cases h2 : gstep g (putcall s d r s.h) with
  | none => rw [h2] at l; exact l.elim
  | some s2 =>
    rw [h2] at l
    have f1 := gstep_frame g s s1 h1
    have f2 := gstep_frame g _ s2 h2
    congr 1
    have et : s2.t = putO s1.t d r := by
      funext k
      by_cases hk : k ∈ g.2.writes
      · rw [← l.1 k hk, putO_out (fun hk' => hd2 k hk' hk)]
      · rw [f2.1 k hk]
        show putO s.t d r k = _
        cases d with
        | none => exact (f1.1 k hk).symm
        | some d =>
          simp only [putO]
          by_cases e : k = d
          · subst e; rw [upd_same, upd_same]
          · rw [upd_other _ _ _ e, upd_other _ _ _ e]; exact (f1.1 k hk).symm
    have eh : s2.h = s1.h := by
      cases hw : g.2.hw with
      | true => exact (l.2 hw).symm
      | false => rw [f2.2 hw, f1.2 hw]; rfl
    cases s2
    simp only at et eh
    rw [et, eh]; rfl
theorem purecomm_back {g : GI} {d : Option Nat} {s s2 : St} {r : LV} (h2 : gstep g (putcall s d r s.h) = some s2) (hd1 : ∀ k ∈ d.toList, k ∉ greads g) (hd2 : ∀ k ∈ d.toList, k ∉ g.2.writes) :
    ∃ s1, gstep g s = some s1 ∧ s2 = putcall s1 d r s1.h := by
  have l := gstep_local g s (putcall s d r s.h) (fun k hk => (putO_out (fun hk' => hd1 k hk' hk)).symm) (fun _ => rfl) (hw_hr _)
  rw [h2] at l
  cases h1 : gstep g s with
  | none => rw [h1] at l; exact l.elim
  | some s1 =>
    have := purecomm (r := r) h1 hd1 hd2
    rw [this] at h2
    exact ⟨s1, rfl, by simpa using h2.symm⟩
theorem call_reads {rw : Rw} {d : Option Nat} {f : X} {args : List X} {k : Nat} : k ∈ (I.call rw d f args).reads ↔ k ∈ slotOf f ∨ ∃ x ∈ args, k ∈ slotOf x := by
  simp [I.reads, I.ops, slots]
theorem skip_call_put {rw : Rw} {d : Option Nat} {f : X} {args : List X} {s : St} : TL.skip (.call rw d f args) s = putcall s d (.sc undef) s.h := by
  unfold TL.skip putcall putO
  simp only [I.dst]
  cases d <;> rfl
theorem swap_call_det {p g : GI} {K : St → Prop} {s : St} (hi : indep p g = true) (hp : p.2.isCall = true) (hg : g.2.isCall = false) (h : wpG P p (wpG P g K) s) : wpG P g (wpG P p K) s := by
  obtain ⟨i1, i2, i3, i4, i5, _⟩ := indep_spec hi (.inl hp)
  cases hpc : p.2 <;> (try (simp [hpc, I.isCall] at hp; done))
  rename_i rw d f args
  have hdw : ∀ k ∈ d.toList, k ∈ p.2.writes := fun k hk => by rw [hpc]; simp [I.writes, I.dst] at hk ⊢; exact .inl hk
  have hd1 : ∀ k ∈ d.toList, k ∉ greads g := fun k hk => i1 k (hdw k hk)
  have hd2 : ∀ k ∈ d.toList, k ∉ g.2.writes := fun k hk => i2 k (hdw k hk)
  have hr1 : ∀ k, k ∈ p.2.reads → k ∈ greads p := fun k hk => by simp [greads, hk]
  rw [wpG_det hg]
  rw [wpG_call hpc] at h
  have same' : ∀ s1, gstep g s = some s1 → ∀ x, (∀ k ∈ slotOf x, k ∈ greads p) → get s1.t x = get s.t x := fun s1 q3 x hx => get_congr fun k hk => (gstep_frame g s s1 q3).1 k (fun hkw => i3 k hkw (hx k hk))
  have args' : ∀ s1, gstep g s = some s1 → args.map (fun x => share (get s1.t x)) = args.map (fun x => share (get s.t x)) := fun s1 q3 => List.map_congr_left fun x hx => by
    rw [same' s1 q3 x (fun k hk => hr1 k (by rw [hpc, call_reads]; exact .inr ⟨x, hx, hk⟩))]
  have fun' : ∀ s1, gstep g s = some s1 → get s1.t f = get s.t f := fun s1 q3 => same' s1 q3 f (fun k hk => hr1 k (by rw [hpc, call_reads]; exact .inl hk))
  have core : wpCall P rw d f args (wpG P g K) s → ∃ s1, gstep g s = some s1 ∧ wpCall P rw d f args K s1 := by
    cases rw with
    | any =>
      have phr : p.2.hr = true := by rw [hpc]; rfl
      have phw : p.2.hw = true := by rw [hpc]; rfl
      have ghw : g.2.hw = false := by
        cases hh : g.2.hw with
        | true => exact absurd ⟨hh, phr⟩ i5
        | false => rfl
      have ghr : ¬ g.2.hr = true := fun hh => i4 ⟨phw, hh⟩
      rintro ⟨fid, caps, c1, c2⟩
      rw [callWp_t] at c2
      obtain ⟨r0, h0, k0⟩ := c2.2.1
      rw [wpG_det hg] at k0
      obtain ⟨s2, q1, q2⟩ := k0
      obtain ⟨s1, q3, _⟩ := callcomm_back q1 hd1 hd2 ghw (fun hgr => absurd hgr ghr)
      have fr := gstep_frame g s s1 q3
      refine ⟨s1, q3, fid, caps, ?_, ?_⟩
      · rw [fun' s1 q3, args' s1 q3]; exact c1
      · rw [fr.2 ghw, callWp_t]
        refine c2.mono fun r h' k1 => ?_
        rw [wpG_det hg] at k1
        obtain ⟨s3, q4, q5⟩ := k1
        obtain ⟨s1', q6, q7⟩ := callcomm_back q4 hd1 hd2 ghw (fun hgr => absurd hgr ghr)
        rw [q3] at q6
        obtain rfl : s1 = s1' := by simpa using q6
        rw [q7] at q5
        exact q5
    | fr =>
      have phr : p.2.hr = true := by rw [hpc]; rfl
      have phw : p.2.hw = true := by rw [hpc]; rfl
      have ghw : g.2.hw = false := by
        cases hh : g.2.hw with
        | true => exact absurd ⟨hh, phr⟩ i5
        | false => rfl
      have ghr : ¬ g.2.hr = true := fun hh => i4 ⟨phw, hh⟩
      rintro ⟨fid, caps, c1, c2⟩
      rw [callWp_r] at c2
      obtain ⟨l, o, xs, Q, e0, e1, e2, e3⟩ := c2
      obtain ⟨r0, _, xs0, hq0, _⟩ := (e2 s.h e1).2.1
      have k0 := e3 r0 xs0 hq0
      rw [wpG_det hg] at k0
      obtain ⟨s2, q1, q2⟩ := k0
      obtain ⟨s1, q3, _⟩ := callcomm_back q1 hd1 hd2 ghw (fun hgr => absurd hgr ghr)
      have fr := gstep_frame g s s1 q3
      refine ⟨s1, q3, fid, caps, ?_, ?_⟩
      · rw [fun' s1 q3, args' s1 q3]; exact c1
      · rw [fr.2 ghw, callWp_r]
        refine ⟨l, o, xs, Q, e0, e1, e2, fun r xs' hq => ?_⟩
        have k1 := e3 r xs' hq
        rw [wpG_det hg] at k1
        obtain ⟨s3, q4, q5⟩ := k1
        obtain ⟨s1', q6, q7⟩ := callcomm_back q4 hd1 hd2 ghw (fun hgr => absurd hgr ghr)
        rw [q3] at q6
        obtain rfl : s1 = s1' := by simpa using q6
        rw [q7] at q5
        exact q5
    | no =>
      rintro ⟨fid, caps, c1, c2⟩
      rw [callWp_f] at c2
      obtain ⟨lo, R, c3, c4⟩ := c2
      obtain ⟨r0, _, hr0, _⟩ := c3.2.1
      have k0 := c4 r0 hr0
      rw [wpG_det hg] at k0
      obtain ⟨s2, q1, q2⟩ := k0
      obtain ⟨s1, q3, _⟩ := purecomm_back q1 hd1 hd2
      refine ⟨s1, q3, fid, caps, ?_, ?_⟩
      · rw [fun' s1 q3, args' s1 q3]; exact c1
      · rw [callWp_f]
        refine ⟨lo, R, c3, fun r hr => ?_⟩
        have k1 := c4 r hr
        rw [wpG_det hg] at k1
        obtain ⟨s3, q4, q5⟩ := k1
        obtain ⟨s1', q6, q7⟩ := purecomm_back q4 hd1 hd2
        rw [q3] at q6
        obtain rfl : s1 = s1' := by simpa using q6
        rw [q7] at q5
        exact q5
  cases hp1 : p.1 with
  | none =>
    rw [hp1] at h
    obtain ⟨s1, q1, q2⟩ := core h
    exact ⟨s1, q1, by rw [wpG_call hpc, hp1]; exact q2⟩
  | some jw =>
    obtain ⟨j, want⟩ := jw
    rw [hp1] at h
    obtain ⟨b, hb, h1, h2⟩ := h
    have hj : ∀ s1, gstep g s = some s1 → s1.t j = s.t j := fun s1 q => (gstep_frame g s s1 q).1 j (fun hkw => i3 j hkw (by simp [greads, hp1]))
    by_cases hbw : b = want
    · obtain ⟨s1, q1, q2⟩ := core (h1 hbw)
      refine ⟨s1, q1, ?_⟩
      rw [wpG_call hpc, hp1]
      exact ⟨b, by rw [hj s1 q1]; exact hb, fun _ => q2, fun e => absurd hbw e⟩
    · have h3 := h2 hbw
      rw [wpG_det hg] at h3
      obtain ⟨s2, q1, q2⟩ := h3
      rw [skip_call_put] at q1
      obtain ⟨s1, q3, rfl⟩ := purecomm_back q1 hd1 hd2
      refine ⟨s1, q3, ?_⟩
      rw [wpG_call hpc, hp1]
      refine ⟨b, by rw [hj s1 q3]; exact hb, fun e => absurd e hbw, fun _ => ?_⟩
      rw [skip_call_put]; exact q2
theorem swap_det_call {p g : GI} {K : St → Prop} {s : St} (hi : indep p g = true) (hp : p.2.isCall = false) (hg : g.2.isCall = true) (h : wpG P p (wpG P g K) s) : wpG P g (wpG P p K) s := by
  obtain ⟨i1, i2, i3, i4, i5, _⟩ := indep_spec hi (.inr hg)
  cases hgc : g.2 <;> (try (simp [hgc, I.isCall] at hg; done))
  rename_i rw d f args
  have hdw : ∀ k ∈ d.toList, k ∈ g.2.writes := fun k hk => by rw [hgc]; simp [I.writes, I.dst] at hk ⊢; exact .inl hk
  have hd1 : ∀ k ∈ d.toList, k ∉ greads p := fun k hk => i3 k (hdw k hk)
  have hd2 : ∀ k ∈ d.toList, k ∉ p.2.writes := fun k hk hk' => i2 k hk' (hdw k hk)
  rw [wpG_det hp] at h
  obtain ⟨s1, q1, q2⟩ := h
  have fr := gstep_frame p s s1 q1
  have same : ∀ x, (∀ k ∈ slotOf x, k ∈ greads g) → get s1.t x = get s.t x := fun x hx => get_congr fun k hk => fr.1 k (fun hkw => i1 k hkw (hx k hk))
  have hr1 : ∀ k, k ∈ g.2.reads → k ∈ greads g := fun k hk => by simp [greads, hk]
  have core : wpCall P rw d f args K s1 → wpCall P rw d f args (wpG P p K) s := by
    rintro ⟨fid, caps, c1, c2⟩
    have ea : args.map (fun x => share (get s1.t x)) = args.map (fun x => share (get s.t x)) := List.map_congr_left fun x hx => by
      rw [same x (fun k hk => hr1 k (by rw [hgc, call_reads]; exact .inr ⟨x, hx, hk⟩))]
    refine ⟨fid, caps, ?_, ?_⟩
    · rw [← same f (fun k hk => hr1 k (by rw [hgc, call_reads]; exact .inl hk)), ← ea]; exact c1
    · cases rw with
      | any =>
        have ghr : g.2.hr = true := by rw [hgc]; rfl
        have ghw : g.2.hw = true := by rw [hgc]; rfl
        have phw : p.2.hw = false := by
          cases hh : p.2.hw with
          | true => exact absurd ⟨hh, ghr⟩ i4
          | false => rfl
        have phr : ¬ p.2.hr = true := fun hh => i5 ⟨ghw, hh⟩
        rw [fr.2 phw] at c2
        refine callWp_mono c2 fun r h' hr => ?_
        rw [wpG_det hp]
        exact ⟨_, callcomm q1 hd1 hd2 phw (fun hpr => absurd hpr phr), hr⟩
      | fr =>
        have ghr : g.2.hr = true := by rw [hgc]; rfl
        have ghw : g.2.hw = true := by rw [hgc]; rfl
        have phw : p.2.hw = false := by
          cases hh : p.2.hw with
          | true => exact absurd ⟨hh, ghr⟩ i4
          | false => rfl
        have phr : ¬ p.2.hr = true := fun hh => i5 ⟨ghw, hh⟩
        rw [fr.2 phw] at c2
        refine callWp_mono c2 fun r h' hr => ?_
        rw [wpG_det hp]
        exact ⟨_, callcomm q1 hd1 hd2 phw (fun hpr => absurd hpr phr), hr⟩
      | no =>
        rw [callWp_f] at c2 ⊢
        obtain ⟨lo, R, c3, c4⟩ := c2
        refine ⟨lo, R, c3, fun r hr => ?_⟩
        rw [wpG_det hp]
        exact ⟨_, purecomm q1 hd1 hd2, c4 r hr⟩
  rw [wpG_call hgc] at q2 ⊢
  cases hg1 : g.1 with
  | none => rw [hg1] at q2; exact core q2
  | some jw =>
    obtain ⟨j, want⟩ := jw
    rw [hg1] at q2
    obtain ⟨b, hb, h1, h2⟩ := q2
    have hj : s1.t j = s.t j := fr.1 j (fun hkw => i1 j hkw (by simp [greads, hg1]))
    rw [hj] at hb
    refine ⟨b, hb, fun e => core (h1 e), fun e => ?_⟩
    rw [wpG_det hp, skip_call_put]
    exact ⟨_, purecomm q1 hd1 hd2, by rw [← skip_call_put (rw := rw) (f := f) (args := args)]; exact h2 e⟩
theorem swap {p g : GI} {K : St → Prop} {s : St} (hi : indep p g = true) (h : wpG P p (wpG P g K) s) : wpG P g (wpG P p K) s := by
  cases hp : p.2.isCall with
  | true =>
    cases hg : g.2.isCall with
    | true => exact absurd ⟨hp, hg⟩ (indep_spec hi (.inl hp)).2.2.2.2.2
    | false => exact swap_call_det hi hp hg h
  | false =>
    cases hg : g.2.isCall with
    | true => exact swap_det_call hi hp hg h
    | false =>
      rw [wpG_det hp] at h
      obtain ⟨s1, q1, q2⟩ := h
      rw [wpG_det hg] at q2
      obtain ⟨s2, q3, q4⟩ := q2
      obtain ⟨s1', q5, q6⟩ := gstep_swap hi q1 q3
      rw [wpG_det hg]
      exact ⟨s1', q5, by rw [wpG_det hp]; exact ⟨s2, q6, q4⟩⟩
mutual
theorem Low.share_go {k : Nat} : ∀ x : LV, Low k x → Low k (share x)
  | .sc _, h => by simp only [share]; exact h
  | .sl _ _ _ xs, h => by simp only [share, Low] at h ⊢; exact Low.shareRow_go xs h
  | .ha _ _ _ _ _, h => by simp only [share]; exact h
  | .ptr _ _, h => by simp only [share]; exact h
  | .rp xs, h => by simp only [share, Low] at h ⊢; exact Low.shareAll_go xs h
  | .fn _ xs, h => by simp only [share, Low] at h ⊢; exact Low.shareAll_go xs h
  | .fnm _ xs, h => by simp only [share, Low] at h ⊢; exact Low.shareAll_go xs h
  | .agg xs, h => by simp only [share, Low] at h ⊢; exact Low.shareAll_go xs h
  | .tup xs, h => by simp only [share, Low] at h ⊢; exact Low.shareAll_go xs h
  | .raw _, _ => by simp only [share, Low]
  | .dead, _ => by simp only [share, Low]
  | .both _ t, h => by simp only [share, Low] at h ⊢; exact Low.share_go t h
theorem Low.shareAll_go {k : Nat} : ∀ xs : List LV, LowAll k xs → LowAll k (shareAll xs)
  | [], _ => by simp only [shareAll, LowAll]
  | x :: xs, h => by simp only [shareAll, LowAll] at h ⊢; exact ⟨Low.share_go x h.1, Low.shareAll_go xs h.2⟩
theorem Low.shareRow_go {k : Nat} : ∀ xs : List (List LV), LowRow k xs → LowRow k (shareRow xs)
  | [], _ => by simp only [shareRow, LowRow]
  | x :: xs, h => by simp only [shareRow, LowRow] at h ⊢; exact ⟨Low.shareAll_go x h.1, Low.shareRow_go xs h.2⟩
end
theorem Low.mono_go {k m : Nat} (h : k ≤ m) (x : LV) (hx : Low k x) : Low m x := by
  have := LowAll.mono h (xs := [x]) (by simp only [LowAll]; exact ⟨hx, trivial⟩)
  simp only [LowAll] at this
  exact this.1
section
mutual
theorem Rep.seen {A : GM} {μ : List Nat} : ∀ (x : LV) (v : Value) (O : List Own), Rep A μ x v O → Low μ.length x
  | .sc _, _, _, _ => by simp only [Low]
  | .sl _ _ _ xs, _, _, h => by
    simp only [Rep] at h
    simp only [Low]
    rcases h with ⟨_, _, h3, _⟩ | ⟨_, b, off, sp, cap, O', _, _, _, h4, _⟩
    · subst h3; simp only [LowRow]
    · exact RepRow.seen xs _ _ _ _ h4
  | .ha _ _ _ _ _, _, _, h => by simp only [Rep] at h; simp only [Low]; exact h.2.1
  | .ptr _ _, _, _, h => by simp only [Rep] at h; simp only [Low]; exact h.2.1
  | .rp xs, _, _, h => by
    simp only [Rep] at h
    obtain ⟨b, off, _, h2⟩ := h
    simp only [Low]; exact RepCells.seen xs _ _ _ h2
  | .fn _ xs, _, _, h => by
    simp only [Rep] at h
    obtain ⟨vs, _, h2⟩ := h
    simp only [Low]; exact RepVals.seen xs _ _ h2
  | .fnm _ xs, _, _, h => by
    simp only [Rep] at h
    obtain ⟨vs, _, h2⟩ := h
    simp only [Low]; exact RepVals.seen xs _ _ h2
  | .agg xs, _, _, h => by
    simp only [Rep] at h
    obtain ⟨vs, _, _, h2⟩ := h
    simp only [Low]; exact RepVals.seen xs _ _ h2
  | .tup xs, _, _, h => by
    simp only [Rep] at h
    obtain ⟨vs, _, h2⟩ := h
    simp only [Low]; exact RepVals.seen xs _ _ h2
  | .raw _, _, _, _ => by simp only [Low]
  | .dead, _, _, _ => by simp only [Low]
  | .both _ t, _, _, h => by simp only [Rep] at h; simp only [Low]; exact Rep.seen t _ _ h.2.2
theorem RepRow.seen {A : GM} {μ : List Nat} : ∀ (xs : List (List LV)) (sz b off : Nat) (O : List Own), RepRow A μ xs sz b off O → LowRow μ.length xs
  | [], _, _, _, _, _ => by simp only [LowRow]
  | x :: xs, _, _, _, _, h => by
    simp only [RepRow] at h
    obtain ⟨O1, O2, _, _, h3, h4⟩ := h
    simp only [LowRow]; exact ⟨RepCells.seen x _ _ _ h3, RepRow.seen xs _ _ _ _ h4⟩
theorem RepCells.seen {A : GM} {μ : List Nat} : ∀ (xs : List LV) (b off : Nat) (O : List Own), RepCells A μ xs b off O → LowAll μ.length xs
  | [], _, _, _, _ => by simp only [LowAll]
  | x :: xs, _, _, _, h => by
    simp only [RepCells] at h
    obtain ⟨v, O1, O2, _, _, _, h3, h4⟩ := h
    simp only [LowAll]; exact ⟨Rep.seen x _ _ h3, RepCells.seen xs _ _ _ h4⟩
theorem RepVals.seen {A : GM} {μ : List Nat} : ∀ (xs : List LV) (vs : List Value) (O : List Own), RepVals A μ xs vs O → LowAll μ.length xs
  | [], _, _, _ => by simp only [LowAll]
  | x :: xs, _, _, h => by
    simp only [RepVals] at h
    obtain ⟨v, ws, O1, O2, _, _, h3, h4⟩ := h
    simp only [LowAll]; exact ⟨Rep.seen x _ _ h3, RepVals.seen xs _ _ h4⟩
end
end
def I.app : I → Bool
  | .alloc _ _ | .box _ _ | .mkslice _ _ _ _ => true
  | _ => false
def I.frc : I → Bool
  | .call .fr _ _ _ => true
  | _ => false
def apart (a b : GI) : Bool := (a.2.writes.all fun k => !(greads b).contains k && !b.2.writes.contains k) && (b.2.writes.all fun k => !(greads a).contains k)
theorem apart_spec {a b : GI} (h : apart a b = true) : (∀ k ∈ a.2.writes, k ∉ greads b) ∧ (∀ k ∈ a.2.writes, k ∉ b.2.writes) ∧ (∀ k ∈ b.2.writes, k ∉ greads a) := by
  simp only [apart, Bool.and_eq_true, List.all_eq_true, Bool.not_eq_true'] at h
  obtain ⟨h1, h2⟩ := h
  refine ⟨fun k hk hm => ?_, fun k hk hm => ?_, fun k hk hm => ?_⟩
  · have := (h1 k hk).1; simp [hm] at this
  · have := (h1 k hk).2; simp [hm] at this
  · have := h2 k hk; simp [hm] at this
def I.isP : I → Bool
  | .loadP _ _ _ _ _ => true
  | _ => false
def special4 (a b : GI) : Bool := apart a b && ((a.2.frc && b.2.app && b.1.isNone) || (a.2.app && b.2.frc && a.1.isNone) || (a.2.isP && b.2.app && a.1.isNone && b.1.isNone))
def indepF (a b : GI) : Bool := indep a b || special4 a b
theorem putO_upd {t : Nat → LV} {d : Option Nat} {r v : LV} {k : Nat} (h : k ∉ d.toList) : upd (putO t d r) k v = putO (upd t k v) d r := by
  cases d with
  | none => rfl
  | some d =>
    simp only [putO]
    have hk : k ≠ d := fun e => h (by simp [e])
    funext j
    simp only [upd]
    by_cases h1 : j = k
    · subst h1; simp [hk]
    · simp [h1]
theorem callcomm_app {g : GI} {d : Option Nat} {s : St} {r : LV} {h' : List Box} (hg1 : g.1 = none) (happ : g.2.app = true) (hd1 : ∀ k ∈ d.toList, k ∉ greads g) (hd2 : ∀ k ∈ d.toList, k ∉ g.2.writes) (hl : h'.length = s.h.length) :
    gstep g (putcall s d r h') = (gstep g s).map fun s1 => putcall s1 d r (h' ++ s1.h.drop s.h.length) := by
  obtain ⟨g1, i⟩ := g
  simp only at hg1 happ
  subst hg1
  have gx : ∀ x : X, (∀ k ∈ slotOf x, k ∈ i.reads) → get (putO s.t d r) x = get s.t x := fun x hx => get_congr fun k hk => putO_out (fun hk' => hd1 k hk' (by simp only [greads, List.mem_append]; exact .inr (hx k hk)))
  cases i <;> (try (simp [I.app] at happ; done))
  case box k x =>
    have hx := gx x (fun k hk => by simpa [I.reads, I.ops, slots] using hk)
    have hk : k ∉ d.toList := fun h => hd2 k h (by simp [I.writes, I.dst])
    simp only [gstep, step, putcall, hx]
    split
    · simp only [Option.map_some, St.put, St.give, List.drop_left, hl]
      congr 2
      cases x with
      | t j =>
        have hj : j ∉ d.toList := fun h => hd1 j h (by simp [greads, I.reads, I.ops, slots, slotOf])
        simp only [TL.give]
        rw [show putO s.t d r j = s.t j from putO_out hj, putO_upd hj, putO_upd hk]
      | k v => simp only [TL.give]; rw [putO_upd hk]
    · rfl
  case alloc k z =>
    have hk : k ∉ d.toList := fun h => hd2 k h (by simp [I.writes, I.dst])
    simp only [gstep, step, putcall, Option.map_some, St.put, List.drop_left, hl]
    rw [putO_upd hk]
  case mkslice k sz z x =>
    have hx := gx x (fun k hk => by simpa [I.reads, I.ops, slots] using hk)
    have hk : k ∉ d.toList := fun h => hd2 k h (by simp [I.writes, I.dst])
    simp only [gstep, step, putcall, hx]
    cases intOf (get s.t x) with
    | none => rfl
    | some n =>
      simp only
      split
      · simp only [Option.map_some, St.put, List.drop_left, hl]
        rw [putO_upd hk]
      · rfl
theorem app_grows {g : GI} {s s1 : St} (hg1 : g.1 = none) (happ : g.2.app = true) (h : gstep g s = some s1) : ∃ b, s1.h = s.h ++ [b] := by
  obtain ⟨g1, i⟩ := g
  simp only at hg1 happ
  subst hg1
  cases i <;> (try (simp [I.app] at happ; done))
  case box k x =>
    simp only [gstep, step] at h
    split at h
    · simp only [Option.some.injEq] at h; subst h; exact ⟨_, rfl⟩
    · simp at h
  case alloc k z =>
    simp only [gstep, step, Option.some.injEq] at h; subst h; exact ⟨_, rfl⟩
  case mkslice k sz z x =>
    simp only [gstep, step] at h
    split at h
    · split at h
      · simp only [Option.some.injEq] at h; subst h; exact ⟨_, rfl⟩
      · simp at h
    · simp at h
theorem set_app {α : Type} {h : List α} {l : Nat} {x : α} {t : List α} (hl : l < h.length) : (h ++ t).set l x = h.set l x ++ t := by
  rw [List.set_append_left _ _ hl]
theorem frc_call {i : I} (h : i.frc = true) : ∃ d f args, i = .call .fr d f args := by
  cases i <;> (try (simp [I.frc] at h; done))
  rename_i rw d f args
  cases rw <;> simp [I.frc] at h
  exact ⟨_, _, _, rfl⟩
theorem app_det {i : I} (h : i.app = true) : i.isCall = false := by
  cases i <;> simp [I.app] at h <;> rfl
theorem wpG_guardC {g : GI} {d : Option Nat} {f : X} {args : List X} {K K' : St → Prop} {s s' : St} (hgc : g.2 = .call .fr d f args) (hj : ∀ j w, g.1 = some (j, w) → s'.t j = s.t j)
    (core : wpCall P .fr d f args K s → wpCall P .fr d f args K' s') (hskip : K (putcall s d (.sc undef) s.h) → K' (putcall s' d (.sc undef) s'.h)) (h : wpG P g K s) : wpG P g K' s' := by
  rw [wpG_call hgc] at h ⊢
  cases hg1 : g.1 with
  | none => rw [hg1] at h; exact core h
  | some jw =>
    obtain ⟨j, want⟩ := jw
    rw [hg1] at h
    obtain ⟨b, hb, h1, h2⟩ := h
    rw [← hj j want hg1] at hb
    refine ⟨b, hb, fun e => core (h1 e), fun e => ?_⟩
    rw [skip_call_put]
    have := h2 e
    rw [skip_call_put] at this
    exact hskip this
def Seen (g : GI) (s : St) : Prop := g.2.isCall = true → ∀ x ∈ g.2.ops, Low s.h.length (get s.t x)
theorem low_share {k : Nat} : ∀ x : LV, Low k x → Low k (share x) := fun x h => by
  have := Low.share_go x h
  exact this
theorem swap4_left {p g : GI} {K : St → Prop} {s : St} (ha : apart p g = true) (hp : p.2.frc = true) (hg : g.2.app = true) (hg1 : g.1 = none) (h : wpG P p (wpG P g K) s) : wpG P g (wpG P p K) s := by
  obtain ⟨i1, i2, i3⟩ := apart_spec ha
  obtain ⟨d, f, args, hpc⟩ := frc_call hp
  have hdw : ∀ k ∈ d.toList, k ∈ p.2.writes := fun k hk => by rw [hpc]; simp [I.writes, I.dst] at hk ⊢; exact .inl hk
  have hd1 : ∀ k ∈ d.toList, k ∉ greads g := fun k hk => i1 k (hdw k hk)
  have hd2 : ∀ k ∈ d.toList, k ∉ g.2.writes := fun k hk => i2 k (hdw k hk)
  have hr1 : ∀ k, k ∈ p.2.reads → k ∈ greads p := fun k hk => by simp [greads, hk]
  have hgd := app_det hg
  obtain ⟨s1, q3⟩ : ∃ s1, gstep g s = some s1 := by
    have key : ∀ r h', h'.length = s.h.length → wpG P g K (putcall s d r h') → ∃ s1, gstep g s = some s1 := fun r h' hl k0 => by
      rw [wpG_det hgd] at k0
      obtain ⟨s2, q1, _⟩ := k0
      rw [callcomm_app hg1 hg hd1 hd2 hl] at q1
      obtain ⟨s1, q3, _⟩ := Option.map_eq_some_iff.1 q1
      exact ⟨s1, q3⟩
    have ofCall : wpCall P .fr d f args (wpG P g K) s → ∃ s1, gstep g s = some s1 := by
      rintro ⟨fid, caps, c1, c2⟩
      rw [callWp_r] at c2
      obtain ⟨l, o, xs, Q, e0, e1, e2, e3⟩ := c2
      obtain ⟨r0, _, xs0, hq0, _⟩ := (e2 s.h e1).2.1
      exact key r0 _ (by simp) (e3 r0 xs0 hq0)
    rw [wpG_call hpc] at h
    cases hp1 : p.1 with
    | none => rw [hp1] at h; exact ofCall h
    | some jw =>
      obtain ⟨j, want⟩ := jw
      rw [hp1] at h
      obtain ⟨b, hb, h1, h2⟩ := h
      by_cases hbw : b = want
      · exact ofCall (h1 hbw)
      · have h3 := h2 hbw
        rw [skip_call_put] at h3
        exact key _ _ rfl h3
  obtain ⟨b, hb⟩ := app_grows hg1 hg q3
  have frm := gstep_frame g s s1 q3
  have same : ∀ x, (∀ k ∈ slotOf x, k ∈ greads p) → get s1.t x = get s.t x := fun x hx => get_congr fun k hk => frm.1 k (fun hkw => i3 k hkw (hx k hk))
  rw [wpG_det hgd]
  refine ⟨s1, q3, wpG_guardC hpc (fun j w hj => frm.1 j (fun hkw => i3 j hkw (by simp [greads, hj]))) ?_ ?_ h⟩
  · rintro ⟨fid, caps, c1, c2⟩
    rw [callWp_r] at c2
    obtain ⟨l, o, xs, Q, e0, e1, e2, e3⟩ := c2
    have hll : l < s.h.length := by
      rcases Nat.lt_or_ge l s.h.length with h | h
      · exact h
      · rw [List.getElem?_eq_none h] at e1; simp at e1
    refine ⟨fid, caps, ?_, ?_⟩
    · rw [same f (fun k hk => hr1 k (by rw [hpc, call_reads]; exact .inl hk)), List.map_congr_left (fun x hx => by rw [same x (fun k hk => hr1 k (by rw [hpc, call_reads]; exact .inr ⟨x, hx, hk⟩))])]
      exact c1
    · rw [callWp_r]
      refine ⟨l, o, xs, Q, e0, by rw [hb, List.getElem?_append_left hll]; exact e1, e2, fun r xs' hq => ?_⟩
      have k1 := e3 r xs' hq
      rw [wpG_det hgd] at k1
      obtain ⟨s3, q4, q5⟩ := k1
      rw [callcomm_app hg1 hg hd1 hd2 (by simp), q3] at q4
      simp only [Option.map_some, Option.some.injEq] at q4
      rw [← q4, hb, List.drop_left] at q5
      rw [hb, set_app hll]
      exact q5
  · intro k0
    rw [wpG_det hgd] at k0
    obtain ⟨s3, q4, q5⟩ := k0
    rw [callcomm_app hg1 hg hd1 hd2 rfl, q3] at q4
    simp only [Option.map_some, Option.some.injEq] at q4
    rw [← q4, hb, List.drop_left, ← hb] at q5
    exact q5
theorem ptr_low {k l o : Nat} : ∀ {xs : List LV}, LowAll k xs → LV.ptr l o ∈ xs → l < k
  | x :: xs, h, hm => by
    simp only [LowAll] at h
    rcases List.mem_cons.1 hm with e | hm
    · subst e; simpa [Low] using h.1
    · exact ptr_low h.2 hm
theorem lowAll_append {k : Nat} : ∀ {xs ys : List LV}, LowAll k xs → LowAll k ys → LowAll k (xs ++ ys)
  | [], ys, _, h => h
  | x :: xs, ys, h, h2 => by
    simp only [LowAll, List.cons_append] at h ⊢
    exact ⟨h.1, lowAll_append h.2 h2⟩
theorem lowAll_of {k : Nat} : ∀ {xs : List LV}, (∀ x ∈ xs, Low k x) → LowAll k xs
  | [], _ => by simp only [LowAll]
  | x :: xs, h => by simp only [LowAll]; exact ⟨h x (by simp), lowAll_of fun y hy => h y (by simp [hy])⟩
theorem fnArgs_low {k : Nat} {v : LV} {as vals : List LV} {fid : FuncId} (h : fnArgs v as = some (fid, vals)) (hv : Low k v) (ha : LowAll k as) : LowAll k vals := by
  unfold fnArgs at h
  split at h
  · simp only [Option.some.injEq, Prod.mk.injEq] at h
    obtain ⟨_, rfl⟩ := h
    refine lowAll_append ha (Low.shareAll_go _ ?_)
    simpa only [Low] using hv
  · simp only [Option.some.injEq, Prod.mk.injEq] at h
    obtain ⟨_, rfl⟩ := h
    refine lowAll_append (Low.shareAll_go _ ?_) ha
    simpa only [Low] using hv
  · simp at h
theorem swap4_right {p g : GI} {K : St → Prop} {s : St} (ha : apart p g = true) (hp : p.2.app = true) (hg : g.2.frc = true) (hp1 : p.1 = none) (H : Seen g s) (h : wpG P p (wpG P g K) s) : wpG P g (wpG P p K) s := by
  obtain ⟨i1, i2, i3⟩ := apart_spec ha
  obtain ⟨d, f, args, hgc⟩ := frc_call hg
  have hdw : ∀ k ∈ d.toList, k ∈ g.2.writes := fun k hk => by rw [hgc]; simp [I.writes, I.dst] at hk ⊢; exact .inl hk
  have hd1 : ∀ k ∈ d.toList, k ∉ greads p := fun k hk => i3 k (hdw k hk)
  have hd2 : ∀ k ∈ d.toList, k ∉ p.2.writes := fun k hk hk' => i2 k hk' (hdw k hk)
  have hr1 : ∀ k, k ∈ g.2.reads → k ∈ greads g := fun k hk => by simp [greads, hk]
  have hpd := app_det hp
  rw [wpG_det hpd] at h
  obtain ⟨s1, q1, q2⟩ := h
  obtain ⟨b, hb⟩ := app_grows hp1 hp q1
  have frm := gstep_frame p s s1 q1
  have same : ∀ x, (∀ k ∈ slotOf x, k ∈ greads g) → get s1.t x = get s.t x := fun x hx => get_congr fun k hk => frm.1 k (fun hkw => i1 k hkw (hx k hk))
  have H' : ∀ x ∈ g.2.ops, Low s.h.length (get s.t x) := H (by rw [hgc]; rfl)
  refine wpG_guardC hgc (fun j w hj => (frm.1 j (fun hkw => i1 j hkw (by simp [greads, hj]))).symm) ?_ ?_ q2
  · rintro ⟨fid, caps, c1, c2⟩
    rw [same f (fun k hk => hr1 k (by rw [hgc, call_reads]; exact .inl hk)), List.map_congr_left (fun x hx => by rw [same x (fun k hk => hr1 k (by rw [hgc, call_reads]; exact .inr ⟨x, hx, hk⟩))])] at c1
    refine ⟨fid, caps, c1, ?_⟩
    rw [callWp_r] at c2 ⊢
    obtain ⟨l, o, xs, Q, e0, e1, e2, e3⟩ := c2
    have hll : l < s.h.length := by
      refine ptr_low (fnArgs_low c1 (H' f (by rw [hgc]; simp [I.ops])) (lowAll_of fun y hy => ?_)) e0
      obtain ⟨x, hx, rfl⟩ := List.mem_map.1 hy
      exact low_share _ (H' x (by rw [hgc]; simp [I.ops, hx]))
    rw [hb, List.getElem?_append_left hll] at e1
    refine ⟨l, o, xs, Q, e0, e1, e2, fun r xs' hq => ?_⟩
    rw [wpG_det hpd, callcomm_app hp1 hp hd1 hd2 (by simp), q1]
    refine ⟨_, rfl, ?_⟩
    have := e3 r xs' hq
    rw [hb, set_app hll] at this
    show K (putcall s1 d r (s.h.set l (some xs') ++ List.drop s.h.length s1.h))
    rw [hb, List.drop_left]
    exact this
  · intro k0
    rw [wpG_det hpd, callcomm_app hp1 hp hd1 hd2 rfl, q1]
    refine ⟨_, rfl, ?_⟩
    show K (putcall s1 d (.sc undef) (s.h ++ List.drop s.h.length s1.h))
    rw [hb, List.drop_left, ← hb]
    exact k0
theorem loadP_form {d i : Nat} {ag : Bool} {sz : Nat} {x : X} {s s' : St} (h : step (.loadP d i ag sz x) s = some s') :
    ∃ (l : Nat) (Y : Box) (v : LV), l < s.h.length ∧ s' = putcall s (some d) v (s.h.set l Y) ∧
      ∀ s1 : St, get s1.t x = get s.t x → s1.h[l]? = s.h[l]? → step (.loadP d i ag sz x) s1 = some (putcall s1 (some d) v (s1.h.set l Y)) := by
  simp only [step] at h
  split at h
  · rename_i l o hg
    split at h
    · rename_i xs hl
      split at h
      · rename_i hc
        split at h
        · rename_i u nl z rows hx
          split at h
          · rename_i hi
            simp only [Option.some.injEq] at h
            subst h
            have hlt : l < s.h.length := by
              rcases Nat.lt_or_ge l s.h.length with h | h
              · exact h
              · rw [List.getElem?_eq_none h] at hl; simp at hl
            refine ⟨l, _, _, hlt, rfl, fun s1 e1 e2 => ?_⟩
            simp only [step, e1, hg, e2, hl, hx]
            rw [if_pos hc, if_pos hi]
            rfl
          · simp at h
        · simp at h
      · simp at h
    · simp at h
  · simp at h
theorem swap5 {p g : GI} {K : St → Prop} {s : St} (ha : apart p g = true) (hp : p.2.isP = true) (hg : g.2.app = true) (hp1 : p.1 = none) (hg1 : g.1 = none) (h : wpG P p (wpG P g K) s) : wpG P g (wpG P p K) s := by
  obtain ⟨i1, i2, i3⟩ := apart_spec ha
  have hpd : p.2.isCall = false := by
    obtain ⟨_, q⟩ := p
    cases q <;> simp [I.isP] at hp <;> rfl
  have hgd := app_det hg
  rw [wpG_det hpd] at h
  obtain ⟨s1, q1, h⟩ := h
  rw [wpG_det hgd] at h
  obtain ⟨s2, q2, hk⟩ := h
  obtain ⟨p1, q⟩ := p
  simp only at hp1 hp
  subst hp1
  cases q <;> simp only [I.isP] at hp <;> (try (simp at hp; done))
  rename_i d i ag sz x
  simp only [gstep] at q1
  obtain ⟨l, Y, v, hlt, rfl, hre⟩ := loadP_form q1
  have hd1 : ∀ k ∈ (some d).toList, k ∉ greads g := fun k hk => i1 k (by simp [I.writes, I.dst] at hk ⊢; exact .inl hk)
  have hd2 : ∀ k ∈ (some d).toList, k ∉ g.2.writes := fun k hk => i2 k (by simp [I.writes, I.dst] at hk ⊢; exact .inl hk)
  rw [callcomm_app hg1 hg hd1 hd2 (by simp)] at q2
  obtain ⟨s3, q3, rfl⟩ := Option.map_eq_some_iff.1 q2
  rw [wpG_det hgd]
  refine ⟨s3, q3, ?_⟩
  rw [wpG_det hpd]
  obtain ⟨b, hb⟩ := app_grows hg1 hg q3
  have hx : get s3.t x = get s.t x := get_congr fun k hk => (gstep_frame g s s3 q3).1 k (fun hw => i3 k hw (by
    simp only [greads, List.mem_append]; right
    simp only [I.reads, I.ops, slots, List.flatMap_cons, List.flatMap_nil, List.append_nil]; exact hk))
  have hh : s3.h[l]? = s.h[l]? := by rw [hb, List.getElem?_append_left hlt]
  refine ⟨_, by simp only [gstep]; exact hre s3 hx hh, ?_⟩
  rw [hb, set_app hlt]
  rw [hb, List.drop_left] at hk
  exact hk
theorem swapF {p g : GI} {K : St → Prop} {s : St} (hi : indepF p g = true) (H : Seen g s) (h : wpG P p (wpG P g K) s) : wpG P g (wpG P p K) s := by
  simp only [indepF, Bool.or_eq_true] at hi
  rcases hi with hi | hi
  · exact swap hi h
  · simp only [special4, Bool.and_eq_true, Bool.or_eq_true, Option.isNone_iff_eq_none] at hi
    obtain ⟨ha, (⟨⟨h1, h2⟩, h3⟩ | ⟨⟨h1, h2⟩, h3⟩) | ⟨⟨⟨h1, h2⟩, h3⟩, h4⟩⟩ := hi
    · exact swap4_left ha h1 h2 h3 h
    · exact swap4_right ha h1 h2 h3 H h
    · exact swap5 ha h1 h2 h3 h4 h
theorem step_more {i : I} {s s' : St} (h : step i s = some s') : s.h.length ≤ s'.h.length := by
  by_cases hw : i.hw = true
  · cases i <;> simp only [I.hw] at hw <;> (try (simp at hw; done))
    case mv d m x =>
      cases m <;> simp [I.hw] at hw
      simp only [step] at h
      repeat' split at h
      all_goals first | (simp only [Option.some.injEq] at h; subst h; simp [St.put]; done) | (simp at h; done)
    case load d m ag sz x =>
      cases m <;> simp [I.hw] at hw
      all_goals
        simp only [step] at h
        repeat' split at h
        all_goals first | (simp only [Option.some.injEq] at h; subst h; simp [St.put, St.give]; done) | (simp at h; done)
    all_goals
      simp only [step] at h
      repeat' split at h
      all_goals first | (simp only [Option.some.injEq] at h; subst h; simp [St.put, St.give]; done) | (simp at h; done)
  · rw [(step_frame i s s' h).2 (by simpa using hw)]; exact Nat.le_refl _
theorem gstep_more {g : GI} {s s' : St} (h : gstep g s = some s') : s.h.length ≤ s'.h.length := by
  unfold gstep at h
  split at h
  · exact step_more h
  · split at h
    · split at h
      · exact step_more h
      · simp only [Option.some.injEq] at h
        subst h
        unfold skip
        split <;> exact Nat.le_refl _
    · simp at h
theorem pull {g : GI} {Q : St → Prop} {post : List GI} : ∀ {pre : List GI} {s : St}, (∀ p ∈ pre, indepF p g = true) → Seen g s → wpL P (pre ++ g :: post) Q s → wpG P g (wpL P (pre ++ post) Q) s
  | [], s, _, _, h => h
  | p :: pre, s, hi, H, h => by
    have hip := hi p (by simp)
    refine swapF hip H ?_
    by_cases hg : g.2.isCall = true
    ·
      have hp : p.2.isCall = false := by
        simp only [indepF, Bool.or_eq_true] at hip
        rcases hip with hip | hip
        · cases hh : p.2.isCall with
          | false => rfl
          | true => exact absurd ⟨hh, hg⟩ (indep_spec hip (.inr hg)).2.2.2.2.2
        · simp only [special4, Bool.and_eq_true, Bool.or_eq_true] at hip
          rcases hip.2 with (⟨⟨_, h2⟩, _⟩ | ⟨⟨h1, _⟩, _⟩) | ⟨⟨⟨_, h2⟩, _⟩, _⟩
          · rw [app_det h2] at hg; simp at hg
          · exact app_det h1
          · rw [app_det h2] at hg; simp at hg
      have hw : ∀ k ∈ p.2.writes, k ∉ greads g := by
        simp only [indepF, Bool.or_eq_true] at hip
        rcases hip with hip | hip
        · exact (indep_spec hip (.inr hg)).1
        · simp only [special4, Bool.and_eq_true] at hip
          exact (apart_spec hip.1).1
      simp only [List.cons_append, wpL] at h
      rw [wpG_det hp] at h ⊢
      obtain ⟨s1, q1, q2⟩ := h
      refine ⟨s1, q1, pull (fun q hq => hi q (by simp [hq])) (fun hc x hx => ?_) q2⟩
      have hs : get s1.t x = get s.t x := get_congr fun k hk => (gstep_frame p s s1 q1).1 k (fun hkw => hw k hkw (by
        simp only [greads, List.mem_append]; right
        simp only [I.reads, slots, List.mem_flatMap]; exact ⟨x, hx, hk⟩))
      rw [hs]
      exact Low.mono_go (gstep_more q1) _ (H hc x hx)
    · exact wpG_mono h fun s' hs' => pull (fun q hq => hi q (by simp [hq])) (fun hc => absurd hc hg) hs'
end
end Go.TL
namespace Go.TL
section
variable {P : Program} {x : Cx} {n : Nat} {o : Oper} {s s' : St} {a : Act} {w : World}
theorem mv_sound {d : Nat} {m : Md} {y : X} {u : Operand} (he : execOp a.eval o = pure (.value (a.eval u))) (hd : o.dst = some d) (hdn : d < n) (hy : XOk n y u)
    (hs : step (.mv d m y) s = some s') (sim : Sim x n s a w) : Good P x n o s' a w := by
  cases m with
  | copy => exact sound_mv_copy he hd hdn hy hs sim
  | take => exact sound_mv_take he hd hdn hy hs sim
  | frz => exact sound_mv_frz he hd hdn hy hs sim
  | own => simp [step] at hs
  | part i => simp [step] at hs
set_option maxHeartbeats 1000000 in
theorem sound_one {m : Md} {i : I} (hc : compile P n o m = some i) (hs : step i s = some s') (sim : Sim x n s a w) : Good P x n o s' a w := by
  cases hop : o.op with
  | move y =>
    simp only [compile, hop, Option.bind_eq_some_iff, Option.map_eq_some_iff] at hc
    obtain ⟨d, hd, z, hz, rfl⟩ := hc
    obtain ⟨h1, h2⟩ := cD_ok hd
    exact mv_sound (u := y) (by simp [execOp, hop]) h1 h2 (cX_ok hz) hs sim
  | assign y =>
    simp only [compile, hop, Option.bind_eq_some_iff, Option.map_eq_some_iff] at hc
    obtain ⟨d, hd, z, hz, rfl⟩ := hc
    obtain ⟨h1, h2⟩ := cD_ok hd
    exact mv_sound (u := y) (by simp [execOp, hop]) h1 h2 (cX_ok hz) hs sim
  | alloc e =>
    simp only [compile, hop, Option.bind_eq_some_iff, Option.map_eq_some_iff] at hc
    obtain ⟨d, hd, z, hz, rfl⟩ := hc
    obtain ⟨h1, h2⟩ := cD_ok hd
    exact sound_alloc hop h1 h2 hz hs sim
  | box e y =>
    simp only [compile, hop, Option.bind_eq_some_iff, Option.map_eq_some_iff] at hc
    obtain ⟨d, hd, z, hz, rfl⟩ := hc
    obtain ⟨h1, h2⟩ := cD_ok hd
    exact sound_box hop h1 h2 (cX_ok hz) hs sim
  | load t y =>
    simp only [compile, hop, Option.bind_eq_some_iff, Option.map_eq_some_iff] at hc
    obtain ⟨d, hd, z, hz, ag, hag, sz, hsz, rfl⟩ := hc
    obtain ⟨h1, h2⟩ := cD_ok hd
    cases m <;> first | exact sound_load hop h1 h2 (cX_ok hz) hag hsz hs sim | exact sound_loadT hop h1 h2 (cX_ok hz) hag hsz hs sim | exact sound_loadP hop h1 h2 (cX_ok hz) hag hsz hs sim
  | store t y z =>
    simp only [compile, hop] at hc
    split at hc
    · rename_i hd
      simp only [Option.bind_eq_some_iff, Option.map_eq_some_iff] at hc
      obtain ⟨p, hp, q, hq, sz, hsz, rfl⟩ := hc
      exact sound_store hop hd (cX_ok hp) (cX_ok hq) hsz hs sim
    · simp at hc
  | binOp op t y z t' =>
    simp only [compile, hop, Option.bind_eq_some_iff, Option.map_eq_some_iff] at hc
    obtain ⟨d, hd, p, hp, q, hq, c, hcm, rfl⟩ := hc
    obtain ⟨h1, h2⟩ := cD_ok hd
    exact sound_bin hop h1 h2 (cX_ok hp) (cX_ok hq) hcm hs sim
  | unOp op t y =>
    simp only [compile, hop, Option.bind_eq_some_iff, Option.map_eq_some_iff] at hc
    obtain ⟨d, hd, p, hp, rfl⟩ := hc
    obtain ⟨h1, h2⟩ := cD_ok hd
    exact sound_un hop h1 h2 (cX_ok hp) hs sim
  | build t ps =>
    simp only [compile, hop] at hc
    split at hc
    · rename_i fs hfs
      simp only [Option.bind_eq_some_iff, Option.map_eq_some_iff] at hc
      obtain ⟨d, hd, z, hz, pl, hpl, qs, hq, rfl⟩ := hc
      obtain ⟨h1, h2⟩ := cD_ok hd
      exact sound_build hop h1 h2 hfs hz hpl hq hs sim
    · simp at hc
  | buildSlice t len ps =>
    simp only [compile, hop, Option.bind_eq_some_iff, Option.map_eq_some_iff] at hc
    obtain ⟨d, hd, e, he, sz, hsz, _, hcond, z, hz, _, hzl, qs, hq, rfl⟩ := hc
    obtain ⟨h1, h2⟩ := cD_ok hd
    split at hcond
    · rename_i hcond'
      split at hzl
      · rename_i hzl'
        exact sound_bslice hop h1 h2 he hsz hcond'.1 hcond'.2 hz hzl' hq hs sim
      · simp at hzl
    · simp at hcond
  | slice t y lo hi mx =>
    simp only [compile, hop] at hc
    split at hc
    · rename_i e he
      simp only [Option.bind_eq_some_iff, Option.map_eq_some_iff] at hc
      obtain ⟨d, hd, sz, hsz, p, hp, l, hl, h, hh, m', hm', _, hcond, rfl⟩ := hc
      obtain ⟨h1, h2⟩ := cD_ok hd
      have plain : ∀ (hs : step (.slice d sz p l h m') s = some s'), Good P x n o s' a w := fun hs => by
        split at hcond
        · simp at hcond
        · rename_i hcond'
          refine sound_slice hop he hsz h1 h2 (cX_ok hp) (cOpt_ok hl) (cOpt_ok hh) (cOpt_ok hm') (fun hmx => ?_) hs sim
          cases hi with
          | some _ => rfl
          | none => exact absurd (by simp [hmx]) hcond'
      split at hs
      · rename_i kk
        obtain rfl : lo = none := by cases lo with
          | none => rfl
          | some _ => simp [cOpt] at hl
        obtain rfl : mx = none := by cases mx with
          | none => rfl
          | some _ => simp [cOpt] at hm'
        cases hi with
        | none => simp [cOpt] at hh
        | some hi' =>
          simp only [cOpt, Option.map_eq_some_iff, Option.some.injEq] at hh
          obtain ⟨q, hq, rfl⟩ := hh
          exact sound_cut0 hop he hsz h1 h2 (cX_ok hp) (cX_ok hq) hs sim
      · exact plain hs
    · rename_i he
      simp only [Option.bind_eq_some_iff, Option.map_eq_some_iff] at hc
      obtain ⟨d, hd, p, hp, l, hl, h, hh, _, hcond, rfl⟩ := hc
      obtain ⟨h1, h2⟩ := cD_ok hd
      cases mx with
      | some _ => simp at hcond
      | none => exact sound_sliceS hop he h1 h2 (cX_ok hp) (cOpt_ok hl) (cOpt_ok hh) hs sim
    · simp at hc
  | fieldAddr t y f =>
    simp only [compile, hop, Option.bind_eq_some_iff] at hc
    obtain ⟨d, hd, p, hp, g, hg, sz, hsz, hcond⟩ := hc
    obtain ⟨h1, h2⟩ := cD_ok hd
    split at hcond
    · simp at hcond
    · rename_i hz
      simp only [Option.some.injEq] at hcond
      subst hcond
      exact sound_fieldA hop h1 h2 (cX_ok hp) hg hsz hz hs sim
  | field t y f =>
    simp only [compile, hop, Option.bind_eq_some_iff, Option.map_eq_some_iff] at hc
    obtain ⟨d, hd, p, hp, g, hg, ag, hag, sz, hsz, rfl⟩ := hc
    obtain ⟨h1, h2⟩ := cD_ok hd
    exact sound_field hop h1 h2 (cX_ok hp) hg hag hsz hs sim
  | indexAddr t y z =>
    simp only [compile, hop, Option.bind_eq_some_iff, Option.map_eq_some_iff] at hc
    obtain ⟨d, hd, p, hp, q, hq, e, he, sz, hsz, rfl⟩ := hc
    obtain ⟨h1, h2⟩ := cD_ok hd
    cases m <;> first | exact sound_indexA hop h1 h2 (cX_ok hp) (cX_ok hq) he hsz hs sim | exact sound_indexT hop h1 h2 (cX_ok hp) (cX_ok hq) he hsz hs sim
  | index t y z =>
    simp only [compile, hop] at hc
    split at hc
    · rename_i he
      simp only [Option.bind_eq_some_iff, Option.map_eq_some_iff] at hc
      obtain ⟨d, hd, p, hp, q, hq, rfl⟩ := hc
      obtain ⟨h1, h2⟩ := cD_ok hd
      exact sound_indexS hop he h1 h2 (cX_ok hp) (cX_ok hq) hs sim
    · simp at hc
  | extract y k =>
    simp only [compile, hop, Option.bind_eq_some_iff, Option.map_eq_some_iff] at hc
    obtain ⟨d, hd, p, hp, rfl⟩ := hc
    obtain ⟨h1, h2⟩ := cD_ok hd
    exact sound_extract hop h1 h2 (cX_ok hp) hs sim
  | makeSlice t l c =>
    simp only [compile, hop, Option.bind_eq_some_iff] at hc
    obtain ⟨d, hd, e, he, sz, hsz, z, hz, _, hcond, hc⟩ := hc
    obtain ⟨h1, h2⟩ := cD_ok hd
    split at hcond
    · rename_i hcond'
      split at hc
      · split at hc
        · rename_i hab
          obtain ⟨rfl, han⟩ := hab
          simp only [Option.some.injEq] at hc
          subst hc
          exact sound_mkslice hop h1 h2 han he hsz hz hcond'.1 hcond'.2.1 hcond'.2.2 hs sim
        · simp at hc
      · simp at hc
    · simp at hcond
  | makeFunc fn first caps =>
    cases fn <;> simp only [compile, hop] at hc <;> (try (simp at hc; done))
    simp only [Option.bind_eq_some_iff, Option.map_eq_some_iff] at hc
    obtain ⟨d, hd, hc⟩ := hc
    obtain ⟨h1, h2⟩ := cD_ok hd
    split at hc
    · rename_i hf'
      simp only [Option.map_eq_some_iff] at hc
      obtain ⟨cs, hcs, rfl⟩ := hc
      exact sound_mkfn hop hf' h1 h2 hcs hs sim
    · split at hc
      · rename_i hf'
        simp only [Option.map_eq_some_iff] at hc
        obtain ⟨cs, hcs, rfl⟩ := hc
        exact sound_mkfnm hop hf' h1 h2 hcs hs sim
      · simp at hc
  | nilCheck y =>
    simp only [compile, hop, Option.bind_eq_some_iff, Option.map_eq_some_iff] at hc
    obtain ⟨d, hd, p, hp, rfl⟩ := hc
    obtain ⟨h1, h2⟩ := cD_ok hd
    exact sound_nilchk hop h1 h2 (cX_ok hp) hs sim
  | convert t t' y =>
    simp only [compile, hop] at hc
    split at hc
    · rename_i k k' h3 h4
      simp only [Option.bind_eq_some_iff, Option.map_eq_some_iff] at hc
      obtain ⟨d, hd, p, hp, rfl⟩ := hc
      obtain ⟨h1, h2⟩ := cD_ok hd
      exact sound_conv hop h1 h2 (cX_ok hp) h3 h4 hs sim
    · simp at hc
  | call c =>
    simp only [compile, hop] at hc
    split at hc
    · rename_i y t hcal hargs htys
      split at hc
      · rename_i he
        simp only [Option.bind_eq_some_iff, Option.map_eq_some_iff] at hc
        obtain ⟨d, hd, p, hp, rfl⟩ := hc
        obtain ⟨h1, h2⟩ := cD_ok hd
        exact sound_lenS hop hcal hargs htys he h1 h2 (cX_ok hp) hs sim
      · rename_i e he
        simp only [Option.bind_eq_some_iff, Option.map_eq_some_iff] at hc
        obtain ⟨d, hd, p, hp, rfl⟩ := hc
        obtain ⟨h1, h2⟩ := cD_ok hd
        exact sound_len hop hcal hargs htys he h1 h2 (cX_ok hp) hs sim
      · simp at hc
    · rename_i y z t u hcal hargs htys
      split at hc
      · rename_i ue hue
        simp only [Option.bind_eq_some_iff, Option.map_eq_some_iff] at hc
        obtain ⟨d, hd, e, he, sz, hsz, zz, hz, _, hcond, p, hp, q, hq, rfl⟩ := hc
        obtain ⟨h1, h2⟩ := cD_ok hd
        split at hcond
        · rename_i hcond'
          exact sound_append hop hcal hargs htys hue h1 h2 he hsz hz hcond'.1 hcond'.2.1 hcond'.2.2 (cX_ok hp) (cX_ok hq) hs sim
        · simp at hcond
      · rename_i k hue
        simp only [Option.bind_eq_some_iff, Option.map_eq_some_iff] at hc
        obtain ⟨d, hd, e, he, sz, hsz, zz, hz, _, hcond, p, hp, q, hq, rfl⟩ := hc
        obtain ⟨h1, h2⟩ := cD_ok hd
        split at hcond
        · rename_i hcond'
          exact sound_growz hop hcal hargs htys hue h1 h2 he hsz hz hcond'.1 hcond'.2.1 hcond'.2.2 (cX_ok hp) (cX_ok hq) hs sim
        · simp at hcond
      · simp at hc
    · rename_i y z hcal hargs
      simp only [Option.bind_eq_some_iff, Option.map_eq_some_iff] at hc
      obtain ⟨d, hd, p, hp, q, hq, rfl⟩ := hc
      obtain ⟨h1, h2⟩ := cD_ok hd
      exact sound_minmax (mx := true) hop hcal hargs h1 h2 (cX_ok hp) (cX_ok hq) hs sim
    · rename_i y z hcal hargs
      simp only [Option.bind_eq_some_iff, Option.map_eq_some_iff] at hc
      obtain ⟨d, hd, p, hp, q, hq, rfl⟩ := hc
      obtain ⟨h1, h2⟩ := cD_ok hd
      exact sound_minmax (mx := false) hop hcal hargs h1 h2 (cX_ok hp) (cX_ok hq) hs sim
    · rename_i y t hcal hargs htys
      split at hc
      · rename_i e he
        simp only [Option.bind_eq_some_iff, Option.map_eq_some_iff] at hc
        obtain ⟨d, hd, p, hp, rfl⟩ := hc
        obtain ⟨h1, h2⟩ := cD_ok hd
        exact sound_cap hop hcal hargs htys he h1 h2 (cX_ok hp) hs sim
      · simp at hc
    · simp only [Option.bind_eq_some_iff, Option.map_eq_some_iff] at hc
      obtain ⟨_, _, _, _, _, _, rfl⟩ := hc
      simp [step] at hs
    · simp at hc
  | pick c y z =>
    simp only [compile, hop, Option.bind_eq_some_iff, Option.map_eq_some_iff] at hc
    obtain ⟨d, hd, p, hp, q, hq, r, hr, rfl⟩ := hc
    obtain ⟨h1, h2⟩ := cD_ok hd
    exact sound_pick hop h1 h2 (cX_ok hp) (cX_ok hq) (cX_ok hr) hs sim
  | _ => simp [compile, hop] at hc
theorem compileT_cases {m : Md} {i : I} (hc : compileT P n o m = some i) : compile P n o m = some i ∨ (i = .bad o.dst ∧ ∀ k ∈ o.dst.toList, k < n) := by
  unfold compileT at hc
  split at hc
  · rename_i j hj; exact .inl (by rw [hj]; exact hc)
  · split at hc
    · rename_i hd; simp only [Option.some.injEq] at hc; subst hc; exact .inr ⟨by rw [hd], by simp [hd]⟩
    · rename_i d hd
      split at hc
      · rename_i hlt; simp only [Option.some.injEq] at hc; subst hc; exact .inr ⟨by rw [hd], by simpa [hd] using hlt⟩
      · simp at hc
end
end Go.TL
namespace Go.TL
theorem two_mem {O O1 O2 : List Own} (hf : ∀ p : Own → Bool, O.countP p ≤ O1.countP p + O2.countP p) {e : Own} (he : e ∈ O) : e ∈ O1 ∨ e ∈ O2 := by
  have h1 : 0 < O.countP (isE e) := List.countP_pos_iff.2 ⟨e, he, (isE_iff e e).2 rfl⟩
  have h2 := hf (isE e)
  by_cases h : 0 < O1.countP (isE e)
  · obtain ⟨z, hz, hze⟩ := List.countP_pos_iff.1 h
    exact .inl ((isE_iff e z).1 hze ▸ hz)
  · obtain ⟨z, hz, hze⟩ := List.countP_pos_iff.1 (show 0 < O2.countP (isE e) by omega)
    exact .inr ((isE_iff e z).1 hze ▸ hz)
section
variable {x : Cx} {w w' : World} {A B : GM} {μ ν : List Nat} {h h' : List Box} {OH OH' : List (List Own)} {O O' O2 : List Own}
theorem St'.call (s : St' x w A μ h OH O) (c : St' (CallCx w A μ h OH []) w' B (μ ++ ν) h' OH' O') (hf : ∀ p : Own → Bool, O2.countP p ≤ O.countP p + O'.countP p) : St' x w' B (μ ++ ν) h' OH' O2 := by
  have hmem : ∀ {b m k}, (b, m, k) ∈ O2 ++ OH'.flatten → (b, m, k) ∈ O ∨ (b, m, k) ∈ O' ++ OH'.flatten := by
    intro b m k hm
    rcases List.mem_append.1 hm with hm | hm
    · exact (two_mem hf hm).imp id (fun h => List.mem_append.2 (.inl h))
    · exact .inr (List.mem_append.2 (.inr hm))
  have hout : ∀ {b m k}, (b, m, k) ∈ O → b < w.heap.size ∧ ¬ (Live μ h b ∨ Owns (([] : List Own) ++ OH.flatten) b) := by
    intro b m k hm
    have hm' : (b, m, k) ∈ O ++ OH.flatten := List.mem_append.2 (.inl hm)
    refine ⟨s.inv.own_lt hm', ?_⟩
    rintro (hl | ⟨m', k', ho⟩)
    · exact (s.inv.own b m k hm').2.2 hl
    · have h1 := s.inv.once b
      simp only [List.nil_append] at ho
      have h2 : 0 < O.countP (isAt b) := owns_count.1 ⟨m, k, hm⟩
      have h3 : 0 < OH.flatten.countP (isAt b) := owns_count.1 ⟨m', k', ho⟩
      simp only [List.countP_append] at h1
      omega
  have hx : ∀ b, (Live μ h b ∨ Owns (([] : List Own) ++ OH.flatten) b) → x.w0.heap.size ≤ b ∨ x.T0 b := by
    rintro b (hl | ⟨m, k, ho⟩)
    · exact s.since.liveT b hl
    · exact s.since.ownT b m k (List.mem_append.2 (.inr (by simpa using ho)))
  have hsz := s.since.size
  have csz : w.heap.size ≤ w'.heap.size := c.since.size
  refine ⟨⟨c.inv.len, c.inv.lenO, c.inv.cells, c.inv.box, c.inv.loose, c.inv.apart, ?_, ?_⟩, ⟨Nat.le_trans hsz csz, ?_, ?_, ?_, ?_, ?_, s.since.still.trans c.since.still⟩⟩
  · intro b m k hm
    rcases hmem hm with hm | hm
    · obtain ⟨hlt, hT⟩ := hout hm
      obtain ⟨⟨cs, e, g1, g2⟩, g3, g4⟩ := s.inv.own b m k (List.mem_append.2 (.inl hm))
      obtain ⟨k1, k2⟩ := c.since.kept b hlt hT
      refine ⟨⟨cs, e, by rw [k1]; exact g1, g2⟩, fun i hi => by rw [k2 i]; exact g3 i hi, fun hl => ?_⟩
      rcases c.since.liveT b hl with h1 | h1
      · exact absurd hlt (Nat.not_lt.2 h1)
      · exact hT h1
    · exact c.inv.own b m k hm
  · intro b
    have h1 := s.inv.once b
    have h2 := c.inv.once b
    have h3 := hf (isAt b)
    simp only [List.countP_append] at h1 h2 ⊢
    by_cases hb : 0 < O.countP (isAt b)
    · obtain ⟨m, k, hm⟩ := owns_count.2 hb
      obtain ⟨hlt, hT⟩ := hout hm
      have h4 : (O' ++ OH'.flatten).countP (isAt b) = 0 := by
        refine Nat.eq_zero_of_not_pos fun hp => ?_
        obtain ⟨m', k', hm'⟩ := owns_count.2 hp
        rcases c.since.ownT b m' k' hm' with h1 | h1
        · exact absurd hlt (Nat.not_lt.2 h1)
        · exact hT h1
      simp only [List.countP_append] at h4
      omega
    · omega
  · intro b hb ht
    have hT : ¬ (Live μ h b ∨ Owns (([] : List Own) ++ OH.flatten) b) := fun hc => by
      rcases hx b hc with h1 | h1
      · omega
      · exact ht h1
    obtain ⟨g1, g2⟩ := s.since.kept b hb ht
    obtain ⟨k1, k2⟩ := c.since.kept b (show b < w.heap.size by omega) hT
    exact ⟨k1.trans g1, fun i => (k2 i).trans (g2 i)⟩
  · intro b m k hm
    rcases hmem hm with hm | hm
    · exact s.since.ownT b m k (List.mem_append.2 (.inl hm))
    · rcases c.since.ownT b m k hm with h1 | h1
      · exact .inl (Nat.le_trans hsz h1)
      · exact hx b h1
  · intro b hb
    rcases c.since.liveT b hb with h1 | h1
    · exact .inl (Nat.le_trans hsz h1)
    · exact hx b h1
  · exact fun b i v hv => c.since.le b i v (s.since.le b i v hv)
  · obtain ⟨ξ, hξ⟩ := s.since.ext
    exact ⟨ξ ++ ν, by rw [hξ, List.append_assoc]⟩
end
section
variable {P : Program} {x : Cx} {n : Nat} {o : Oper} {s : St} {a : Act} {w : World}
def Leads (P : Program) (x : Cx) (n : Nat) (o : Oper) (K : St → Prop) (a : Act) (w : World) : Prop :=
  ∀ (next : Act → World → Prop) (Q : Exit → Act → World → Prop), (∀ s' a' w', Sim x n s' a' w' → K s' → next a' w') → o.wp P a w next Q
theorem RepVals.share_args {A : GM} {μ : List Nat} {caps : List LV} {vs : List Value} {O : List Own} (h : RepVals A μ caps vs O) : RepVals A μ (shareAll caps) vs [] := RepVals.share _ _ _ h
theorem callFunc_run {fid : FuncId} {args : Array Value} (hc : callable P fid = true) : (callFunc fid args).run P w = .ok (.enter fid args) w := by
  unfold callable at hc
  split at hc
  · rename_i fn hfn
    simp only [Bool.and_eq_true, Bool.not_eq_true', beq_eq_false_iff_ne, ne_eq] at hc
    obtain ⟨h1, h2⟩ := hc
    have h4 : ¬ fn.body = none := by intro h; rw [h] at h2; simp at h2
    simp [callFunc, hfn, h1, h4]
  · simp at hc
theorem compile_call {m : Md} {rw : Rw} {d : Option Nat} {f : X} {args : List X} (hc : compile P n o m = some (.call rw d f args)) :
    ∃ c g, o.op = .call c ∧ c.callee = .value g ∧ (o.dst = d ∧ ∀ k ∈ d.toList, k < n) ∧ XOk n f g ∧ cXs P n c.argTypes.toList c.args.toList = some args := by
  cases hop : o.op with
  | call c =>
    simp only [compile, hop] at hc
    split at hc
    · split at hc
      · simp [Option.bind_eq_some_iff, Option.map_eq_some_iff] at hc
      · simp [Option.bind_eq_some_iff, Option.map_eq_some_iff] at hc
      · simp at hc
    · split at hc
      · simp [Option.bind_eq_some_iff, Option.map_eq_some_iff] at hc
      · simp [Option.bind_eq_some_iff, Option.map_eq_some_iff] at hc
      · simp at hc
    · simp [Option.bind_eq_some_iff, Option.map_eq_some_iff] at hc
    · simp [Option.bind_eq_some_iff, Option.map_eq_some_iff] at hc
    · split at hc
      · simp [Option.bind_eq_some_iff, Option.map_eq_some_iff] at hc
      · simp at hc
    · rename_i g hcal
      simp only [Option.bind_eq_some_iff, Option.map_eq_some_iff] at hc
      obtain ⟨d', hd', g', hg', ys, hys, he⟩ := hc
      simp only [I.call.injEq] at he
      obtain ⟨_, rfl, rfl, rfl⟩ := he
      refine ⟨c, g, rfl, hcal, ?_, cX_ok hg', hys⟩
      cases hod : o.dst with
      | none => simp [hod] at hd'; subst hd'; exact ⟨rfl, by simp⟩
      | some k =>
        simp only [hod] at hd'
        split at hd'
        · rename_i hkn; simp at hd'; subst hd'; exact ⟨rfl, by simpa using hkn⟩
        · simp at hd'
    · simp at hc
  | makeFunc fn first caps =>
    cases fn <;> (try (simp [compile, hop] at hc; done))
    simp only [compile, hop, Option.bind_eq_some_iff] at hc
    obtain ⟨_, _, hc⟩ := hc
    split at hc
    · simp [Option.map_eq_some_iff] at hc
    · split at hc <;> simp [Option.map_eq_some_iff] at hc
  | store t y z =>
    simp only [compile, hop] at hc
    split at hc <;> simp [Option.bind_eq_some_iff, Option.map_eq_some_iff] at hc
  | build t ps =>
    simp only [compile, hop] at hc
    split at hc <;> simp [Option.bind_eq_some_iff, Option.map_eq_some_iff] at hc
  | slice t y lo hi mx =>
    simp only [compile, hop] at hc
    split at hc
    · simp only [Option.bind_eq_some_iff, Option.map_eq_some_iff] at hc
      obtain ⟨_, _, _, _, _, _, _, _, _, _, _, _, _, _, hc⟩ := hc
      split at hc <;> simp at hc
    · simp [Option.bind_eq_some_iff, Option.map_eq_some_iff] at hc
    · simp at hc
  | index t y z =>
    simp only [compile, hop] at hc
    split at hc <;> simp [Option.bind_eq_some_iff, Option.map_eq_some_iff] at hc
  | convert t t' y =>
    simp only [compile, hop] at hc
    split at hc <;> simp [Option.bind_eq_some_iff, Option.map_eq_some_iff] at hc
  | makeSlice t l c =>
    simp only [compile, hop, Option.bind_eq_some_iff] at hc
    obtain ⟨_, _, _, _, _, _, _, _, _, _, hc⟩ := hc
    split at hc
    · split at hc <;> simp at hc
    · simp at hc
  | fieldAddr t y f =>
    simp only [compile, hop, Option.bind_eq_some_iff] at hc
    obtain ⟨_, _, _, _, _, _, _, _, hc⟩ := hc
    split at hc <;> simp at hc
  | load _ _ => cases m <;> simp [compile, hop, Option.bind_eq_some_iff, Option.map_eq_some_iff] at hc
  | indexAddr _ _ _ => cases m <;> simp [compile, hop, Option.bind_eq_some_iff, Option.map_eq_some_iff] at hc
  | _ => simp [compile, hop, Option.bind_eq_some_iff, Option.map_eq_some_iff] at hc
theorem sound_call {m : Md} {rw : Rw} {d : Option Nat} {f : X} {args : List X} {K : St → Prop} (hc : compile P n o m = some (.call rw d f args)) (hk : wpCall P rw d f args K s) (sim : Sim x n s a w) :
    Leads P x n o K a w := by
  obtain ⟨c, g, hop, hcal, hd, hg, hargs⟩ := compile_call hc
  obtain ⟨fid, vals, hfn, hcalls⟩ := hk
  have hcalls := callWp_lcalls hcalls
  obtain ⟨A, μ, OH, Ot, ht, h0, hr, st⟩ := sim
  have hfr := get_rep hg hr
  have hav := shareXs_rep (P := P) (s := s) (a := a) hr hargs
  obtain ⟨ws, hall, hrun⟩ : ∃ ws : List Value, RepVals A μ vals ws [] ∧ (execOp a.eval o).run P w = .ok (.enter fid ws.toArray) w := by
    unfold fnArgs at hfn
    split at hfn
    · rename_i f' caps hgf
      simp only [Option.some.injEq, Prod.mk.injEq] at hfn
      obtain ⟨rfl, rfl⟩ := hfn
      rw [hgf] at hfr
      simp only [Rep] at hfr
      obtain ⟨cvs, hfv, hcaps⟩ := hfr
      exact ⟨c.args.toList.map a.eval ++ cvs, RepVals.app (O1 := []) (O2 := []) hav (RepVals.share_args hcaps), by
        simp [execOp, hop, resolve, hcal, hfv, Deferred.ofValue, invoke, callFunc_run hcalls.1]⟩
    · rename_i f' first hgf
      simp only [Option.some.injEq, Prod.mk.injEq] at hfn
      obtain ⟨rfl, rfl⟩ := hfn
      rw [hgf] at hfr
      simp only [Rep] at hfr
      obtain ⟨cvs, hfv, hcaps⟩ := hfr
      exact ⟨cvs ++ c.args.toList.map a.eval, RepVals.app (O1 := []) (O2 := []) (RepVals.share_args hcaps) hav, by
        simp [execOp, hop, resolve, hcal, hfv, Deferred.ofValue, invoke, callFunc_run hcalls.1]⟩
    · simp at hfn
  intro next Q hnext
  unfold Oper.wp
  rw [hrun, Oper.upon_enter]
  refine (hcalls.2.2 w A μ OH _ [] hall (st.inv.fewer (Fewer.nil _))).mono fun e w' he => ?_
  obtain ⟨v, r, h', B, ν, OH', O', rfl, hK, hrep, st'⟩ := he
  refine hnext (putcall s d r h') _ _ ?_ hK
  rw [hd.1]
  have hle : A.Le B := st'.since.le
  cases d with
  | none =>
    refine ⟨B, μ ++ ν, OH', Ot, by simpa [Act.put] using ht, by simpa [Act.put] using h0, fun i hi => ?_, St'.call st st' (fun p => by omega)⟩
    exact Rep.mono hle _ _ _ (hr i hi)
  | some k =>
    have hkn : k < n := hd.2 k (by simp)
    exact mk_put ht h0 hr hle hkn hrep (St'.call st st' (fun p => by
      have := count_upd p Ot k O' n hkn
      omega))
end
section
variable (P : Program) (n : Nat)
def cG (ops : Array Oper) (o : Oper) (m : Md) : Option GI :=
  match o.guard with
  | none => (compileT P n o m).map fun i => (none, i)
  | some (j, want) => match (ops[j]?).bind (·.dst) with
    | some d => if d < n then (compileT P n o m).map fun i => (some (d, want), i) else none
    | none => none
def cOps (ops : Array Oper) : List Oper → List Md → Option (List GI)
  | [], _ => some []
  | o :: os, ms => match cG P n ops o (ms.headD .copy), cOps ops os ms.tail with
    | some g, some gs => some (g :: gs)
    | _, _ => none
end
section
variable {P : Program} {x : Cx} {n : Nat} {s : St} {a : Act} {w : World}
theorem boolOf_rep {A : GM} {μ : List Nat} {y : LV} {v : Value} {O : List Own} {b : Bool} (h : boolOf y = some b) (hr : Rep A μ y v O) : v = .bool b := by
  unfold boolOf at h
  split at h
  · simp at h; subst h; simp only [Rep] at hr; exact hr.1
  · simp at h
theorem compile_dst {o : Oper} {m : Md} {i : I} (h : compile P n o m = some i) : o.dst = i.dst ∧ ∀ k ∈ i.dst.toList, k < n := by
  cases hcall : i.isCall with
  | true =>
    cases i <;> simp [I.isCall] at hcall
    obtain ⟨c, g, _, _, h3, _, _⟩ := compile_call h
    exact h3
  | false =>
    cases hop : o.op <;> simp only [compile, hop] at h
    all_goals (try (simp at h; done))
    case store t y z =>
      split at h
      · rename_i hd
        simp only [Option.bind_eq_some_iff, Option.map_eq_some_iff] at h
        obtain ⟨_, _, _, _, _, _, rfl⟩ := h
        exact ⟨hd, by simp [I.dst]⟩
      · simp at h
    case makeFunc fn first caps =>
      cases fn <;> simp only at h
      all_goals (try (simp at h; done))
      simp only [Option.bind_eq_some_iff] at h
      obtain ⟨d, hd, h⟩ := h
      obtain ⟨h1, h2⟩ := cD_ok hd
      split at h
      · simp only [Option.map_eq_some_iff] at h
        obtain ⟨_, _, rfl⟩ := h
        exact ⟨h1, by simpa [I.dst] using h2⟩
      · split at h
        · simp only [Option.map_eq_some_iff] at h
          obtain ⟨_, _, rfl⟩ := h
          exact ⟨h1, by simpa [I.dst] using h2⟩
        · simp at h
    case call c =>
      split at h
      · split at h
        · simp only [Option.bind_eq_some_iff, Option.map_eq_some_iff] at h
          obtain ⟨d, hd, _, _, rfl⟩ := h
          obtain ⟨h1, h2⟩ := cD_ok hd
          exact ⟨h1, by simpa [I.dst] using h2⟩
        · simp only [Option.bind_eq_some_iff, Option.map_eq_some_iff] at h
          obtain ⟨d, hd, _, _, rfl⟩ := h
          obtain ⟨h1, h2⟩ := cD_ok hd
          exact ⟨h1, by simpa [I.dst] using h2⟩
        · simp at h
      · split at h
        · simp only [Option.bind_eq_some_iff, Option.map_eq_some_iff] at h
          obtain ⟨d, hd, _, _, _, _, _, _, _, _, _, _, _, _, rfl⟩ := h
          obtain ⟨h1, h2⟩ := cD_ok hd
          exact ⟨h1, by simpa [I.dst] using h2⟩
        · simp only [Option.bind_eq_some_iff, Option.map_eq_some_iff] at h
          obtain ⟨d, hd, _, _, _, _, _, _, _, _, _, _, _, _, rfl⟩ := h
          obtain ⟨h1, h2⟩ := cD_ok hd
          exact ⟨h1, by simpa [I.dst] using h2⟩
        · simp at h
      · simp only [Option.bind_eq_some_iff, Option.map_eq_some_iff] at h
        obtain ⟨d, hd, _, _, _, _, rfl⟩ := h
        obtain ⟨h1, h2⟩ := cD_ok hd
        exact ⟨h1, by simpa [I.dst] using h2⟩
      · simp only [Option.bind_eq_some_iff, Option.map_eq_some_iff] at h
        obtain ⟨d, hd, _, _, _, _, rfl⟩ := h
        obtain ⟨h1, h2⟩ := cD_ok hd
        exact ⟨h1, by simpa [I.dst] using h2⟩
      · split at h
        · simp only [Option.bind_eq_some_iff, Option.map_eq_some_iff] at h
          obtain ⟨d, hd, _, _, rfl⟩ := h
          obtain ⟨h1, h2⟩ := cD_ok hd
          exact ⟨h1, by simpa [I.dst] using h2⟩
        · simp at h
      · simp only [Option.bind_eq_some_iff, Option.map_eq_some_iff] at h
        obtain ⟨_, _, _, _, _, _, rfl⟩ := h
        simp [I.isCall] at hcall
      · simp at h
    case build t ps =>
      split at h
      · simp only [Option.bind_eq_some_iff, Option.map_eq_some_iff] at h
        obtain ⟨d, hd, _, _, _, _, _, _, rfl⟩ := h
        obtain ⟨h1, h2⟩ := cD_ok hd
        exact ⟨h1, by simpa [I.dst] using h2⟩
      · simp at h
    case slice t y lo hi mx =>
      split at h
      · simp only [Option.bind_eq_some_iff, Option.map_eq_some_iff] at h
        obtain ⟨d, hd, _, _, _, _, _, _, _, _, _, _, _, _, rfl⟩ := h
        obtain ⟨h1, h2⟩ := cD_ok hd
        split <;> exact ⟨h1, by simpa [I.dst] using h2⟩
      · simp only [Option.bind_eq_some_iff, Option.map_eq_some_iff] at h
        obtain ⟨d, hd, _, _, _, _, _, _, _, _, rfl⟩ := h
        obtain ⟨h1, h2⟩ := cD_ok hd
        exact ⟨h1, by simpa [I.dst] using h2⟩
      · simp at h
    case index t y z =>
      split at h
      · simp only [Option.bind_eq_some_iff, Option.map_eq_some_iff] at h
        obtain ⟨d, hd, _, _, _, _, rfl⟩ := h
        obtain ⟨h1, h2⟩ := cD_ok hd
        exact ⟨h1, by simpa [I.dst] using h2⟩
      · simp at h
    case convert t t' y =>
      split at h
      · simp only [Option.bind_eq_some_iff, Option.map_eq_some_iff] at h
        obtain ⟨d, hd, _, _, rfl⟩ := h
        obtain ⟨h1, h2⟩ := cD_ok hd
        exact ⟨h1, by simpa [I.dst] using h2⟩
      · simp at h
    case makeSlice t l c =>
      simp only [Option.bind_eq_some_iff] at h
      obtain ⟨d, hd, _, _, _, _, _, _, _, _, h⟩ := h
      obtain ⟨h1, h2⟩ := cD_ok hd
      split at h
      · split at h
        · simp only [Option.some.injEq] at h
          subst h
          exact ⟨h1, by simpa [I.dst] using h2⟩
        · simp at h
      · simp at h
    case fieldAddr t y f =>
      simp only [Option.bind_eq_some_iff] at h
      obtain ⟨d, hd, _, _, _, _, _, _, h⟩ := h
      obtain ⟨h1, h2⟩ := cD_ok hd
      split at h
      · simp at h
      · simp only [Option.some.injEq] at h
        subst h
        exact ⟨h1, by simpa [I.dst] using h2⟩
    all_goals
      simp only [Option.bind_eq_some_iff, Option.map_eq_some_iff] at h
      obtain ⟨d, hd, h⟩ := h
      obtain ⟨h1, h2⟩ := cD_ok hd
      repeat (obtain ⟨_, _, h⟩ := h)
      first
      | exact ⟨h1, by simpa [I.dst] using h2⟩
      | (cases m <;> (subst h; exact ⟨h1, by simpa [I.dst] using h2⟩))
      | (cases m <;> exact ⟨h1, by simpa [I.dst] using h2⟩)
theorem compileT_dst {o : Oper} {m : Md} {i : I} (h : compileT P n o m = some i) : o.dst = i.dst ∧ ∀ k ∈ i.dst.toList, k < n := by
  rcases compileT_cases h with h1 | ⟨h1, h2⟩
  · exact compile_dst h1
  · subst h1; exact ⟨rfl, h2⟩
theorem sound_G {ops : Array Oper} {k : Nat} {o : Oper} {m : Md} {g : GI} {K : St → Prop} {next : Act → World → Prop} {Q : Exit → Act → World → Prop} (hk : ops[k]? = some o) (hc : cG P n ops o m = some g)
    (hw : wpG P g K s) (sim : Sim x n s a w) (hnext : ∀ s' a' w', Sim x n s' a' w' → K s' → next a' w') : wpOp P ops Q k next a w := by
  unfold wpOp
  simp only [hk]
  have core : ∀ i, compileT P n o m = some i → wpG P (none, i) K s → o.wp P a w next Q := by
    intro i hi hwi
    have hi : compile P n o m = some i := by
      rcases compileT_cases hi with h1 | ⟨h1, _⟩
      · exact h1
      · rw [h1, wpG_det (g := (none, _)) rfl] at hwi
        obtain ⟨s', h2, _⟩ := hwi
        simp [gstep, step] at h2
    cases hcall : i.isCall with
    | true =>
      cases i <;> simp [I.isCall] at hcall
      rw [wpG_call (g := (none, _)) rfl] at hwi
      exact sound_call hi hwi sim next Q hnext
    | false =>
      rw [wpG_det (g := (none, i)) hcall] at hwi
      obtain ⟨s', h1, h2⟩ := hwi
      exact sound_one hi (s' := s') h1 sim next Q (fun a' w' hs => hnext s' a' w' hs h2)
  unfold cG at hc
  split at hc
  · rename_i hg
    simp only [Option.map_eq_some_iff] at hc
    obtain ⟨i, hi, rfl⟩ := hc
    rw [if_pos (by simp [Region.wanted, hg])]
    exact .inl (core i hi hw)
  · rename_i j want hg
    split at hc
    · rename_i d hd
      split at hc
      · rename_i hcond
        simp only [Option.map_eq_some_iff] at hc
        obtain ⟨i, hi, rfl⟩ := hc
        obtain ⟨A, μ, OH, Ot, ht, h0, hr, st⟩ := sim
        have hy : ∀ b, gd want (s.t d) = some b → (yielded ops a.tmps j = some b ∨ (yielded ops a.tmps j = none ∧ b = !want)) := by
          intro b hb
          have hrd := hr d hcond
          rw [Array.getD_eq_getD_getElem?] at hrd
          rw [Array.getElem?_eq_getElem (show d < a.tmps.size by rw [ht]; exact hcond)] at hrd
          simp only [Option.getD_some] at hrd
          unfold yielded
          rw [hd]
          simp only [Option.bind_some]
          rw [Array.getElem?_eq_getElem (show d < a.tmps.size by rw [ht]; exact hcond)]
          unfold gd at hb
          split at hb
          · rename_i b' hs
            rw [hs] at hrd
            simp only [Rep] at hrd
            simp only [Option.some.injEq] at hb
            subst hb
            left; rw [hrd.1]
          · rename_i vs hs
            rw [hs] at hrd
            simp only [Rep] at hrd
            simp only [Option.some.injEq] at hb
            right; rw [hrd.1]; exact ⟨rfl, hb.symm⟩
          · simp at hb
        have sim : Sim x n s a w := ⟨A, μ, OH, Ot, ht, h0, hr, st⟩
        have hdst := compileT_dst hi
        have skipSim : Sim x n (TL.skip i s) (a.put o.dst undef) w := by
          rw [hdst.1]
          unfold TL.skip
          cases hid : i.dst with
          | none => exact ⟨A, μ, OH, Ot, by simpa [Act.put] using ht, by simpa [Act.put] using h0, hr, st⟩
          | some k =>
            exact put_same ht h0 hr (hdst.2 k (by simp [hid])) (Od := []) (by simp [Rep]) st (fun p => by simp)
        cases hcall : i.isCall with
        | true =>
          cases i <;> simp [I.isCall] at hcall
          rw [wpG_call (g := (some (d, want), _)) rfl] at hw
          obtain ⟨b, hb, h1, h2⟩ := hw
          have hyb := hy b hb
          by_cases hbw : b = want
          · have hyb : yielded ops a.tmps j = some b := hyb.resolve_right (fun h => by rw [h.2] at hbw; cases want <;> simp at hbw)
            rw [if_pos (by simp [Region.wanted, hg, hyb, hbw])]
            exact .inl (core _ hi (by rw [wpG_call (g := (none, _)) rfl]; exact h1 hbw))
          · rw [if_neg (by rcases hyb with hyb | ⟨hyb, _⟩ <;> simp [Region.wanted, hg, hyb, hbw])]
            exact hnext _ _ _ skipSim (h2 hbw)
        | false =>
          rw [wpG_det (g := (some (d, want), i)) hcall] at hw
          obtain ⟨s', h1, h2⟩ := hw
          unfold gstep at h1
          simp only at h1
          split at h1
          · rename_i b hb
            have hyb := hy b hb
            split at h1
            · rename_i hbw
              have hyb : yielded ops a.tmps j = some b := hyb.resolve_right (fun h => by rw [h.2] at hbw; cases want <;> simp at hbw)
              rw [if_pos (by simp [Region.wanted, hg, hyb, hbw])]
              exact .inl (core _ hi (by rw [wpG_det (g := (none, i)) hcall]; exact ⟨s', h1, h2⟩))
            · rename_i hbw
              rw [if_neg (by rcases hyb with hyb | ⟨hyb, _⟩ <;> simp [Region.wanted, hg, hyb, hbw])]
              simp only [Option.some.injEq] at h1
              subst h1
              exact hnext _ _ _ skipSim h2
          · simp at h1
      · simp at hc
    · simp at hc
end
end Go.TL
namespace Go.TL
section
variable {P : Program} {x : Cx} {n : Nat} {ops : Array Oper} {Q : Exit → Act → World → Prop} {K : St → Prop}
theorem drop_head {l : List Oper} {k : Nat} {o : Oper} {os : List Oper} (h : ops.toList.drop k = o :: os) : ops[k]? = some o ∧ ops.toList.drop (k + 1) = os ∧ l = l := by
  refine ⟨?_, ?_, rfl⟩
  · have := congrArg (fun l => l[0]?) h
    simpa using this
  · rw [← List.drop_drop, h]; rfl
theorem seq_sound (hq : ∀ s' a' w', Sim x n s' a' w' → K s' → Q .normal a' w') : ∀ (l : List Oper) (k : Nat) (ms : List Md) (gs : List GI) (s : St) (a : Act) (w : World), ops.toList.drop k = l →
    cOps P n ops l ms = some gs → wpL P gs K s → Sim x n s a w → wpOps P ops Q (List.range' k l.length) a w
  | [], k, ms, gs, s, a, w, _, hc, hw, sim => by
    simp only [cOps, Option.some.injEq] at hc
    subst hc
    exact hq s a w sim hw
  | o :: os, k, ms, gs, s, a, w, hl, hc, hw, sim => by
    obtain ⟨h1, h2, _⟩ := drop_head (l := []) hl
    simp only [cOps] at hc
    split at hc
    · rename_i g gs' hg hgs
      simp only [Option.some.injEq] at hc
      subst hc
      rw [List.length_cons, List.range'_succ, wpOps_cons]
      exact sound_G h1 hg hw sim fun s' a' w' sim' hk => seq_sound hq os (k + 1) ms.tail gs' s' a' w' h2 hgs hk sim'
    · simp at hc
theorem region_sound {id : Nat} {ms : List Md} {gs : List GI} {s : St} {a : Act} {w : World} (hc : cOps P n ops ops.toList ms = some gs) (hw : wpL P gs K s) (sim : Sim x n s a w)
    (hq : ∀ s' a' w', Sim x n s' a' w' → K s' → Q .normal a' w') : (Code.region id ops false).wp P Q a w := by
  refine wp_region ?_
  have := seq_sound hq ops.toList 0 ms gs s a w (by simp) hc hw sim
  rwa [Array.length_toList, ← List.range_eq_range'] at this
end
theorem cXs_each {P : Program} {n : Nat} : ∀ (xs : List Operand) (ts : List TypeId) (ys : List X), cXs P n ts xs = some ys → ∀ y ∈ ys, ∃ o, XOk n y o
  | [], ts, ys, h, y, hy => by simp only [cXs, Option.some.injEq] at h; subst h; simp at hy
  | x :: xs, ts, ys, h, y, hy => by
    simp only [cXs] at h
    split at h
    · rename_i z r hz hrs
      simp only [Option.some.injEq] at h
      subst h
      rcases List.mem_cons.1 hy with rfl | hy
      · exact ⟨x, cX_ok hz⟩
      · exact cXs_each xs ts.tail r hrs y hy
    · simp at h
theorem seen_sim {P : Program} {x : Cx} {n : Nat} {ops : Array Oper} {o : Oper} {m : Md} {g : GI} {s : St} {a : Act} {w : World} (hc : cG P n ops o m = some g) (sim : Sim x n s a w) : Seen g s := by
  intro hcall y hy
  obtain ⟨A, μ, OH, Ot, ht, h0, hr, st⟩ := sim
  rw [← st.inv.len]
  obtain ⟨i, hi, hgi⟩ : ∃ i, compileT P n o m = some i ∧ g.2 = i := by
    unfold cG at hc
    split at hc
    · simp only [Option.map_eq_some_iff] at hc
      obtain ⟨i, h1, rfl⟩ := hc
      exact ⟨i, h1, rfl⟩
    · split at hc
      · split at hc
        · simp only [Option.map_eq_some_iff] at hc
          obtain ⟨i, h1, rfl⟩ := hc
          exact ⟨i, h1, rfl⟩
        · simp at hc
      · simp at hc
  rw [hgi] at hcall hy
  cases i <;> (try (simp [I.isCall] at hcall; done))
  rename_i rw d f args
  have hcc : compile P n o m = some (.call rw d f args) := by
    unfold compileT at hi
    split at hi
    · rename_i j hj; simp only [Option.some.injEq] at hi; rw [hj, hi]
    · split at hi
      · simp at hi
      · split at hi <;> simp at hi
  obtain ⟨c, gg, hop, hcal, hd, hg, hargs⟩ := compile_call hcc
  obtain ⟨oy, hoy⟩ : ∃ oy, XOk n y oy := by
    simp only [I.ops, List.mem_cons] at hy
    rcases hy with rfl | hy
    · exact ⟨gg, hg⟩
    · exact cXs_each _ _ _ hargs y hy
  exact Rep.seen _ _ _ (get_rep hoy hr)
def directs (o : Oper) : List Nat := (o.after.toList.filter fun e => Region.binds .any e).map (·.on)
def maskOf (acc : List Nat) (ds : List Nat) : Nat := ds.foldl (fun m k => m ||| (2 ^ k ||| acc.getD k 0)) 0
def masks : List Oper → List Nat → List Nat
  | [], acc => acc
  | o :: os, acc => masks os (acc ++ [maskOf acc (directs o)])
def okEdges : List Oper → Nat → Bool
  | [], _ => true
  | o :: os, i => (directs o).all (· < i) && okEdges os (i + 1)
def okPairs (ms : List Nat) : List (Nat × GI) → Bool
  | [] => true
  | (j, g) :: rest => (rest.all fun p => indepF g p.2 || (ms.getD p.1 0).testBit j) && okPairs ms rest
def number : Nat → List GI → List (Nat × GI)
  | _, [] => []
  | k, g :: gs => (k, g) :: number (k + 1) gs
def okRegion (ops : Array Oper) (gs : List GI) : Bool := okEdges ops.toList 0 && okPairs (masks ops.toList []) (number 0 gs)
theorem maskOf_bit (acc : List Nat) (j : Nat) : ∀ (ds : List Nat) (m : Nat), (ds.foldl (fun m k => m ||| (2 ^ k ||| acc.getD k 0)) m).testBit j = true → m.testBit j = true ∨ ∃ k ∈ ds, j = k ∨ (acc.getD k 0).testBit j = true
  | [], m, h => .inl h
  | d :: ds, m, h => by
    rcases maskOf_bit acc j ds _ h with h1 | ⟨k, hk, h2⟩
    · rw [Nat.testBit_or, Nat.testBit_or] at h1
      simp only [Bool.or_eq_true] at h1
      rcases h1 with h1 | h1 | h1
      · exact .inl h1
      · refine .inr ⟨d, by simp, .inl ?_⟩
        rw [Nat.testBit_two_pow] at h1
        simpa using (of_decide_eq_true h1).symm
      · exact .inr ⟨d, by simp, .inr h1⟩
    · exact .inr ⟨k, by simp [hk], h2⟩
theorem masks_prefix : ∀ (os : List Oper) (acc : List Nat) (i : Nat), i < acc.length → (masks os acc).getD i 0 = acc.getD i 0
  | [], acc, i, _ => rfl
  | o :: os, acc, i, h => by
    rw [masks, masks_prefix os _ i (by simp; omega)]
    simp [List.getD_eq_getElem?_getD, List.getElem?_append_left h]
theorem masks_spec : ∀ (os : List Oper) (acc : List Nat) (i : Nat) (o : Oper), os[i]? = some o → okEdges os acc.length = true → ∀ j, ((masks os acc).getD (acc.length + i) 0).testBit j = true →
    ∃ k ∈ directs o, k < acc.length + i ∧ (j = k ∨ ((masks os acc).getD k 0).testBit j = true)
  | [], acc, i, o, h, _, _, _ => by simp at h
  | q :: os, acc, 0, o, h, hok, j, hb => by
    simp at h; subst h
    simp only [okEdges, Bool.and_eq_true, List.all_eq_true, decide_eq_true_eq] at hok
    simp only [masks] at hb ⊢
    rw [masks_prefix os _ _ (by simp)] at hb
    simp [List.getD_eq_getElem?_getD] at hb
    rcases maskOf_bit acc j (directs q) 0 hb with h1 | ⟨k, hk, h2⟩
    · simp at h1
    · have hlt := hok.1 k hk
      refine ⟨k, hk, by omega, h2.imp id fun h3 => ?_⟩
      rw [masks_prefix os _ k (by simp; omega)]
      simpa [List.getD_eq_getElem?_getD, List.getElem?_append_left hlt] using h3
  | q :: os, acc, i + 1, o, h, hok, j, hb => by
    simp only [okEdges, Bool.and_eq_true] at hok
    simp only [masks] at hb ⊢
    have := masks_spec os (acc ++ [maskOf acc (directs q)]) i o (by simpa using h) (by simpa using hok.2) j (by
      rw [List.length_append, List.length_singleton, show acc.length + 1 + i = acc.length + (i + 1) by omega]; exact hb)
    obtain ⟨k, h1, h2, h3⟩ := this
    refine ⟨k, h1, by simp at h2; omega, h3⟩
theorem number_map : ∀ (k : Nat) (gs : List GI), (number k gs).map (·.2) = gs
  | _, [] => rfl
  | k, g :: gs => by simp [number, number_map]
theorem number_get : ∀ (k : Nat) (gs : List GI) (p : Nat × GI), p ∈ number k gs → k ≤ p.1 ∧ gs[p.1 - k]? = some p.2
  | k, g :: gs, p, h => by
    simp only [number, List.mem_cons] at h
    rcases h with rfl | h
    · simp
    · obtain ⟨h1, h2⟩ := number_get (k + 1) gs p h
      refine ⟨by omega, ?_⟩
      rw [show p.1 - k = (p.1 - (k + 1)) + 1 by omega]; simpa using h2
theorem number_mem : ∀ (k : Nat) (gs : List GI) (i : Nat) (g : GI), gs[i]? = some g → (k + i, g) ∈ number k gs
  | k, q :: gs, 0, g, h => by simp at h; subst h; simp [number]
  | k, q :: gs, i + 1, g, h => by
    simp only [number, List.mem_cons]
    right
    have := number_mem (k + 1) gs i g (by simpa using h)
    rwa [show k + 1 + i = k + (i + 1) by omega] at this
theorem number_sorted : ∀ (k : Nat) (gs : List GI), (number k gs).Pairwise fun p q => p.1 < q.1
  | _, [] => List.Pairwise.nil
  | k, g :: gs => by
    simp only [number]
    exact List.Pairwise.cons (fun q hq => by have := (number_get _ _ q hq).1; simp only; omega) (number_sorted (k + 1) gs)
theorem okPairs_spec {ms : List Nat} : ∀ {l : List (Nat × GI)}, okPairs ms l = true → ∀ pre q post, l = pre ++ q :: post → ∀ p ∈ pre, indepF p.2 q.2 = true ∨ (ms.getD q.1 0).testBit p.1 = true
  | [], _, pre, q, post, h, _, _ => by simp at h
  | (j, g) :: rest, hok, [], q, post, _, p, hp => by simp at hp
  | (j, g) :: rest, hok, r :: pre, q, post, h, p, hp => by
    simp only [okPairs, Bool.and_eq_true, List.all_eq_true, Bool.or_eq_true] at hok
    simp only [List.cons_append, List.cons.injEq] at h
    obtain ⟨rfl, h⟩ := h
    simp only [List.mem_cons] at hp
    rcases hp with rfl | hp
    · exact hok.1 q (by rw [h]; simp)
    · exact okPairs_spec hok.2 pre q post h p hp
theorem cOps_get {P : Program} {n : Nat} {ops : Array Oper} : ∀ (l : List Oper) (ms : List Md) (gs : List GI), cOps P n ops l ms = some gs → gs.length = l.length ∧ ∀ (i : Nat) (o : Oper) (g : GI), l[i]? = some o → gs[i]? = some g → ∃ m, cG P n ops o m = some g
  | [], ms, gs, h => by simp only [cOps, Option.some.injEq] at h; subst h; simp
  | q :: os, ms, gs, h => by
    simp only [cOps] at h
    split at h
    · rename_i g gs' hg hgs
      simp only [Option.some.injEq] at h
      subst h
      obtain ⟨h1, h2⟩ := cOps_get os ms.tail gs' hgs
      refine ⟨by simp [h1], fun i o g' ho hg' => ?_⟩
      cases i with
      | zero => simp at ho hg'; subst ho; subst hg'; exact ⟨_, hg⟩
      | succ i => exact h2 i o g' (by simpa using ho) (by simpa using hg')
    · simp at h
def unlisted (listed : Array Bool) (l : List (Nat × GI)) : List (Nat × GI) := l.filter fun p => !listed.getD p.1 true
theorem unlisted_set {listed : Array Bool} {i : Nat} {l pre post : List (Nat × GI)} {g : GI} (hs : l.Pairwise fun p q => p.1 < q.1) (hi : i < listed.size) (h : unlisted listed l = pre ++ (i, g) :: post) :
    unlisted (listed.setIfInBounds i true) l = pre ++ post := by
  have h1 : unlisted (listed.setIfInBounds i true) l = (unlisted listed l).filter fun p => p.1 != i := by
    unfold unlisted
    rw [List.filter_filter]
    apply List.filter_congr
    intro p _
    by_cases e : p.1 = i
    · simp [e, hi]
    · simp [e, Array.getD_eq_getD_getElem?, Array.getElem?_setIfInBounds_ne (fun q => e q.symm)]
  have hsub : (unlisted listed l).Pairwise fun p q => p.1 < q.1 := hs.sublist List.filter_sublist
  rw [h] at hsub
  rw [h1, h, List.filter_append, List.filter_cons_of_neg (by simp)]
  rw [List.pairwise_append] at hsub
  obtain ⟨s1, s2, s3⟩ := hsub
  rw [List.pairwise_cons] at s2
  rw [List.filter_eq_self.2 (fun p hp => ?_), List.filter_eq_self.2 (fun p hp => ?_)]
  · have := s2.1 p hp; simp; omega
  · have := s3 p hp (i, g) (by simp); simp at this ⊢; omega
section
variable {P : Program} {x : Cx} {n : Nat} {ops : Array Oper} {Q : Exit → Act → World → Prop} {K : St → Prop}
theorem any_sound {ms : List Md} {gs : List GI} (hc : cOps P n ops ops.toList ms = some gs) (hok : okRegion ops gs = true) (hq : ∀ s' a' w', Sim x n s' a' w' → K s' → Q .normal a' w') :
    ∀ (fuel : Nat) (listed : Array Bool) (s : St) (a : Act) (w : World), listed.size = ops.size → (unlisted listed (number 0 gs)).length = fuel →
      (∀ i, listed.getD i true = true → ∀ o, ops[i]? = some o → ∀ k ∈ directs o, listed.getD k false = true) →
      wpL P ((unlisted listed (number 0 gs)).map (·.2)) K s → Sim x n s a w → wpAny P .any ops Q fuel listed a w := by
  obtain ⟨hlen, hget⟩ := cOps_get _ _ _ hc
  simp only [okRegion, Bool.and_eq_true] at hok
  obtain ⟨hed, hpr⟩ := hok
  have hops : ∀ (i : Nat) (o : Oper), ops[i]? = some o → ops.toList[i]? = some o := fun i o h => by rw [Array.getElem?_toList]; exact h
  have hback : ∀ i o, ops[i]? = some o → ∀ k ∈ directs o, k < i := by
    have : ∀ (l : List Oper) (b i : Nat) (o : Oper), okEdges l b = true → l[i]? = some o → ∀ k ∈ directs o, k < b + i := by
      intro l
      induction l with
      | nil => intro b i o _ h; simp at h
      | cons q l ih =>
        intro b i o hok h k hk
        simp only [okEdges, Bool.and_eq_true, List.all_eq_true, decide_eq_true_eq] at hok
        cases i with
        | zero => simp at h; subst h; exact hok.1 k hk
        | succ i => have := ih (b + 1) i o hok.2 (by simpa using h) k hk; omega
    intro i o h k hk
    have := this ops.toList 0 i o hed (hops i o h) k hk
    omega
  have hdown : ∀ (listed : Array Bool), listed.size = ops.size → (∀ i, listed.getD i true = true → ∀ o, ops[i]? = some o → ∀ k ∈ directs o, listed.getD k false = true) →
      ∀ i o, ops[i]? = some o → (∀ k ∈ directs o, listed.getD k false = true) → ∀ j, ((masks ops.toList []).getD i 0).testBit j = true → listed.getD j false = true := by
    intro listed hsz hcl i
    induction i using Nat.strongRecOn with
    | _ i ih =>
      intro o ho hd j hj
      have := masks_spec ops.toList [] i o (hops i o ho) (by simpa using hed) j (by simpa using hj)
      obtain ⟨k, hk, hlt, h3⟩ := this
      simp at hlt
      have hkl := hd k hk
      rcases h3 with rfl | h3
      · exact hkl
      · have hks : k < ops.size := by
          have : i < ops.size := by
            rcases Nat.lt_or_ge i ops.size with h | h
            · exact h
            · rw [Array.getElem?_eq_none h] at ho; simp at ho
          omega
        refine ih k hlt ops[k] (Array.getElem?_eq_getElem hks) ?_ j h3
        refine hcl k ?_ _ (Array.getElem?_eq_getElem hks)
        have hk2 : k < listed.size := by omega
        simpa [Array.getD_eq_getD_getElem?, hk2] using hkl
  have hready : ∀ (listed : Array Bool), listed.size = ops.size → ∀ i, i ∈ Region.ready .any ops listed ↔ i < ops.size ∧ listed.getD i true = false ∧ ∃ o, ops[i]? = some o ∧ ∀ k ∈ directs o, listed.getD k false = true := by
    intro listed hsz i
    simp only [Region.ready, List.mem_filter, List.mem_range, Bool.and_eq_true, Bool.not_eq_true']
    constructor
    · rintro ⟨h1, h2, h3⟩
      refine ⟨h1, h2, ops[i], Array.getElem?_eq_getElem h1, fun k hk => ?_⟩
      rw [Array.getElem?_eq_getElem h1] at h3
      simp only [Option.map_some, Option.getD_some, Array.all_eq_true', Bool.or_eq_true, Bool.not_eq_true'] at h3
      simp only [directs, List.mem_map, List.mem_filter] at hk
      obtain ⟨e, ⟨he1, he2⟩, rfl⟩ := hk
      rcases h3 e (by simpa using he1) with h | h
      · rw [he2] at h; simp at h
      · exact h
    · rintro ⟨h1, h2, o, ho, h3⟩
      refine ⟨h1, h2, ?_⟩
      rw [ho]
      simp only [Option.map_some, Option.getD_some, Array.all_eq_true', Bool.or_eq_true, Bool.not_eq_true']
      intro e he
      cases hb : Region.binds .any e with
      | false => exact .inl rfl
      | true => exact .inr (h3 e.on (by simp only [directs, List.mem_map, List.mem_filter]; exact ⟨e, ⟨by simpa using he, hb⟩, rfl⟩))
  have hmemN : ∀ i, i < ops.size → ∃ g, (i, g) ∈ number 0 gs ∧ gs[i]? = some g := by
    intro i hi
    have : i < gs.length := by rw [hlen]; simpa using hi
    refine ⟨gs[i], ?_, List.getElem?_eq_getElem this⟩
    have := number_mem 0 gs i gs[i] (List.getElem?_eq_getElem this)
    simpa using this
  intro fuel
  induction fuel with
  | zero =>
    intro listed s a w hsz hl hcl hw sim
    have hnil : unlisted listed (number 0 gs) = [] := List.eq_nil_of_length_eq_zero hl
    refine ⟨?_, ?_⟩
    · apply List.eq_nil_iff_forall_not_mem.2
      intro i hi
      obtain ⟨h1, h2, _⟩ := (hready listed hsz i).1 hi
      obtain ⟨g, hg, _⟩ := hmemN i h1
      have : (i, g) ∈ unlisted listed (number 0 gs) := List.mem_filter.2 ⟨hg, by simpa using h2⟩
      rw [hnil] at this; simp at this
    · rw [hnil] at hw
      exact hq s a w sim hw
  | succ fuel ih =>
    intro listed s a w hsz hl hcl hw sim
    refine ⟨fun hr => ?_, fun i hi => ?_⟩
    ·
      exfalso
      obtain ⟨p, rest, hp⟩ : ∃ p rest, unlisted listed (number 0 gs) = p :: rest := by
        cases h : unlisted listed (number 0 gs) with
        | nil => rw [h] at hl; simp at hl
        | cons p rest => exact ⟨p, rest, rfl⟩
      have hpm : p ∈ unlisted listed (number 0 gs) := by rw [hp]; simp
      obtain ⟨hpn, hpl⟩ := List.mem_filter.1 hpm
      have hpg := (number_get 0 gs p hpn).2
      have hpi : p.1 < ops.size := by
        rcases Nat.lt_or_ge p.1 ops.size with h | h
        · exact h
        · rw [List.getElem?_eq_none (by rw [hlen]; simpa using h)] at hpg; simp at hpg
      have : p.1 ∈ Region.ready .any ops listed := by
        rw [hready listed hsz]
        refine ⟨hpi, by simpa using hpl, ops[p.1], Array.getElem?_eq_getElem hpi, fun k hk => ?_⟩
        have hklt := hback p.1 _ (Array.getElem?_eq_getElem hpi) k hk
        cases hkl : listed.getD k false with
        | true => rfl
        | false =>
          exfalso
          obtain ⟨g, hg, _⟩ := hmemN k (by omega)
          have hkm : (k, g) ∈ unlisted listed (number 0 gs) := List.mem_filter.2 ⟨hg, by
            have : k < listed.size := by omega
            simpa [Array.getD_eq_getD_getElem?, this] using hkl⟩
          have hsrt : (unlisted listed (number 0 gs)).Pairwise fun p q => p.1 < q.1 := (number_sorted 0 gs).sublist List.filter_sublist
          rw [hp] at hsrt hkm
          rw [List.pairwise_cons] at hsrt
          simp only [List.mem_cons] at hkm
          rcases hkm with h | h
          · rw [← h] at hklt; simp at hklt
          · have := hsrt.1 _ h; simp at this; omega
      rw [hr] at this; simp at this
    · obtain ⟨h1, h2, o, ho, h3⟩ := (hready listed hsz i).1 hi
      obtain ⟨g, hg, hgg⟩ := hmemN i h1
      have hm : (i, g) ∈ unlisted listed (number 0 gs) := List.mem_filter.2 ⟨hg, by simpa using h2⟩
      obtain ⟨pre, post, hpp⟩ := List.append_of_mem hm
      obtain ⟨m, hcg⟩ := hget i o g (hops i o ho) hgg
      have hind : ∀ p ∈ pre.map (·.2), indepF p g = true := by
        intro p hp
        obtain ⟨q, hq1, rfl⟩ := List.mem_map.1 hp
        have hqm : q ∈ unlisted listed (number 0 gs) := by rw [hpp]; simp [hq1]
        obtain ⟨hqn, hql⟩ := List.mem_filter.1 hqm
        have hsrt : (unlisted listed (number 0 gs)).Pairwise fun p q => p.1 < q.1 := (number_sorted 0 gs).sublist List.filter_sublist
        rw [hpp, List.pairwise_append] at hsrt
        have hlt := hsrt.2.2 q hq1 (i, g) (by simp)
        obtain ⟨pre2, post2, hw2⟩ := List.append_of_mem hg
        have hqpre : q ∈ pre2 := by
          have hqn2 := hqn
          rw [hw2] at hqn2
          have hs2 := number_sorted 0 gs
          rw [hw2, List.pairwise_append] at hs2
          rcases List.mem_append.1 hqn2 with h | h
          · exact h
          · simp only [List.mem_cons] at h
            rcases h with h | h
            · rw [h] at hlt; simp at hlt
            · have := (List.pairwise_cons.1 hs2.2.1).1 q h
              simp at this hlt; omega
        rcases okPairs_spec hpr pre2 (i, g) post2 hw2 q hqpre with h | h
        · exact h
        · exfalso
          have := hdown listed hsz hcl i o ho h3 q.1 h
          have hq2 : q.1 < listed.size := by
            rcases Nat.lt_or_ge q.1 listed.size with h' | h'
            · exact h'
            · simp [Array.getD_eq_getD_getElem?, Array.getElem?_eq_none h'] at this
          simp [Array.getD_eq_getD_getElem?, hq2] at this hql
          rw [this] at hql; simp at hql
      rw [hpp, List.map_append, List.map_cons] at hw
      have hpull := pull hind (seen_sim hcg sim) hw
      have hset := unlisted_set (number_sorted 0 gs) (show i < listed.size by omega) hpp
      refine sound_G ho hcg hpull sim fun s' a' w' sim' hk => ?_
      refine ih (listed.setIfInBounds i true) s' a' w' (by simpa using hsz) ?_ ?_ ?_ sim'
      · rw [hset]; rw [hpp] at hl; simp at hl ⊢; omega
      · intro j hj o' ho' k hk
        have mono : ∀ k, listed.getD k false = true → (listed.setIfInBounds i true).getD k false = true := by
          intro k hk
          by_cases e : k = i
          · subst e; simp [Array.getD_eq_getD_getElem?, show k < listed.size by omega]
          · rw [Array.getD_eq_getD_getElem?, Array.getElem?_setIfInBounds_ne (fun q => e q.symm), ← Array.getD_eq_getD_getElem?]; exact hk
        by_cases e : j = i
        · subst e
          rw [ho] at ho'
          obtain rfl : o = o' := by simpa using ho'
          exact mono k (h3 k hk)
        · rw [Array.getD_eq_getD_getElem?, Array.getElem?_setIfInBounds_ne (fun q => e q.symm), ← Array.getD_eq_getD_getElem?] at hj
          exact mono k (hcl j hj o' ho' k hk)
      · rw [hset, List.map_append]; exact hk
theorem region_any {id : Nat} {ms : List Md} {gs : List GI} {s : St} {a : Act} {w : World} (hm : P.follows .mixedOrders = true) (hc : cOps P n ops ops.toList ms = some gs) (hok : okRegion ops gs = true)
    (hw : wpL P gs K s) (sim : Sim x n s a w) (hq : ∀ s' a' w', Sim x n s' a' w' → K s' → Q .normal a' w') : (Code.region id ops true).wp P Q a w := by
  refine wp_region_any hm ?_
  have hlen := (cOps_get _ _ _ hc).1
  have hun : unlisted (Array.replicate ops.size false) (number 0 gs) = number 0 gs := by
    unfold unlisted
    apply List.filter_eq_self.2
    intro p hp
    have hpg := (number_get 0 gs p hp).2
    have : p.1 < ops.size := by
      rcases Nat.lt_or_ge p.1 ops.size with h | h
      · exact h
      · rw [List.getElem?_eq_none (by rw [hlen]; simpa using h)] at hpg; simp at hpg
    simp [Array.getD_eq_getD_getElem?, this]
  have hl : (number 0 gs).length = ops.size := by
    have := congrArg List.length (number_map 0 gs)
    rw [List.length_map] at this
    rw [this, hlen]; simp
  refine any_sound hc hok hq ops.size _ s a _ (by simp) (by rw [hun, hl]) (fun i hi o ho => ?_) (by rw [hun, number_map]; exact hw) ?_
  · exfalso
    have : i < ops.size := by
      rcases Nat.lt_or_ge i ops.size with h | h
      · exact h
      · rw [Array.getElem?_eq_none h] at ho; simp at ho
    simp [Array.getD_eq_getD_getElem?, this] at hi
  · obtain ⟨A, μ, OH, Ot, ht, h0, hr, st⟩ := sim
    exact ⟨A, μ, OH, Ot, ht, h0, hr, st.heap rfl ⟨rfl, rfl, rfl⟩⟩
end
inductive It (α : Type) where
  | one (a : α)
  | two (a b : α)
  deriving Inhabited
def It.list {α : Type} : It α → List α
  | .one a => [a]
  | .two a b => [a, b]
def It.map {α β : Type} (f : α → β) : It α → It β
  | .one a => .one (f a)
  | .two a b => .two (f a) (f b)
def wpIt (P : Program) (it : It GI) (K : St → Prop) (s : St) : Prop :=
  match it with
  | .one g => wpG P g K s
  | .two g h => wpG P g (wpG P h K) s ∧ wpG P h (wpG P g K) s
def wpIts (P : Program) : List (It GI) → (St → Prop) → St → Prop
  | [], Q, s => Q s
  | it :: its, Q, s => wpIt P it (wpIts P its Q) s
theorem wpIt_mono {P : Program} {it : It GI} {K K' : St → Prop} {s : St} (h : wpIt P it K s) (hk : ∀ s', K s' → K' s') : wpIt P it K' s := by
  cases it with
  | one g => exact wpG_mono h hk
  | two g g' => exact ⟨wpG_mono h.1 fun s' hs => wpG_mono hs hk, wpG_mono h.2 fun s' hs => wpG_mono hs hk⟩
theorem wpIts_mono {P : Program} : ∀ (its : List (It GI)) {K K' : St → Prop} {s : St}, wpIts P its K s → (∀ s', K s' → K' s') → wpIts P its K' s
  | [], _, _, s, h, hk => hk s h
  | it :: its, _, _, s, h, hk => wpIt_mono h fun s' hs => wpIts_mono its hs hk
def It.callLast : It (Nat × GI) → Bool
  | .one _ => true
  | .two _ q => q.2.2.isCall
abbrev It.gi (X : It (Nat × GI)) : It GI := X.map (·.2)
theorem swapIt {P : Program} {X : It (Nat × GI)} {g : GI} {K : St → Prop} {s : St} (hi : ∀ x ∈ X.list, indep x.2 g = true) (hc : X.callLast = true) (h : wpIt P X.gi (wpG P g K) s) : wpG P g (wpIt P X.gi K) s := by
  cases X with
  | one p => exact swap (hi p (by simp [It.list])) h
  | two p q =>
    obtain ⟨h1, h2⟩ := h
    have ip := hi p (by simp [It.list])
    have iq := hi q (by simp [It.list])
    have e1 := swap ip (wpG_mono h1 fun s' hs => swap iq hs)
    have e2 := swap iq (wpG_mono h2 fun s' hs => swap ip hs)
    simp only [It.callLast] at hc
    have hg : g.2.isCall = false := by
      cases hh : g.2.isCall with
      | false => rfl
      | true => exact absurd ⟨hc, hh⟩ (indep_spec iq (.inl hc)).2.2.2.2.2
    rw [wpG_det hg] at e1 e2 ⊢
    obtain ⟨s1, k1, k2⟩ := e1
    obtain ⟨s2, k3, k4⟩ := e2
    rw [k1] at k3
    obtain rfl : s1 = s2 := by simpa using k3
    exact ⟨s1, k1, k2, k4⟩
theorem pullIt {P : Program} {g : GI} {Q : St → Prop} {Y : It (Nat × GI)} {rest : List (It (Nat × GI))} (hY : ∀ {K : St → Prop} {s : St}, wpIt P Y.gi K s → wpG P g (wpIts P (rest.map It.gi) K) s) {post : List (It (Nat × GI))} :
    ∀ {pre : List (It (Nat × GI))} {s : St}, (∀ X ∈ pre, (∀ x ∈ X.list, indep x.2 g = true) ∧ X.callLast = true) → wpIts P ((pre ++ Y :: post).map It.gi) Q s → wpG P g (wpIts P ((pre ++ rest ++ post).map It.gi) Q) s
  | [], s, _, h => by
    simp only [List.nil_append, List.map_cons, wpIts, List.map_append] at h ⊢
    refine wpG_mono (hY h) fun s' hs => ?_
    clear hY
    induction rest generalizing s' with
    | nil => exact hs
    | cons X r ih => exact wpIt_mono hs fun s2 hs2 => ih s2 hs2
  | X :: pre, s, hi, h => by
    simp only [List.cons_append, List.map_cons, wpIts] at h ⊢
    exact swapIt (hi X (by simp)).1 (hi X (by simp)).2 (wpIt_mono h fun s' hs => pullIt hY (fun Y hY => hi Y (by simp [hY])) hs)
def okIts (ms : List Nat) : List (It (Nat × GI)) → Bool
  | [] => true
  | X :: rest => (X.list.all fun x => rest.all fun Y => Y.list.all fun y => indep x.2 y.2 || (ms.getD y.1 0).testBit x.1) && X.callLast && okIts ms rest
def isLate (g : GI) : Bool := match g.2 with
  | .load _ .frz _ _ _ => true
  | _ => false
def toItems : List (Nat × GI) → List (Nat × GI) → List (It (Nat × GI))
  | [], held => held.map .one
  | p :: rest, held =>
    if isLate p.2 = true then toItems rest (held ++ [p])
    else if p.2.2.isCall && p.2.2.hr then match held with
      | [q] => .two q p :: toItems rest []
      | _ => held.map .one ++ .one p :: toItems rest []
    else if held.any (fun q => !indep q.2 p.2) = true then held.map .one ++ .one p :: toItems rest []
    else .one p :: toItems rest held
theorem ones_list (l : List (Nat × GI)) : (l.map It.one).flatMap It.list = l := by
  induction l with
  | nil => rfl
  | cons p l ih => simp [It.list, ih]
theorem toItems_perm : ∀ (l held : List (Nat × GI)), ((toItems l held).flatMap It.list).Perm (held ++ l)
  | [], held => by simp [toItems, ones_list]
  | p :: rest, held => by
    simp only [toItems]
    split
    · have := toItems_perm rest (held ++ [p]); simpa using this
    · split
      · split
        · rename_i q
          have := toItems_perm rest []
          simp only [List.flatMap_cons, It.list, List.nil_append, List.cons_append] at this ⊢
          exact (this.cons p).cons q
        · have := toItems_perm rest []
          simp only [List.flatMap_append, ones_list, List.flatMap_cons, It.list, List.nil_append, List.cons_append] at this ⊢
          exact (this.cons p).append_left held
      · split
        · have := toItems_perm rest []
          simp only [List.flatMap_append, ones_list, List.flatMap_cons, It.list, List.nil_append, List.cons_append] at this ⊢
          exact (this.cons p).append_left held
        · have := toItems_perm rest held
          simp only [List.flatMap_cons, It.list, List.nil_append, List.cons_append] at this ⊢
          exact (this.cons p).trans List.perm_middle.symm
def okItems (ops : Array Oper) (gs : List GI) : Bool := okEdges ops.toList 0 && okIts (masks ops.toList []) (toItems (number 0 gs) [])
def leftOne (listed : Array Bool) : It (Nat × GI) → List (It (Nat × GI))
  | .one p => if listed.getD p.1 true = true then [] else [.one p]
  | .two p q => if listed.getD p.1 true = true then (if listed.getD q.1 true = true then [] else [.one q]) else if listed.getD q.1 true = true then [.one p] else [.two p q]
def left (listed : Array Bool) (its : List (It (Nat × GI))) : List (It (Nat × GI)) := its.flatMap (leftOne listed)
theorem leftOne_mem {listed : Array Bool} {X Y : It (Nat × GI)} (h : Y ∈ leftOne listed X) : (∀ y ∈ Y.list, y ∈ X.list ∧ listed.getD y.1 true = false) ∧ (X.callLast = true → Y.callLast = true) := by
  cases X with
  | one p =>
    simp only [leftOne] at h
    split at h
    · simp at h
    · rename_i hp
      simp at h; subst h
      simpa [It.list, It.callLast] using hp
  | two p q =>
    simp only [leftOne] at h
    split at h
    · split at h
      · simp at h
      · rename_i hp hq
        simp at h; subst h
        simp [It.list, It.callLast]; simpa using hq
    · split at h
      · rename_i hp hq
        simp at h; subst h
        simp [It.list, It.callLast]; simpa using hp
      · rename_i hp hq
        simp at h; subst h
        simp only [It.list, List.mem_cons, List.not_mem_nil, or_false, forall_eq_or_imp, forall_eq, true_or, or_true, true_and, imp_self, and_true]
        exact ⟨by simpa using hp, by simpa using hq⟩
theorem getD_set {listed : Array Bool} {i j : Nat} (hi : i < listed.size) : (listed.setIfInBounds i true).getD j true = if j = i then true else listed.getD j true := by
  by_cases e : j = i
  · subst e; simp [Array.getD_eq_getD_getElem?, hi]
  · rw [if_neg e, Array.getD_eq_getD_getElem?, Array.getElem?_setIfInBounds_ne (fun q => e q.symm), ← Array.getD_eq_getD_getElem?]
theorem getD_set_same' {listed : Array Bool} {i : Nat} (hi : i < listed.size) : (listed.setIfInBounds i true).getD i true = true := by rw [getD_set hi, if_pos rfl]
theorem getD_set_ne {listed : Array Bool} {i j : Nat} (hi : i < listed.size) (h : ¬ j = i) : (listed.setIfInBounds i true).getD j true = listed.getD j true := by rw [getD_set hi, if_neg h]
theorem left_split {P : Program} {ms : List Nat} {listed : Array Bool} {i : Nat} {g : GI} (hi : i < listed.size) (hl : listed.getD i true = false) : ∀ (its : List (It (Nat × GI))), okIts ms its = true → ((its.flatMap It.list).map (·.1)).Nodup → (i, g) ∈ its.flatMap It.list →
    ∃ pre Y rest post, left listed its = pre ++ Y :: post ∧ left (listed.setIfInBounds i true) its = pre ++ rest ++ post ∧ (∀ {K : St → Prop} {s : St}, wpIt P Y.gi K s → wpG P g (wpIts P (rest.map It.gi) K) s) ∧
      ∀ X ∈ pre, (∀ x ∈ X.list, listed.getD x.1 true = false ∧ (indep x.2 g = true ∨ (ms.getD i 0).testBit x.1 = true)) ∧ X.callLast = true
  | [], _, _, hm => by simp at hm
  | X :: its, hok, hnd, hm => by
    simp only [okIts, Bool.and_eq_true, List.all_eq_true] at hok
    obtain ⟨⟨hok1, hok2⟩, hok3⟩ := hok
    simp only [List.flatMap_cons, List.map_append, List.nodup_append] at hnd
    obtain ⟨hn1, hn2, hn3⟩ := hnd
    simp only [List.flatMap_cons, List.mem_append] at hm
    have hout : ∀ (X : It (Nat × GI)), i ∉ X.list.map (·.1) → leftOne (listed.setIfInBounds i true) X = leftOne listed X := by
      intro X hX
      cases X with
      | one p =>
        simp [It.list] at hX
        simp only [leftOne, getD_set_ne hi (fun e => hX e.symm)]
      | two p q =>
        simp [It.list] at hX
        simp only [leftOne, getD_set_ne hi (fun e => hX.1 e.symm), getD_set_ne hi (fun e => hX.2 e.symm)]
    by_cases hX : (i, g) ∈ X.list
    · have hrest : left (listed.setIfInBounds i true) its = left listed its := by
        unfold left
        rw [List.flatMap_def, List.flatMap_def]
        congr 1
        apply List.map_congr_left
        intro Y hY
        refine hout Y fun hiY => ?_
        refine hn3 i (List.mem_map.2 ⟨(i, g), hX, rfl⟩) i ?_ rfl
        obtain ⟨y, hy, hyi⟩ := List.mem_map.1 hiY
        exact List.mem_map.2 ⟨y, List.mem_flatMap.2 ⟨Y, hY, hy⟩, hyi⟩
      cases X with
      | one p =>
        simp [It.list] at hX
        subst hX
        refine ⟨[], .one (i, g), [], left listed its, ?_, ?_, fun h => h, by simp⟩
        · unfold left; simp [leftOne, hl]
        · unfold left at hrest ⊢; simp only [List.flatMap_cons, hrest]; simp [leftOne, getD_set_same' hi]
      | two p q =>
        simp [It.list] at hX hn1
        rcases hX with hX | hX
        · subst hX
          by_cases hq : listed.getD q.1 true = true
          · refine ⟨[], .one (i, g), [], left listed its, ?_, ?_, fun h => h, by simp⟩
            · unfold left; simp [leftOne, hl, hq]
            · unfold left at hrest ⊢; simp only [List.flatMap_cons, hrest]
              simp [leftOne, getD_set_same' hi, getD_set_ne hi (fun e => hn1 e.symm), hq]
          · refine ⟨[], .two (i, g) q, [.one q], left listed its, ?_, ?_, fun h => h.1, by simp⟩
            · unfold left; simp [leftOne, hl, hq]
            · unfold left at hrest ⊢; simp only [List.flatMap_cons, hrest]
              simp [leftOne, getD_set_same' hi, getD_set_ne hi (fun e => hn1 e.symm), hq]
        · subst hX
          by_cases hp : listed.getD p.1 true = true
          · refine ⟨[], .one (i, g), [], left listed its, ?_, ?_, fun h => h, by simp⟩
            · unfold left; simp [leftOne, hl, hp]
            · unfold left at hrest ⊢; simp only [List.flatMap_cons, hrest]
              simp [leftOne, getD_set_same' hi, getD_set_ne hi hn1, hp]
          · refine ⟨[], .two p (i, g), [.one p], left listed its, ?_, ?_, fun h => h.2, by simp⟩
            · unfold left; simp [leftOne, hl, hp]
            · unfold left at hrest ⊢; simp only [List.flatMap_cons, hrest]
              simp [leftOne, getD_set_same' hi, getD_set_ne hi hn1, hp]
    · have hm' := hm.resolve_left hX
      obtain ⟨pre, Y, rest, post, h1, h2, h3, h4⟩ := left_split (P := P) hi hl its hok3 hn2 hm'
      have hiX : i ∉ X.list.map (·.1) := fun h => hn3 i h i (List.mem_map.2 ⟨(i, g), hm', rfl⟩) rfl
      refine ⟨leftOne listed X ++ pre, Y, rest, post, ?_, ?_, h3, fun Z hZ => ?_⟩
      · unfold left at h1 ⊢; simp [h1]
      · unfold left at h2 ⊢; simp [h2, hout X hiX]
      · rcases List.mem_append.1 hZ with hZ | hZ
        · obtain ⟨k1, k2⟩ := leftOne_mem hZ
          refine ⟨fun x hx => ⟨(k1 x hx).2, ?_⟩, k2 hok2⟩
          obtain ⟨Y2, hY2, hm2⟩ := List.mem_flatMap.1 hm'
          have := hok1 x (k1 x hx).1 Y2 hY2 (i, g) hm2
          simpa using this
        · exact h4 Z hZ
section
variable {P : Program} {x : Cx} {n : Nat} {ops : Array Oper} {Q : Exit → Act → World → Prop} {K : St → Prop}
theorem any_items {ms : List Md} {gs : List GI} (hc : cOps P n ops ops.toList ms = some gs) (hok : okItems ops gs = true) (hq : ∀ s' a' w', Sim x n s' a' w' → K s' → Q .normal a' w') :
    ∀ (fuel : Nat) (listed : Array Bool) (s : St) (a : Act) (w : World), listed.size = ops.size → (unlisted listed (number 0 gs)).length = fuel →
      (∀ i, listed.getD i true = true → ∀ o, ops[i]? = some o → ∀ k ∈ directs o, listed.getD k false = true) →
      wpIts P ((left listed (toItems (number 0 gs) [])).map It.gi) K s → Sim x n s a w → wpAny P .any ops Q fuel listed a w := by
  obtain ⟨hlen, hget⟩ := cOps_get _ _ _ hc
  simp only [okItems, Bool.and_eq_true] at hok
  obtain ⟨hed, hpr⟩ := hok
  have hops : ∀ (i : Nat) (o : Oper), ops[i]? = some o → ops.toList[i]? = some o := fun i o h => by rw [Array.getElem?_toList]; exact h
  have hback : ∀ i o, ops[i]? = some o → ∀ k ∈ directs o, k < i := by
    have : ∀ (l : List Oper) (b i : Nat) (o : Oper), okEdges l b = true → l[i]? = some o → ∀ k ∈ directs o, k < b + i := by
      intro l
      induction l with
      | nil => intro b i o _ h; simp at h
      | cons q l ih =>
        intro b i o hok h k hk
        simp only [okEdges, Bool.and_eq_true, List.all_eq_true, decide_eq_true_eq] at hok
        cases i with
        | zero => simp at h; subst h; exact hok.1 k hk
        | succ i => have := ih (b + 1) i o hok.2 (by simpa using h) k hk; omega
    intro i o h k hk
    have := this ops.toList 0 i o hed (hops i o h) k hk
    omega
  have hdown : ∀ (listed : Array Bool), listed.size = ops.size → (∀ i, listed.getD i true = true → ∀ o, ops[i]? = some o → ∀ k ∈ directs o, listed.getD k false = true) →
      ∀ i o, ops[i]? = some o → (∀ k ∈ directs o, listed.getD k false = true) → ∀ j, ((masks ops.toList []).getD i 0).testBit j = true → listed.getD j false = true := by
    intro listed hsz hcl i
    induction i using Nat.strongRecOn with
    | _ i ih =>
      intro o ho hd j hj
      have := masks_spec ops.toList [] i o (hops i o ho) (by simpa using hed) j (by simpa using hj)
      obtain ⟨k, hk, hlt, h3⟩ := this
      simp at hlt
      have hkl := hd k hk
      rcases h3 with rfl | h3
      · exact hkl
      · have hks : k < ops.size := by
          have : i < ops.size := by
            rcases Nat.lt_or_ge i ops.size with h | h
            · exact h
            · rw [Array.getElem?_eq_none h] at ho; simp at ho
          omega
        refine ih k hlt ops[k] (Array.getElem?_eq_getElem hks) ?_ j h3
        refine hcl k ?_ _ (Array.getElem?_eq_getElem hks)
        have hk2 : k < listed.size := by omega
        simpa [Array.getD_eq_getD_getElem?, hk2] using hkl
  have hready : ∀ (listed : Array Bool), listed.size = ops.size → ∀ i, i ∈ Region.ready .any ops listed ↔ i < ops.size ∧ listed.getD i true = false ∧ ∃ o, ops[i]? = some o ∧ ∀ k ∈ directs o, listed.getD k false = true := by
    intro listed hsz i
    simp only [Region.ready, List.mem_filter, List.mem_range, Bool.and_eq_true, Bool.not_eq_true']
    constructor
    · rintro ⟨h1, h2, h3⟩
      refine ⟨h1, h2, ops[i], Array.getElem?_eq_getElem h1, fun k hk => ?_⟩
      rw [Array.getElem?_eq_getElem h1] at h3
      simp only [Option.map_some, Option.getD_some, Array.all_eq_true', Bool.or_eq_true, Bool.not_eq_true'] at h3
      simp only [directs, List.mem_map, List.mem_filter] at hk
      obtain ⟨e, ⟨he1, he2⟩, rfl⟩ := hk
      rcases h3 e (by simpa using he1) with h | h
      · rw [he2] at h; simp at h
      · exact h
    · rintro ⟨h1, h2, o, ho, h3⟩
      refine ⟨h1, h2, ?_⟩
      rw [ho]
      simp only [Option.map_some, Option.getD_some, Array.all_eq_true', Bool.or_eq_true, Bool.not_eq_true']
      intro e he
      cases hb : Region.binds .any e with
      | false => exact .inl rfl
      | true => exact .inr (h3 e.on (by simp only [directs, List.mem_map, List.mem_filter]; exact ⟨e, ⟨by simpa using he, hb⟩, rfl⟩))
  have hmemN : ∀ i, i < ops.size → ∃ g, (i, g) ∈ number 0 gs ∧ gs[i]? = some g := by
    intro i hi
    have : i < gs.length := by rw [hlen]; simpa using hi
    refine ⟨gs[i], ?_, List.getElem?_eq_getElem this⟩
    have := number_mem 0 gs i gs[i] (List.getElem?_eq_getElem this)
    simpa using this
  intro fuel
  induction fuel with
  | zero =>
    intro listed s a w hsz hl hcl hw sim
    have hnil : unlisted listed (number 0 gs) = [] := List.eq_nil_of_length_eq_zero hl
    refine ⟨?_, ?_⟩
    · apply List.eq_nil_iff_forall_not_mem.2
      intro i hi
      obtain ⟨h1, h2, _⟩ := (hready listed hsz i).1 hi
      obtain ⟨g, hg, _⟩ := hmemN i h1
      have : (i, g) ∈ unlisted listed (number 0 gs) := List.mem_filter.2 ⟨hg, by simpa using h2⟩
      rw [hnil] at this; simp at this
    · have hnl : left listed (toItems (number 0 gs) []) = [] := by
        apply List.eq_nil_iff_forall_not_mem.2
        intro Y hY
        unfold left at hY
        obtain ⟨X, hX, hYX⟩ := List.mem_flatMap.1 hY
        obtain ⟨k1, _⟩ := leftOne_mem hYX
        obtain ⟨y, hy⟩ : ∃ y, y ∈ Y.list := by cases Y <;> simp [It.list]
        obtain ⟨k2, k3⟩ := k1 y hy
        have hyn : y ∈ number 0 gs := by
          have := (toItems_perm (number 0 gs) []).mem_iff.1 (List.mem_flatMap.2 ⟨X, hX, k2⟩)
          simpa using this
        have : y ∈ unlisted listed (number 0 gs) := List.mem_filter.2 ⟨hyn, by simpa using k3⟩
        rw [hnil] at this; simp at this
      rw [hnl] at hw
      exact hq s a w sim hw
  | succ fuel ih =>
    intro listed s a w hsz hl hcl hw sim
    refine ⟨fun hr => ?_, fun i hi => ?_⟩
    ·
      exfalso
      obtain ⟨p, rest, hp⟩ : ∃ p rest, unlisted listed (number 0 gs) = p :: rest := by
        cases h : unlisted listed (number 0 gs) with
        | nil => rw [h] at hl; simp at hl
        | cons p rest => exact ⟨p, rest, rfl⟩
      have hpm : p ∈ unlisted listed (number 0 gs) := by rw [hp]; simp
      obtain ⟨hpn, hpl⟩ := List.mem_filter.1 hpm
      have hpg := (number_get 0 gs p hpn).2
      have hpi : p.1 < ops.size := by
        rcases Nat.lt_or_ge p.1 ops.size with h | h
        · exact h
        · rw [List.getElem?_eq_none (by rw [hlen]; simpa using h)] at hpg; simp at hpg
      have : p.1 ∈ Region.ready .any ops listed := by
        rw [hready listed hsz]
        refine ⟨hpi, by simpa using hpl, ops[p.1], Array.getElem?_eq_getElem hpi, fun k hk => ?_⟩
        have hklt := hback p.1 _ (Array.getElem?_eq_getElem hpi) k hk
        cases hkl : listed.getD k false with
        | true => rfl
        | false =>
          exfalso
          obtain ⟨g, hg, _⟩ := hmemN k (by omega)
          have hkm : (k, g) ∈ unlisted listed (number 0 gs) := List.mem_filter.2 ⟨hg, by
            have : k < listed.size := by omega
            simpa [Array.getD_eq_getD_getElem?, this] using hkl⟩
          have hsrt : (unlisted listed (number 0 gs)).Pairwise fun p q => p.1 < q.1 := (number_sorted 0 gs).sublist List.filter_sublist
          rw [hp] at hsrt hkm
          rw [List.pairwise_cons] at hsrt
          simp only [List.mem_cons] at hkm
          rcases hkm with h | h
          · rw [← h] at hklt; simp at hklt
          · have := hsrt.1 _ h; simp at this; omega
      rw [hr] at this; simp at this
    · obtain ⟨h1, h2, o, ho, h3⟩ := (hready listed hsz i).1 hi
      obtain ⟨g, hg, hgg⟩ := hmemN i h1
      have hm : (i, g) ∈ unlisted listed (number 0 gs) := List.mem_filter.2 ⟨hg, by simpa using h2⟩
      obtain ⟨pre, post, hpp⟩ := List.append_of_mem hm
      obtain ⟨m, hcg⟩ := hget i o g (hops i o ho) hgg
      have hperm := toItems_perm (number 0 gs) []
      rw [List.nil_append] at hperm
      have hnod : (((toItems (number 0 gs) []).flatMap It.list).map (·.1)).Nodup := by
        refine (hperm.map (·.1)).nodup_iff.2 ?_
        have := number_sorted 0 gs
        refine List.Pairwise.map _ (fun p q h => ?_) this
        exact Nat.ne_of_lt h
      have hli : i < listed.size := by omega
      obtain ⟨pre2, Y, rest2, post2, q1, q2, q3, q4⟩ := left_split (P := P) (listed := listed) (i := i) (g := g) hli (by
        simpa [Array.getD_eq_getD_getElem?, hli] using h2) _ hpr hnod (hperm.mem_iff.2 hg)
      rw [q1] at hw
      have hpull := pullIt q3 (fun X hX => ⟨fun x hx => by
        obtain ⟨k1, k2⟩ := (q4 X hX).1 x hx
        rcases k2 with k2 | k2
        · exact k2
        · exfalso
          have := hdown listed hsz hcl i o ho h3 x.1 k2
          have hx2 : x.1 < listed.size := by
            rcases Nat.lt_or_ge x.1 listed.size with h' | h'
            · exact h'
            · simp [Array.getD_eq_getD_getElem?, Array.getElem?_eq_none h'] at this
          simp [Array.getD_eq_getD_getElem?, hx2] at this k1
          rw [this] at k1; simp at k1, (q4 X hX).2⟩) hw
      rw [← q2] at hpull
      have hset := unlisted_set (number_sorted 0 gs) (show i < listed.size by omega) hpp
      refine sound_G ho hcg hpull sim fun s' a' w' sim' hk => ?_
      refine ih (listed.setIfInBounds i true) s' a' w' (by simpa using hsz) ?_ ?_ hk sim'
      · rw [hset]; rw [hpp] at hl; simp at hl ⊢; omega
      · intro j hj o' ho' k hk
        have mono : ∀ k, listed.getD k false = true → (listed.setIfInBounds i true).getD k false = true := by
          intro k hk
          by_cases e : k = i
          · subst e; simp [Array.getD_eq_getD_getElem?, show k < listed.size by omega]
          · rw [Array.getD_eq_getD_getElem?, Array.getElem?_setIfInBounds_ne (fun q => e q.symm), ← Array.getD_eq_getD_getElem?]; exact hk
        by_cases e : j = i
        · subst e
          rw [ho] at ho'
          obtain rfl : o = o' := by simpa using ho'
          exact mono k (h3 k hk)
        · rw [Array.getD_eq_getD_getElem?, Array.getElem?_setIfInBounds_ne (fun q => e q.symm), ← Array.getD_eq_getD_getElem?] at hj
          exact mono k (hcl j hj o' ho' k hk)
theorem region_items {id : Nat} {ms : List Md} {gs : List GI} {s : St} {a : Act} {w : World} (hm : P.follows .mixedOrders = true) (hc : cOps P n ops ops.toList ms = some gs) (hok : okItems ops gs = true)
    (hw : wpIts P ((toItems (number 0 gs) []).map It.gi) K s) (sim : Sim x n s a w) (hq : ∀ s' a' w', Sim x n s' a' w' → K s' → Q .normal a' w') : (Code.region id ops true).wp P Q a w := by
  refine wp_region_any hm ?_
  have hlen := (cOps_get _ _ _ hc).1
  have hun : unlisted (Array.replicate ops.size false) (number 0 gs) = number 0 gs := by
    unfold unlisted
    apply List.filter_eq_self.2
    intro p hp
    have hpg := (number_get 0 gs p hp).2
    have : p.1 < ops.size := by
      rcases Nat.lt_or_ge p.1 ops.size with h | h
      · exact h
      · rw [List.getElem?_eq_none (by rw [hlen]; simpa using h)] at hpg; simp at hpg
    simp [Array.getD_eq_getD_getElem?, this]
  have hl : (number 0 gs).length = ops.size := by
    have := congrArg List.length (number_map 0 gs)
    rw [List.length_map] at this
    rw [this, hlen]; simp
  have hlft : left (Array.replicate ops.size false) (toItems (number 0 gs) []) = toItems (number 0 gs) [] := by
    unfold left
    have key : ∀ its : List (It (Nat × GI)), (∀ x ∈ its.flatMap It.list, x ∈ number 0 gs) → its.flatMap (leftOne (Array.replicate ops.size false)) = its := by
      intro its
      induction its with
      | nil => intro _; rfl
      | cons X its ih =>
        intro hx
        rw [List.flatMap_cons, ih (fun x h => hx x (by simp [h]))]
        have hlt : ∀ x ∈ X.list, (Array.replicate ops.size false).getD x.1 true = false := by
          intro x hxX
          have hpg := (number_get 0 gs x (hx x (by simp [hxX]))).2
          have : x.1 < ops.size := by
            rcases Nat.lt_or_ge x.1 ops.size with h | h
            · exact h
            · rw [List.getElem?_eq_none (by rw [hlen]; simpa using h)] at hpg; simp at hpg
          simp [Array.getD_eq_getD_getElem?, this]
        cases X with
        | one p => simp [leftOne, hlt p (by simp [It.list])]
        | two p q => simp [leftOne, hlt p (by simp [It.list]), hlt q (by simp [It.list])]
    exact key _ (fun x hx => by have := (toItems_perm (number 0 gs) []).mem_iff.1 hx; simpa using this)
  refine any_items hc hok hq ops.size _ s a _ (by simp) (by rw [hun, hl]) (fun i hi o ho => ?_) (by rw [hlft]; exact hw) ?_
  · exfalso
    have : i < ops.size := by
      rcases Nat.lt_or_ge i ops.size with h | h
      · exact h
      · rw [Array.getElem?_eq_none h] at ho; simp at ho
    simp [Array.getD_eq_getD_getElem?, this] at hi
  · obtain ⟨A, μ, OH, Ot, ht, h0, hr, st⟩ := sim
    exact ⟨A, μ, OH, Ot, ht, h0, hr, st.heap rfl ⟨rfl, rfl, rfl⟩⟩
end
end Go.TL
namespace Go.TL
inductive C where
  | skip
  | reg (gs : List GI)
  | par (its : List (It GI))
  | frz (k : Nat)
  | seq (a b : C)
  | cond (x : X) (a b : C)
  | block (id : Nat) (b : C)
  | loop (b : C)
  | exit (id : Nat)
  | ret
  deriving Inhabited
def Exit.flow : Exit → Bool
  | .normal => true
  | .exit _ => true
  | .ret => true
  | _ => false
def thenL (next : St → Prop) (Q : Exit → St → Prop) : Exit → St → Prop
  | .normal, s => next s
  | e, s => Q e s
def inBlockL (id : Nat) (Q : Exit → St → Prop) : Exit → St → Prop
  | .exit id', s => if id' = id then Q .normal s else Q (.exit id') s
  | e, s => Q e s
def frzStep (k : Nat) (s : St) : Option St := match s.t k with
  | .rp _ => some s
  | .sl _ _ _ _ => some s
  | _ => step (.mv k .frz (.t k)) s
theorem frzStep_sim {x : Cx} {n k : Nat} {s s' : St} {a : Act} {w : World} (hk : k < n) (hs : frzStep k s = some s') (sim : Sim x n s a w) : Sim x n s' a w := by
  unfold frzStep at hs
  split at hs
  · simp only [Option.some.injEq] at hs; subst hs; exact sim
  · simp only [Option.some.injEq] at hs; subst hs; exact sim
  · exact ghost_frz hk hs sim
theorem frzStep_frame {k : Nat} {s s' : St} (h : frzStep k s = some s') : ∀ j, j ≠ k → s'.t j = s.t j := by
  unfold frzStep at h
  split at h
  · simp only [Option.some.injEq] at h; subst h; exact fun _ _ => rfl
  · simp only [Option.some.injEq] at h; subst h; exact fun _ _ => rfl
  · exact fun j hj => (step_frame _ s s' h).1 j (by simpa [I.writes, I.dst, I.gives, slots] using hj)
def wpC (P : Program) : C → (Exit → St → Prop) → St → Prop
  | .skip, Q, s => Q .normal s
  | .reg gs, Q, s => wpL P gs (Q .normal) s
  | .par its, Q, s => wpIts P its (Q .normal) s
  | .frz k, Q, s => ∃ s', frzStep k s = some s' ∧ Q .normal s'
  | .seq a b, Q, s => wpC P a (thenL (wpC P b Q) Q) s
  | .cond x a b, Q, s => ∃ v, boolOf (get s.t x) = some v ∧ (v = true → wpC P a Q s) ∧ (v = false → wpC P b Q s)
  | .block id b, Q, s => wpC P b (inBlockL id Q) s
  | .loop b, Q, s => ∃ (I : Nat → St → Prop) (k : Nat), I k s ∧ ∀ k s, I k s → wpC P b (thenL (fun s' => ∃ k' < k, I k' s') Q) s
  | .exit id, Q, s => Q (.exit id) s
  | .ret, Q, s => Q .ret s
section
variable (P : Program) (n : Nat) (md : Nat → List Md)
def frzs : List Md → Nat → C → Option C
  | [], _, c => some c
  | .frz :: ms, k, c => if k < n then (frzs ms (k + 1) c).map fun r => .seq (.frz k) r else none
  | _ :: ms, k, c => frzs ms (k + 1) c
def frzsE : List Md → Nat → C → Option C
  | [], _, c => some c
  | .frz :: ms, k, c => if k < n then frzsE ms (k + 1) (.seq c (.frz k)) else none
  | _ :: ms, k, c => frzsE ms (k + 1) c
def cC : Code → Option C
  | .skip => some .skip
  | .label _ => some .skip
  | .region id ops draw => (cOps P n ops ops.toList (md id)).bind fun gs =>
      (if draw = true then (if okRegion ops gs = true then some (.reg gs) else if okItems ops gs = true then some (.par ((toItems (number 0 gs) []).map It.gi)) else none) else some (.reg gs)).bind fun c => (frzsE n (md (2000000 + id)) 0 c).bind fun c => frzs n (md (1000000 + id)) 0 c
  | .seq a b => (cC a).bind fun x => (cC b).map fun y => .seq x y
  | .cond c a b => (cX P n 0 c).bind fun z => (cC a).bind fun x => (cC b).map fun y => .cond z x y
  | .block id b => (cC b).map fun x => .block id x
  | .loop b => (cC b).map fun x => .loop x
  | .scope b => cC b
  | .exit id => some (.exit id)
  | .ret => some .ret
  | _ => none
end
section
variable {P : Program} {x : Cx} {n : Nat} {md : Nat → List Md}
def QR (x : Cx) (n : Nat) (Q : Exit → St → Prop) : Exit → Act → World → Prop := fun e a w => Exit.flow e = true ∧ ∃ s, Sim x n s a w ∧ Q e s
theorem wp_loop_rel {c : Code} {Q : Exit → Act → World → Prop} (I : Nat → Act → World → Prop) (round : ∀ k a w, I k a w → c.wp P (Exit.then (fun a' w' => ∃ k' < k, I k' a' w') Q) a w) :
    ∀ (k : Nat) (a : Act) (w : World), I k a w → (Code.loop c).wp P Q a w := by
  intro k a w h b kk cs
  have key : ∀ k a w, I k a w → ∃ e a' w', Q e a' w' ∧ Arrives P (lone (b.at a (.code c :: .inLoop c :: kk)) cs w) b kk cs e a' w' := by
    intro k
    induction k using Nat.strongRecOn with
    | _ k ih =>
      intro a w hI
      obtain ⟨e, a₁, w₁, hq, harr⟩ := round k a w hI b (.inLoop c :: kk) cs
      cases e with
      | normal =>
        obtain ⟨k', hlt, hI₁⟩ := hq
        obtain ⟨e₂, a₂, w₂, hq₂, harr₂⟩ := ih k' hlt a₁ w₁ hI₁
        exact ⟨e₂, a₂, w₂, hq₂, .of_steps (Steps.trans harr (.one step_inLoop)) harr₂⟩
      | exit id => exact ⟨_, a₁, w₁, hq, .pass (x := .inLoop c) rfl (fun _ _ => .inl (by simp)) harr⟩
      | goto l => exact ⟨_, a₁, w₁, hq, .pass (x := .inLoop c) rfl (fun _ _ => .inl (by simp)) harr⟩
      | ret => exact ⟨_, a₁, w₁, hq, .pass (x := .inLoop c) rfl (fun _ _ => .inl (by simp)) harr⟩
      | panic ch => exact ⟨_, a₁, w₁, hq, .pass (x := .inLoop c) rfl (fun _ _ => .inl (by simp)) harr⟩
      | outgrown => exact ⟨_, a₁, w₁, hq, .pass (x := .inLoop c) rfl (fun _ _ => .inl (by simp)) harr⟩
  obtain ⟨e, a', w', hq, harr⟩ := key k a w h
  exact ⟨e, a', w', hq, .of_steps (.one step_loop) harr⟩
theorem then_QR {next : St → Prop} {R : Act → World → Prop} {Q : Exit → St → Prop} (h : ∀ a w s, Sim x n s a w → next s → R a w) (e : Exit) (a : Act) (w : World)
    (hq : QR x n (thenL next Q) e a w) : Exit.then R (QR x n Q) e a w := by
  obtain ⟨hf, s, hs, hk⟩ := hq
  cases e with
  | normal => exact h a w s hs hk
  | exit id => exact ⟨rfl, s, hs, hk⟩
  | ret => exact ⟨rfl, s, hs, hk⟩
  | _ => simp [Exit.flow] at hf
theorem frzs_sound {code : Code} : ∀ (ms : List Md) (j : Nat) (c k : C) (Q : Exit → St → Prop) (s : St) (a : Act) (w : World), frzs n ms j c = some k → wpC P k Q s → Sim x n s a w →
    (∀ s a w, wpC P c Q s → Sim x n s a w → code.wp P (QR x n Q) a w) → code.wp P (QR x n Q) a w
  | [], j, c, k, Q, s, a, w, hz, hw, sim, hk => by
    simp only [frzs, Option.some.injEq] at hz
    subst hz
    exact hk s a w hw sim
  | .frz :: ms, j, c, k, Q, s, a, w, hz, hw, sim, hk => by
    simp only [frzs] at hz
    split at hz
    · rename_i hj
      simp only [Option.map_eq_some_iff] at hz
      obtain ⟨r, hr, rfl⟩ := hz
      obtain ⟨s', h1, h2⟩ := hw
      exact frzs_sound ms (j + 1) c r Q s' a w hr h2 (frzStep_sim hj h1 sim) hk
    · simp at hz
  | .copy :: ms, j, c, k, Q, s, a, w, hz, hw, sim, hk => frzs_sound ms (j + 1) c k Q s a w (by simpa [frzs] using hz) hw sim hk
  | .take :: ms, j, c, k, Q, s, a, w, hz, hw, sim, hk => frzs_sound ms (j + 1) c k Q s a w (by simpa [frzs] using hz) hw sim hk
  | .own :: ms, j, c, k, Q, s, a, w, hz, hw, sim, hk => frzs_sound ms (j + 1) c k Q s a w (by simpa [frzs] using hz) hw sim hk
  | .part _ :: ms, j, c, k, Q, s, a, w, hz, hw, sim, hk => frzs_sound ms (j + 1) c k Q s a w (by simpa [frzs] using hz) hw sim hk
theorem frzsE_sound {code : Code} : ∀ (ms : List Md) (j : Nat) (c k : C) (Q : Exit → St → Prop) (s : St) (a : Act) (w : World), frzsE n ms j c = some k → wpC P k Q s → Sim x n s a w →
    (∀ Q s a w, wpC P c Q s → Sim x n s a w → code.wp P (QR x n Q) a w) → code.wp P (QR x n Q) a w
  | [], j, c, k, Q, s, a, w, hz, hw, sim, hk => by
    simp only [frzsE, Option.some.injEq] at hz
    subst hz
    exact hk Q s a w hw sim
  | .frz :: ms, j, c, k, Q, s, a, w, hz, hw, sim, hk => by
    simp only [frzsE] at hz
    split at hz
    · rename_i hj
      refine frzsE_sound ms (j + 1) _ k Q s a w hz hw sim fun Q s a w hw sim => ?_
      refine wp_mono (hk _ s a w hw sim) fun e a' w' he => ?_
      obtain ⟨hf, s1, hs1, hq⟩ := he
      cases e with
      | normal =>
        obtain ⟨s2, h1, h2⟩ := hq
        exact ⟨rfl, s2, frzStep_sim hj h1 hs1, h2⟩
      | exit id => exact ⟨rfl, s1, hs1, hq⟩
      | ret => exact ⟨rfl, s1, hs1, hq⟩
      | _ => simp [Exit.flow] at hf
    · simp at hz
  | .copy :: ms, j, c, k, Q, s, a, w, hz, hw, sim, hk => frzsE_sound ms (j + 1) c k Q s a w (by simpa [frzsE] using hz) hw sim hk
  | .take :: ms, j, c, k, Q, s, a, w, hz, hw, sim, hk => frzsE_sound ms (j + 1) c k Q s a w (by simpa [frzsE] using hz) hw sim hk
  | .own :: ms, j, c, k, Q, s, a, w, hz, hw, sim, hk => frzsE_sound ms (j + 1) c k Q s a w (by simpa [frzsE] using hz) hw sim hk
  | .part _ :: ms, j, c, k, Q, s, a, w, hz, hw, sim, hk => frzsE_sound ms (j + 1) c k Q s a w (by simpa [frzsE] using hz) hw sim hk
theorem code_sound (hm : P.follows .mixedOrders = true) : ∀ (c : Code) (k : C) (Q : Exit → St → Prop) (s : St) (a : Act) (w : World), cC P n md c = some k → wpC P k Q s → Sim x n s a w → c.wp P (QR x n Q) a w
  | .skip, k, Q, s, a, w, hc, hw, sim => by
    simp only [cC, Option.some.injEq] at hc
    subst hc
    exact wp_skip ⟨rfl, s, sim, hw⟩
  | .label l, k, Q, s, a, w, hc, hw, sim => by
    simp only [cC, Option.some.injEq] at hc
    subst hc
    exact wp_label ⟨rfl, s, sim, hw⟩
  | .region id ops draw, k, Q, s, a, w, hc, hw, sim => by
    simp only [cC, Option.bind_eq_some_iff] at hc
    obtain ⟨gs, hgs, c, hc, c2, hz2, hz⟩ := hc
    refine frzs_sound (md (1000000 + id)) 0 c2 k Q s a w hz hw sim fun s a w hw sim => ?_
    refine frzsE_sound (md (2000000 + id)) 0 c c2 Q s a w hz2 hw sim fun Q s a w hw sim => ?_
    cases draw with
    | true =>
      rw [if_pos rfl] at hc
      split at hc
      · rename_i hok
        simp only [Option.some.injEq] at hc
        subst hc
        exact region_any hm hgs hok hw sim fun s' a' w' hs hk => ⟨rfl, s', hs, hk⟩
      · split at hc
        · rename_i hok
          simp only [Option.some.injEq] at hc
          subst hc
          exact region_items hm hgs hok hw sim fun s' a' w' hs hk => ⟨rfl, s', hs, hk⟩
        · simp at hc
    | false =>
      rw [if_neg (by simp)] at hc
      simp only [Option.some.injEq] at hc
      subst hc
      exact region_sound hgs hw sim fun s' a' w' hs hk => ⟨rfl, s', hs, hk⟩
  | .seq c d, k, Q, s, a, w, hc, hw, sim => by
    simp only [cC, Option.bind_eq_some_iff, Option.map_eq_some_iff] at hc
    obtain ⟨p, hp, q, hq, rfl⟩ := hc
    exact wp_seq (wp_mono (code_sound hm c p _ s a w hp hw sim) (then_QR fun a' w' s' hs hk => code_sound hm d q Q s' a' w' hq hk hs))
  | .cond z c d, k, Q, s, a, w, hc, hw, sim => by
    simp only [cC, Option.bind_eq_some_iff, Option.map_eq_some_iff] at hc
    obtain ⟨y, hy, p, hp, q, hq, rfl⟩ := hc
    obtain ⟨v, hv, h1, h2⟩ := hw
    have sim' := sim
    obtain ⟨A, μ, OH, Ot, ht, h0, hr, st⟩ := sim
    refine wp_cond_split (boolOf_rep hv (get_rep (cX_ok hy) hr)) (fun e => code_sound hm c p Q s a w hp (h1 e) sim') (fun e => code_sound hm d q Q s a w hq (h2 e) sim')
  | .block id c, k, Q, s, a, w, hc, hw, sim => by
    simp only [cC, Option.map_eq_some_iff] at hc
    obtain ⟨p, hp, rfl⟩ := hc
    refine wp_block (wp_mono (code_sound hm c p _ s a w hp hw sim) fun e a' w' he => ?_)
    obtain ⟨hf, s', hs, hk⟩ := he
    cases e with
    | normal => exact ⟨rfl, s', hs, hk⟩
    | ret => exact ⟨rfl, s', hs, hk⟩
    | exit id' =>
      simp only [inBlockL] at hk
      simp only [Exit.inBlock]
      by_cases hid : id' = id
      · rw [if_pos hid] at hk ⊢; exact ⟨rfl, s', hs, hk⟩
      · rw [if_neg hid] at hk ⊢; exact ⟨rfl, s', hs, hk⟩
    | _ => simp [Exit.flow] at hf
  | .loop c, k, Q, s, a, w, hc, hw, sim => by
    simp only [cC, Option.map_eq_some_iff] at hc
    obtain ⟨p, hp, rfl⟩ := hc
    obtain ⟨I, k0, h0, hround⟩ := hw
    refine wp_loop_rel (fun k a w => ∃ s, Sim x n s a w ∧ I k s) (fun k a w hI => ?_) k0 a w ⟨s, sim, h0⟩
    obtain ⟨s', hs, hk⟩ := hI
    exact wp_mono (code_sound hm c p _ s' a w hp (hround k s' hk) hs) (then_QR fun a' w' s2 hs2 hk2 => by
      obtain ⟨k', hlt, hk'⟩ := hk2
      exact ⟨k', hlt, s2, hs2, hk'⟩)
  | .scope c, k, Q, s, a, w, hc, hw, sim => by
    simp only [cC] at hc
    refine wp_scope_straight (wp_mono (code_sound hm c k Q s a w hc hw sim) fun e a' w' he => ?_)
    obtain ⟨hf, s', hs, hk⟩ := he
    cases e with
    | goto l => simp [Exit.flow] at hf
    | _ => exact ⟨hf, s', hs, hk⟩
  | .exit id, k, Q, s, a, w, hc, hw, sim => by
    simp only [cC, Option.some.injEq] at hc
    subst hc
    exact wp_exit ⟨rfl, s, sim, hw⟩
  | .ret, k, Q, s, a, w, hc, hw, sim => by
    simp only [cC, Option.some.injEq] at hc
    subst hc
    exact wp_ret ⟨rfl, s, sim, hw⟩
  | .rangeFunc _ _ _ _, k, Q, s, a, w, hc, hw, sim => by simp [cC] at hc
  | .goto _, k, Q, s, a, w, hc, hw, sim => by simp [cC] at hc
  | .refuse _, k, Q, s, a, w, hc, hw, sim => by simp [cC] at hc
end
inductive RV where
  | tmp (t : Nat)
  | cell (t : Nat) (agg : Bool) (sz : Nat)
def rvVal (s : St) : RV → Option (LV × St)
  | .tmp t => some (s.t t, { s with t := upd s.t t (share (s.t t)) })
  | .cell t agg sz => match s.t t with
    | .ptr l 0 => match s.h[l]? with
      | some (some xs) => if sz = xs.length then match ofCells agg xs with
        | some v => some (v, { s with h := s.h.set l (some (shareAll xs)) })
        | none => none
        else none
      | _ => none
    | _ => none
def rvVals (s : St) : List RV → Option (List LV × St)
  | [] => some ([], s)
  | r :: rs => match rvVal s r with
    | some (v, s') => match rvVals s' rs with
      | some (vs, s'') => some (v :: vs, s'')
      | none => none
    | none => none
def pack : List LV → LV
  | [v] => v
  | vs => .tup vs
section
variable (P : Program) (n : Nat)
def rvOf : List ResultVar → Option (List RV)
  | [] => some []
  | .tmp t :: rs => if t < n then (rvOf rs).map fun l => .tmp t :: l else none
  | .cell t ty :: rs => if t < n then (isAggB P ty).bind fun a => (sz? P ty).bind fun s => (rvOf rs).map fun l => .cell t a s :: l else none
end
section
variable {P : Program} {x : Cx} {n : Nat}
def readRV (tmps : Array Value) : ResultVar → Sem Value
  | .tmp t => pure (tmps.getD t undef)
  | .cell a t => do loadVar t (← asAddr (tmps.getD a undef))
theorem rvVals_sound {a : Act} {w : World} {A : GM} {μ : List Nat} : ∀ (rs : List ResultVar) (rvs : List RV) (s s' : St) (vs : List LV) (OH : List (List Own)) (Ot : Nat → List Own), rvOf P n rs = some rvs → rvVals s rvs = some (vs, s') →
    (∀ i, i < n → Rep A μ (s.t i) (a.tmps.getD i undef) (Ot i)) → ∀ (O E : List Own), St' x w A μ s.h OH O → (∀ p : Own → Bool, (allO n Ot).countP p + E.countP p ≤ O.countP p) →
    ∃ vals OH' Ov O', (rs.mapM (readRV a.tmps)).run P w = .ok vals w ∧ RepVals A μ vs vals Ov ∧ St' x w A μ s'.h OH' O' ∧ (∀ p : Own → Bool, Ov.countP p + E.countP p ≤ O'.countP p)
  | [], rvs, s, s', vs, OH, Ot, h1, h2, hr, O, E, st, hf => by
    simp only [rvOf, Option.some.injEq] at h1
    subst h1
    simp only [rvVals, Option.some.injEq, Prod.mk.injEq] at h2
    obtain ⟨rfl, rfl⟩ := h2
    exact ⟨[], OH, [], O, by simp, by simp [RepVals], st, fun p => by have := hf p; simp; omega⟩
  | .tmp t :: rs, rvs, s, s', vs, OH, Ot, h1, h2, hr, O, E, st, hf => by
    simp only [rvOf] at h1
    split at h1
    · rename_i ht
      simp only [Option.map_eq_some_iff] at h1
      obtain ⟨l, hl, rfl⟩ := h1
      simp only [rvVals, rvVal] at h2
      split at h2
      · rename_i vs2 s2 hrest
        simp only [Option.some.injEq, Prod.mk.injEq] at h2
        obtain ⟨rfl, rfl⟩ := h2
        obtain ⟨vals, OH', Ov, O', g1, g2, g3, g4⟩ := rvVals_sound rs l { s with t := upd s.t t (share (s.t t)) } s2 vs2 OH (upd Ot t []) hl hrest (fun i hi => by
          by_cases e : i = t
          · subst e; simp only [upd_same]; exact Rep.share _ _ _ (hr i hi)
          · simp only [upd_other _ _ _ e]; exact hr i hi) O (Ot t ++ E) st (fun p => by
          have k1 := count_upd p Ot t [] n ht
          have k2 := hf p
          simp only [List.countP_append, List.countP_nil] at k1 ⊢
          omega)
        refine ⟨a.tmps.getD t undef :: vals, OH', Ot t ++ Ov, O', ?_, ?_, g3, fun p => ?_⟩
        · simp only [List.mapM_cons, readRV, pure_bind, Sem.run_bind, g1]; rfl
        · simp only [RepVals]; exact ⟨_, vals, Ot t, Ov, rfl, rfl, hr t ht, g2⟩
        · have := g4 p
          simp only [List.countP_append] at this ⊢
          omega
      · simp at h2
    · simp at h1
  | .cell t ty :: rs, rvs, s, s', vs, OH, Ot, h1, h2, hr, O, E, st, hf => by
    simp only [rvOf] at h1
    split at h1
    · rename_i ht
      simp only [Option.bind_eq_some_iff, Option.map_eq_some_iff] at h1
      obtain ⟨agg, hagg, sz, hsz, l, hl, rfl⟩ := h1
      simp only [rvVals, rvVal] at h2
      split at h2
      · rename_i v s1 hv
        split at hv
        · rename_i lb hptr
          split at hv
          · rename_i xs hxs
            split at hv
            · rename_i hlen
              split at hv
              · rename_i v' hof
                simp only [Option.some.injEq, Prod.mk.injEq] at hv
                obtain ⟨rfl, rfl⟩ := hv
                split at h2
                · rename_i vs2 s2 hrest
                  simp only [Option.some.injEq, Prod.mk.injEq] at h2
                  obtain ⟨rfl, rfl⟩ := h2
                  have hp := hr t ht
                  rw [hptr] at hp
                  simp only [Rep] at hp
                  obtain ⟨c, e, hc, hrep, hone⟩ := st.inv.box lb xs hxs
                  have hcl := hrep.length
                  obtain ⟨u, hu, hue, hu1⟩ := ofCells_rep hof hrep hone
                  have hrun := load_run (P := P) (w := w) (b := μ.getD lb 0) (off := 0) (vs := c.toList) hagg hsz (by rw [hcl, hlen]) (fun j v hj => by
                    rw [cell_of_block hc, ← Array.getElem?_toList, Nat.zero_add]; exact hj) (fun h => ⟨u, hu1 h⟩)
                  rw [← hue] at hrun
                  have hll : lb < s.h.length := by
                    rcases Nat.lt_or_ge lb s.h.length with g | g
                    · exact g
                    · rw [List.getElem?_eq_none g] at hxs; simp at hxs
                  have st2 := st.setBox hxs c e (shareAll xs) [] (O ++ OH.getD lb []) (RepVals.share _ _ _ hrep) hone (fun p => by simp [List.countP_append])
                  rw [heap_set_self hc] at st2
                  obtain ⟨vals, OH', Ov, O', g1, g2, g3, g4⟩ := rvVals_sound rs l { s with h := s.h.set lb (some (shareAll xs)) } s2 vs2 (OH.set lb []) Ot hl hrest hr (O ++ OH.getD lb []) (OH.getD lb [] ++ E) st2 (fun p => by
                    have k2 := hf p
                    simp only [List.countP_append]
                    omega)
                  refine ⟨u :: vals, OH', OH.getD lb [] ++ Ov, O', ?_, ?_, g3, fun p => ?_⟩
                  · simp only [List.mapM_cons, readRV, Sem.run_bind, hp.2.2, asAddr, Sem.run_pure, Result.andThen_ok, hrun, g1]
                  · simp only [RepVals]; exact ⟨u, vals, _, Ov, rfl, rfl, hu, g2⟩
                  · have := g4 p
                    simp only [List.countP_append] at this ⊢
                    omega
                · simp at h2
              · simp at hv
            · simp at hv
          · simp at hv
        · simp at hv
      · simp at h2
    · simp at h1
def packV : List Value → Value
  | [v] => v
  | vs => .tuple vs.toArray
theorem results_run {fn : Func} {tmps : Array Value} {w : World} {vals : List Value} (h : (fn.results.toList.mapM (readRV tmps)).run P w = .ok vals w) :
    (results fn tmps).run P w = .ok (packV vals) w := by
  have e : (fn.results.mapM (readRV tmps)).run P w = .ok vals.toArray w := by
    rw [Array.mapM_eq_mapM_toList]
    simp [h]
  have e2 : results fn tmps = (do let vs ← fn.results.mapM (readRV tmps); pure (if h : vs.size = 1 then vs[0] else .tuple vs)) := by
    unfold results
    congr 1
  rw [e2, Sem.run_bind, e]
  simp only [Result.andThen_ok, Sem.run_pure]
  congr 1
  match vals with
  | [] => simp [packV]
  | [v] => simp [packV]
  | v :: u :: vs => simp [packV]
theorem pack_rep {A : GM} {μ : List Nat} {vs : List LV} {vals : List Value} {O : List Own} (h : RepVals A μ vs vals O) : Rep A μ (pack vs) (packV vals) O := by
  have hl := h.length
  match vs, vals, hl with
  | [], [], _ => simp only [pack, packV, Rep]; exact ⟨[], rfl, h⟩
  | [x], [v], _ =>
    simp only [RepVals] at h
    obtain ⟨v', ws, O1, O2, he, rfl, h1, h2, rfl⟩ := h
    simp only [List.cons.injEq] at he
    obtain ⟨rfl, rfl⟩ := he
    simpa [pack, packV] using h1
  | x :: y :: xs, v :: u :: ws, _ => simp only [pack, packV, Rep]; exact ⟨_, rfl, h⟩
def env (args : List LV) : Nat → LV := fun i => args.getD i .dead
theorem env_rep {A : GM} {μ : List Nat} : ∀ (args : List LV) (vals : List Value) (Oa : List Own) (m : Nat), RepVals A μ args vals Oa → args.length ≤ m →
    ∃ Ot : Nat → List Own, (∀ i, Rep A μ (env args i) (vals.getD i undef) (Ot i)) ∧ allO m Ot = Oa
  | [], vals, Oa, m, h, _ => by
    simp only [RepVals] at h
    obtain ⟨rfl, rfl⟩ := h
    exact ⟨fun _ => [], fun i => by simp [env, Rep], allO_nil m⟩
  | x :: xs, vals, Oa, 0, h, hm => by simp at hm
  | x :: xs, vals, Oa, m + 1, h, hm => by
    simp only [RepVals] at h
    obtain ⟨v, ws, O1, O2, rfl, rfl, h1, h2⟩ := h
    obtain ⟨Ot, g1, g2⟩ := env_rep xs ws O2 m h2 (by simpa using hm)
    refine ⟨fun i => match i with | 0 => O1 | i + 1 => Ot i, fun i => ?_, ?_⟩
    · cases i with
      | zero => simpa [env] using h1
      | succ i => simpa [env] using g1 i
    · simp only [allO, List.range_succ_eq_map, List.flatMap_cons, List.flatMap_map]
      rw [← g2]; rfl
def Post (rvs : List RV) (m : Nat) (R : LV → List Box → Prop) : Exit → St → Prop := fun e s => (e = .normal ∨ e = .ret) ∧
  ∃ vs s' k, rvVals s rvs = some (vs, s') ∧ m ≤ k ∧ k ≤ s'.h.length ∧ (k = s'.h.length ∨ (Low k (pack vs) ∧ ∀ l xs, l < k → s'.h[l]? = some (some xs) → LowAll k xs)) ∧ R (pack vs) (s'.h.take k)
theorem LCalls.of_code {f : FuncId} {fn : Func} {c : Code} {k : C} {md : Nat → List Md} {rvs : List RV} {args : List LV} {h : List Box} {R : LV → List Box → Prop} (hm : P.follows .mixedOrders = true)
    (hcal : callable P f = true) (hf : P.funcs[f]? = some fn) (hb : fn.body = some c) (hc : cC P fn.ntmps md c = some k) (hrv : rvOf P fn.ntmps fn.results.toList = some rvs) (hlen : args.length ≤ fn.ntmps)
    (hex : ∃ r h', R r h') (hw : wpC P k (Post rvs h.length R) { t := env args, h := h }) : LCalls P f args h R := by
  refine ⟨hcal, hex, fun w A μ OH vals Oa hv hi => ?_⟩
  refine calls_of_wp hf hb ?_
  have hvl := hv.length
  obtain ⟨Ot, hot, hall⟩ := env_rep args vals Oa fn.ntmps hv hlen
  have sim : Sim (CallCx w A μ h OH Oa) fn.ntmps { t := env args, h := h } { tmps := vals.toArray ++ Array.replicate (fn.ntmps - vals.toArray.size) undef, defers := [] } w := by
    refine ⟨A, μ, OH, Ot, by simp; omega, rfl, fun i hi' => ?_, ?_⟩
    · have : (vals.toArray ++ Array.replicate (fn.ntmps - vals.toArray.size) undef).getD i undef = vals.getD i undef := by
        rw [Array.getD_eq_getD_getElem?, List.getD_eq_getElem?_getD, Array.getElem?_append]
        by_cases hlt : i < vals.length
        · simp [hlt]
        · rw [if_neg (by simpa using hlt)]
          simp at hlt ⊢
          simp [List.getElem?_eq_none hlt, Array.getElem?_replicate]
          split <;> rfl
      rw [this]
      exact hot i
    · rw [hall]
      exact ⟨hi, ⟨Nat.le_refl _, fun b _ _ => ⟨rfl, fun _ => rfl⟩, fun b m c' hm' => .inr (.inr ⟨m, c', hm'⟩), fun b hl => .inr (.inl hl), fun _ _ _ h => h, ⟨[], by simp [CallCx]⟩, ⟨rfl, rfl, rfl⟩⟩⟩
  refine wp_mono (code_sound hm c k _ _ _ w hc hw sim) fun e a' w' he => ?_
  obtain ⟨_, s, hs, hp⟩ := he
  have core : a'.defers = [] ∧ ∃ v, (results fn a'.tmps).run P w' = .ok v w' ∧ Ends w A μ h OH Oa R (.returned v) w' := by
    obtain ⟨_, vs, s', kk, hrvs, hk1, hk2, hlow, hR⟩ := hp
    obtain ⟨B, μ', OH', Ot', ht', h0', hr', st'⟩ := hs
    obtain ⟨vals', OH2, Ov, O', g1, g2, g3, g4⟩ := rvVals_sound (P := P) (x := CallCx w A μ h OH Oa) fn.results.toList rvs s s' vs OH' Ot' hrv hrvs hr' (allO fn.ntmps Ot') [] st' (fun p => by simp)
    refine ⟨h0', _, results_run g1, ?_⟩
    obtain ⟨ν, hν⟩ := g3.since.ext
    have hμl : μ.length = h.length := hi.len
    have hμ0 : (CallCx w A μ h OH Oa).μ0 = μ := rfl
    have st1 := g3.fewer (O' := Ov) (fun p => by have := g4 p; simp at this; omega)
    have st2 : St' (CallCx w A μ h OH Oa) w' B (μ'.take kk) (s'.h.take kk) (OH2.take kk) Ov := by
      rcases hlow with e | ⟨_, hlowh⟩
      · rw [List.take_of_length_le (by have := g3.inv.len; omega), List.take_of_length_le (by omega), List.take_of_length_le (by have := g3.inv.lenO; omega)]
        exact st1
      · exact st1.cut kk (by rw [hμ0]; omega) hlowh hk2
    have hμk : μ'.take kk = μ ++ ν.take (kk - μ.length) := by
      rw [hν, hμ0, List.take_append, List.take_of_length_le (by omega)]
    have hl' := g3.inv.len
    refine ⟨_, pack vs, s'.h.take kk, B, ν.take (kk - μ.length), OH2.take kk, Ov, rfl, hR, ?_, ?_⟩
    · rw [← hμk]
      rcases hlow with e | ⟨hlow, _⟩
      · rw [List.take_of_length_le (by omega)]
        exact pack_rep g2
      · exact Rep.low (k := kk) (by simp; omega) (fun l hl => by rw [List.getD_eq_getElem?_getD, List.getElem?_take, if_pos hl, ← List.getD_eq_getElem?_getD]) _ _ _ hlow (pack_rep g2)
    · rw [← hμk]; exact st2
  rcases hp.1 with rfl | rfl
  · exact core
  · exact core
end
end Go.TL
namespace Go.TL
section
variable {P : Program}
theorem Gives.of_code {f : FuncId} {fn : Func} {c : Code} {k : C} {md : Nat → List Md} {rvs : List RV} {args : List LV} {R : LV → Prop} (hm : P.follows .mixedOrders = true)
    (hcal : callable P f = true) (hf : P.funcs[f]? = some fn) (hb : fn.body = some c) (hc : cC P fn.ntmps md c = some k) (hrv : rvOf P fn.ntmps fn.results.toList = some rvs) (hlen : args.length ≤ fn.ntmps)
    (hex : ∃ r, R r ∧ Low 0 r)
    (hw : wpC P k (fun e s => (e = .normal ∨ e = .ret) ∧ ∃ vs s', rvVals s rvs = some (vs, s') ∧ Low 0 (pack vs) ∧ R (pack vs)) { t := env args, h := [] }) : Gives P f args R := by
  refine LCalls.of_code hm hcal hf hb hc hrv hlen (by obtain ⟨r, hr⟩ := hex; exact ⟨r, [], hr⟩) (wpC_mono k hw fun e s hs => ?_)
  obtain ⟨he, vs, s', h1, h2, h3⟩ := hs
  exact ⟨he, vs, s', 0, h1, Nat.zero_le _, Nat.zero_le _, .inr ⟨h2, fun l xs hl => by omega⟩, h3, h2⟩
where
  wpL_mono : ∀ (gs : List GI) {Q Q' : St → Prop} {s : St}, wpL P gs Q s → (∀ s, Q s → Q' s) → wpL P gs Q' s
    | [], _, _, s, h, hq => hq s h
    | g :: gs, _, _, s, h, hq => wpG_mono h fun s' hs' => wpL_mono gs hs' hq
  wpC_mono : ∀ (k : C) {Q Q' : Exit → St → Prop} {s : St}, wpC P k Q s → (∀ e s, Q e s → Q' e s) → wpC P k Q' s
    | .skip, _, _, s, h, hq => hq _ s h
    | .reg gs, _, _, s, h, hq => wpL_mono gs h (hq _)
    | .par its, _, _, s, h, hq => wpIts_mono its h (hq _)
    | .frz k, _, _, s, h, hq => by
      obtain ⟨s', h1, h2⟩ := h
      exact ⟨s', h1, hq _ s' h2⟩
    | .seq a b, _, _, s, h, hq => wpC_mono a h fun e s hs => by
      cases e <;> first | exact wpC_mono b hs hq | exact hq _ _ hs
    | .cond x a b, _, _, s, h, hq => by
      obtain ⟨v, h1, h2, h3⟩ := h
      exact ⟨v, h1, fun e => wpC_mono a (h2 e) hq, fun e => wpC_mono b (h3 e) hq⟩
    | .block id b, _, _, s, h, hq => wpC_mono b h fun e s hs => by
      cases e <;> first | exact hq _ _ hs | skip
      simp only [inBlockL] at hs ⊢
      split
      · rename_i hid; rw [if_pos hid] at hs; exact hq _ _ hs
      · rename_i hid; rw [if_neg hid] at hs; exact hq _ _ hs
    | .loop b, _, _, s, h, hq => by
      obtain ⟨I, k, h1, h2⟩ := h
      exact ⟨I, k, h1, fun k s hk => wpC_mono b (h2 k s hk) fun e s hs => by
        cases e <;> first | exact hs | exact hq _ _ hs⟩
    | .exit id, _, _, s, h, hq => hq _ s h
    | .ret, _, _, s, h, hq => hq _ s h
end
end Go.TL
namespace Go.TL
def mdOf (l : List (Nat × List Md)) (id : Nat) : List Md := match l with
  | [] => []
  | (i, ms) :: l => if i = id then ms else mdOf l id
def codeOf (P : Program) (f : FuncId) (m : List (Nat × List Md)) : Option (C × List RV × Nat) :=
  if callable P f = true then match P.funcs[f]? with
    | some fn => match fn.body with
      | some c => match cC P fn.ntmps (mdOf m) c, rvOf P fn.ntmps fn.results.toList with
        | some k, some rv => some (k, rv, fn.ntmps)
        | _, _ => none
      | none => none
    | none => none
  else none
instance : Inhabited St := ⟨⟨fun _ => .dead, []⟩⟩
abbrev N (n : Int) : LV := .sc (.int .i64 n)
abbrev B (b : Bool) : LV := .sc (.bool b)
theorem Gives.of_codeOf {P : Program} {f : FuncId} {m : List (Nat × List Md)} {k : C} {rvs : List RV} {n : Nat} {args : List LV} {R : LV → Prop} (hc : codeOf P f m = some (k, rvs, n)) (hm : P.follows .mixedOrders = true)
    (hlen : args.length ≤ n) (hex : ∃ r, R r ∧ Low 0 r)
    (hw : wpC P k (fun e s => (e = .normal ∨ e = .ret) ∧ ∃ vs s', rvVals s rvs = some (vs, s') ∧ Low 0 (pack vs) ∧ R (pack vs)) { t := env args, h := [] }) : Gives P f args R := by
  unfold codeOf at hc
  split at hc
  · rename_i hcal
    split at hc
    · rename_i fn hf
      split at hc
      · rename_i c hb
        split at hc
        · rename_i k' rv' h1 h2
          simp only [Option.some.injEq, Prod.mk.injEq] at hc
          obtain ⟨rfl, rfl, rfl⟩ := hc
          exact Gives.of_code hm hcal hf hb h1 h2 hlen hex hw
        · simp at hc
      · simp at hc
    · simp at hc
  · simp at hc
theorem LCalls.of_codeOf {P : Program} {f : FuncId} {m : List (Nat × List Md)} {k : C} {rvs : List RV} {n : Nat} {args : List LV} {h : List Box} {R : LV → List Box → Prop} (hc : codeOf P f m = some (k, rvs, n)) (hm : P.follows .mixedOrders = true)
    (hlen : args.length ≤ n) (hex : ∃ r h', R r h') (hw : wpC P k (Post rvs h.length R) { t := env args, h := h }) : LCalls P f args h R := by
  unfold codeOf at hc
  split at hc
  · rename_i hcal
    split at hc
    · rename_i fn hf
      split at hc
      · rename_i c hb
        split at hc
        · rename_i k' rv' h1 h2
          simp only [Option.some.injEq, Prod.mk.injEq] at hc
          obtain ⟨rfl, rfl, rfl⟩ := hc
          exact LCalls.of_code hm hcal hf hb h1 h2 hlen hex hw
        · simp at hc
      · simp at hc
    · simp at hc
  · simp at hc
def onSt (o : Option St) (K : St → Prop) : Prop := ∃ s, o = some s ∧ K s
class Bx where
  out : Prop
def onBool (o : Option Bool) (w : Bool) [p : Bx] [q : Bx] : Prop := ∃ b, o = some b ∧ (b = w → p.out) ∧ (¬ b = w → q.out)
def onFn (P : Program) (rw : Rw) (v : LV) (vals : List LV) (d : Option Nat) (K : St → Prop) (s : St) : Prop :=
  ∃ fid ws, fnArgs v vals = some (fid, ws) ∧ callWp P rw fid ws s.h (fun r h' => K (putcall s d r h'))
def onCall (P : Program) (rw : Rw) (f : FuncId) (vals : List LV) (d : Option Nat) (K : St → Prop) (s : St) : Prop :=
  callWp P rw f vals s.h (fun r h' => K (putcall s d r h'))
@[congr] theorem onFn_congr {P : Program} {rw : Rw} {v v' : LV} {vals vals' : List LV} {d : Option Nat} {K : St → Prop} {s : St} (h : v = v') (h2 : vals = vals') : onFn P rw v vals d K s = onFn P rw v' vals' d K s := by rw [h, h2]
@[congr] theorem onCall_congr {P : Program} {rw : Rw} {f : FuncId} {vals vals' : List LV} {d : Option Nat} {K : St → Prop} {s : St} (h2 : vals = vals') : onCall P rw f vals d K s = onCall P rw f vals' d K s := by rw [h2]
@[congr] theorem onSt_congr {o o' : Option St} {K : St → Prop} (h : o = o') : onSt o K = onSt o' K := by rw [h]
@[congr] theorem onBool_congr {o o' : Option Bool} {w : Bool} {p q : Bx} (h : o = o') : @onBool o w p q = @onBool o' w p q := by rw [h]
@[simp] theorem onSt_some {s : St} {K : St → Prop} : onSt (some s) K = K s := by simp [onSt]
@[simp] theorem onSt_none {K : St → Prop} : onSt none K = False := by simp [onSt]
@[simp] theorem onSt_ite {c : Prop} [Decidable c] {o : Option St} {K : St → Prop} : onSt (if c then o else none) K = (c ∧ onSt o K) := by
  by_cases h : c <;> simp [h, onSt]
theorem onBool_some {b w : Bool} {p q : Prop} : @onBool (some b) w ⟨p⟩ ⟨q⟩ = ((b = w → p) ∧ (¬ b = w → q)) := by simp [onBool]
section
variable {P : Program} {K : St → Prop} {Q : Exit → St → Prop} {s : St}
@[simp ↓] theorem wpL_nil : wpL P [] K s = K s := rfl
@[simp ↓] theorem wpL_cons {g : GI} {gs : List GI} : wpL P (g :: gs) K s = wpG P g (wpL P gs K) s := rfl
@[simp ↓] theorem wpG_plain {i : I} (h : i.isCall = false) : wpG P (none, i) K s = onSt (step i s) K := by
  rw [eq_iff_iff, wpG_det h]; rfl
@[simp ↓] theorem wpG_guard {i : I} {j : Nat} {w : Bool} (h : i.isCall = false) : wpG P (some (j, w), i) K s = @onBool (gd w (s.t j)) w ⟨onSt (step i s) K⟩ ⟨K (skip i s)⟩ := by
  rw [eq_iff_iff, wpG_det h]
  unfold gstep onBool onSt
  constructor
  · rintro ⟨s', h1, h2⟩
    simp only at h1
    split at h1
    · rename_i b hb
      refine ⟨b, hb, fun hw => ?_, fun hw => ?_⟩
      · rw [if_pos hw] at h1; exact ⟨s', h1, h2⟩
      · rw [if_neg hw] at h1; simp only [Option.some.injEq] at h1; subst h1; exact h2
    · simp at h1
  · rintro ⟨b, hb, h1, h2⟩
    simp only [hb]
    by_cases hw : b = w
    · obtain ⟨s', h3, h4⟩ := h1 hw
      exact ⟨s', by rw [if_pos hw]; exact h3, h4⟩
    · exact ⟨_, by rw [if_neg hw], h2 hw⟩
@[simp ↓] theorem wpG_callG {rw : Rw} {d : Option Nat} {f : X} {args : List X} {j : Nat} {w : Bool} : wpG P (some (j, w), .call rw d f args) K s = @onBool (gd w (s.t j)) w ⟨wpG P (none, .call rw d f args) K s⟩ ⟨K (skip (.call rw d f args) s)⟩ := rfl
@[simp ↓] theorem wpG_callP {rw : Rw} {d : Option Nat} {f : X} {args : List X} : wpG P (none, .call rw d f args) K s = onFn P rw (get s.t f) (args.map fun x => share (get s.t x)) d K s := rfl
@[simp] theorem onFn_fn {rw : Rw} {d : Option Nat} {f : FuncId} {caps vals : List LV} : onFn P rw (.fn f caps) vals d K s = onCall P rw f (vals ++ shareAll caps) d K s := by
  simp only [onFn, fnArgs, eq_iff_iff]
  constructor
  · rintro ⟨fid, ws, h, h2⟩
    simp only [Option.some.injEq, Prod.mk.injEq] at h
    obtain ⟨rfl, rfl⟩ := h
    exact h2
  · intro h; exact ⟨f, _, rfl, h⟩
@[simp] theorem onFn_fnm {rw : Rw} {d : Option Nat} {f : FuncId} {first vals : List LV} : onFn P rw (.fnm f first) vals d K s = onCall P rw f (shareAll first ++ vals) d K s := by
  simp only [onFn, fnArgs, eq_iff_iff]
  constructor
  · rintro ⟨fid, ws, h, h2⟩
    simp only [Option.some.injEq, Prod.mk.injEq] at h
    obtain ⟨rfl, rfl⟩ := h
    exact h2
  · intro h; exact ⟨f, _, rfl, h⟩
theorem onCall_gives {rw : Rw} {d : Nat} {f : FuncId} {vals : List LV} {R : LV → Prop} (c : Gives P f vals R) (hl : LowAll 0 vals) (hk : ∀ r, R r → K { t := upd s.t d r, h := s.h }) (hrw : rw ≠ .fr := by simp) : onCall P rw f vals (some d) K s := by
  unfold onCall
  cases rw with
  | any => rw [callWp_t]; exact (c.lift hl s.h).mono fun r h' hr => by rw [hr.1]; exact hk r hr.2
  | no => rw [callWp_f]; exact ⟨hl, R, c, fun r hr => hk r hr⟩
  | fr => exact absurd rfl hrw
theorem onCall_eq {rw : Rw} {d : Nat} {f : FuncId} {vals : List LV} {r : LV} (c : Gives P f vals (· = r)) (hl : LowAll 0 vals) (hk : K { t := upd s.t d r, h := s.h }) (hrw : rw ≠ .fr := by simp) : onCall P rw f vals (some d) K s :=
  onCall_gives c hl (fun _ e => e ▸ hk) hrw
theorem wpC_loopI {b : C} (I : Nat → St → Prop) (k : Nat) (h0 : I k s) (hr : ∀ k s, I k s → wpC P b (thenL (fun s' => ∃ k', k' < k ∧ I k' s') Q) s) : wpC P (.loop b) Q s := ⟨I, k, h0, hr⟩
@[simp ↓] theorem wpC_skip : wpC P .skip Q s = Q .normal s := rfl
@[simp ↓] theorem wpC_reg {gs : List GI} : wpC P (.reg gs) Q s = wpL P gs (Q .normal) s := rfl
@[simp ↓] theorem wpC_par {its : List (It GI)} : wpC P (.par its) Q s = wpIts P its (Q .normal) s := rfl
@[simp ↓] theorem wpIts_nil : wpIts P [] K s = K s := rfl
@[simp ↓] theorem wpIts_one {g : GI} {its : List (It GI)} : wpIts P (.one g :: its) K s = wpG P g (wpIts P its K) s := rfl
@[simp ↓] theorem wpIts_two {g g' : GI} {its : List (It GI)} : wpIts P (.two g g' :: its) K s = (wpG P g (wpG P g' (wpIts P its K)) s ∧ wpG P g' (wpG P g (wpIts P its K)) s) := rfl
def frzSt (k : Nat) (v : LV) (s : St) : Option St := match v with
  | .rp _ => some s
  | .sl _ _ _ _ => some s
  | _ => step (.mv k .frz (.t k)) s
@[simp] theorem frzSt_sl {k sz : Nat} {u nl : Bool} {xs : List (List LV)} : frzSt k (.sl u nl sz xs) s = some s := rfl
@[simp] theorem frzSt_rp {k : Nat} {xs : List LV} : frzSt k (.rp xs) s = some s := rfl
@[simp] theorem frzSt_ptr {k l o : Nat} : frzSt k (.ptr l o) s = step (.mv k .frz (.t k)) s := rfl
@[simp] theorem frzSt_ha {k l sz off n cap : Nat} : frzSt k (.ha l sz off n cap) s = step (.mv k .frz (.t k)) s := rfl
@[simp ↓] theorem wpC_frz {k : Nat} : wpC P (.frz k) Q s = onSt (frzSt k (s.t k) s) (Q .normal) := rfl
@[simp ↓] theorem wpC_seq {a b : C} : wpC P (.seq a b) Q s = wpC P a (thenL (wpC P b Q) Q) s := rfl
@[simp ↓] theorem wpC_block {a : C} {i : Nat} : wpC P (.block i a) Q s = wpC P a (inBlockL i Q) s := rfl
@[simp ↓] theorem wpC_exit {i : Nat} : wpC P (.exit i) Q s = Q (.exit i) s := rfl
@[simp ↓] theorem wpC_ret : wpC P .ret Q s = Q .ret s := rfl
@[simp ↓] theorem wpC_cond {x : X} {a b : C} : wpC P (.cond x a b) Q s = @onBool (boolOf (get s.t x)) true ⟨wpC P a Q s⟩ ⟨wpC P b Q s⟩ := by
  simp only [wpC, onBool, eq_iff_iff]
  constructor
  · rintro ⟨v, h1, h2, h3⟩; exact ⟨v, h1, h2, fun h => h3 (by simpa using h)⟩
  · rintro ⟨v, h1, h2, h3⟩; exact ⟨v, h1, h2, fun h => h3 (by simp [h])⟩
@[simp ↓] theorem wpG_mv {d : Nat} {m : Md} {x : X} : wpG P (none, .mv d m x) K s = onSt (step (.mv d m x) s) K := rfl
@[simp ↓] theorem wpGg_mv {j : Nat} {w : Bool} {d : Nat} {m : Md} {x : X} : wpG P (some (j, w), .mv d m x) K s = @onBool (gd w (s.t j)) w ⟨onSt (step (.mv d m x) s) K⟩ ⟨K (skip (.mv d m x) s)⟩ := wpG_guard rfl
@[simp] theorem skip_mv {d : Nat} {m : Md} {x : X} : skip (.mv d m x) s = s.put d (.sc undef) := rfl
@[simp ↓] theorem wpG_box {d : Nat} {x : X} : wpG P (none, .box d x) K s = onSt (step (.box d x) s) K := rfl
@[simp ↓] theorem wpGg_box {j : Nat} {w : Bool} {d : Nat} {x : X} : wpG P (some (j, w), .box d x) K s = @onBool (gd w (s.t j)) w ⟨onSt (step (.box d x) s) K⟩ ⟨K (skip (.box d x) s)⟩ := wpG_guard rfl
@[simp] theorem skip_box {d : Nat} {x : X} : skip (.box d x) s = s.put d (.sc undef) := rfl
@[simp ↓] theorem wpG_alloc {d : Nat} {z : List LV} : wpG P (none, .alloc d z) K s = onSt (step (.alloc d z) s) K := rfl
@[simp ↓] theorem wpGg_alloc {j : Nat} {w : Bool} {d : Nat} {z : List LV} : wpG P (some (j, w), .alloc d z) K s = @onBool (gd w (s.t j)) w ⟨onSt (step (.alloc d z) s) K⟩ ⟨K (skip (.alloc d z) s)⟩ := wpG_guard rfl
@[simp] theorem skip_alloc {d : Nat} {z : List LV} : skip (.alloc d z) s = s.put d (.sc undef) := rfl
@[simp ↓] theorem wpG_load {d : Nat} {m : Md} {ag : Bool} {sz : Nat} {x : X} : wpG P (none, .load d m ag sz x) K s = onSt (step (.load d m ag sz x) s) K := rfl
@[simp ↓] theorem wpGg_load {j : Nat} {w : Bool} {d : Nat} {m : Md} {ag : Bool} {sz : Nat} {x : X} : wpG P (some (j, w), .load d m ag sz x) K s = @onBool (gd w (s.t j)) w ⟨onSt (step (.load d m ag sz x) s) K⟩ ⟨K (skip (.load d m ag sz x) s)⟩ := wpG_guard rfl
@[simp] theorem skip_load {d : Nat} {m : Md} {ag : Bool} {sz : Nat} {x : X} : skip (.load d m ag sz x) s = s.put d (.sc undef) := rfl
@[simp ↓] theorem wpG_store {sz : Nat} {x : X} {y : X} : wpG P (none, .store sz x y) K s = onSt (step (.store sz x y) s) K := rfl
@[simp ↓] theorem wpGg_store {j : Nat} {w : Bool} {sz : Nat} {x : X} {y : X} : wpG P (some (j, w), .store sz x y) K s = @onBool (gd w (s.t j)) w ⟨onSt (step (.store sz x y) s) K⟩ ⟨K (skip (.store sz x y) s)⟩ := wpG_guard rfl
@[simp] theorem skip_store {sz : Nat} {x : X} {y : X} : skip (.store sz x y) s = s := rfl
@[simp ↓] theorem wpG_bin {d : Nat} {c : Cm} {op : BinOp} {x : X} {y : X} : wpG P (none, .bin d c op x y) K s = onSt (step (.bin d c op x y) s) K := rfl
@[simp ↓] theorem wpGg_bin {j : Nat} {w : Bool} {d : Nat} {c : Cm} {op : BinOp} {x : X} {y : X} : wpG P (some (j, w), .bin d c op x y) K s = @onBool (gd w (s.t j)) w ⟨onSt (step (.bin d c op x y) s) K⟩ ⟨K (skip (.bin d c op x y) s)⟩ := wpG_guard rfl
@[simp] theorem skip_bin {d : Nat} {c : Cm} {op : BinOp} {x : X} {y : X} : skip (.bin d c op x y) s = s.put d (.sc undef) := rfl
@[simp ↓] theorem wpG_un {d : Nat} {op : UnOp} {x : X} : wpG P (none, .un d op x) K s = onSt (step (.un d op x) s) K := rfl
@[simp ↓] theorem wpGg_un {j : Nat} {w : Bool} {d : Nat} {op : UnOp} {x : X} : wpG P (some (j, w), .un d op x) K s = @onBool (gd w (s.t j)) w ⟨onSt (step (.un d op x) s) K⟩ ⟨K (skip (.un d op x) s)⟩ := wpG_guard rfl
@[simp] theorem skip_un {d : Nat} {op : UnOp} {x : X} : skip (.un d op x) s = s.put d (.sc undef) := rfl
@[simp ↓] theorem wpG_build {d : Nat} {z : List LV} {ps : List (Nat × Nat × X)} : wpG P (none, .build d z ps) K s = onSt (step (.build d z ps) s) K := rfl
@[simp ↓] theorem wpGg_build {j : Nat} {w : Bool} {d : Nat} {z : List LV} {ps : List (Nat × Nat × X)} : wpG P (some (j, w), .build d z ps) K s = @onBool (gd w (s.t j)) w ⟨onSt (step (.build d z ps) s) K⟩ ⟨K (skip (.build d z ps) s)⟩ := wpG_guard rfl
@[simp] theorem skip_build {d : Nat} {z : List LV} {ps : List (Nat × Nat × X)} : skip (.build d z ps) s = s.put d (.sc undef) := rfl
@[simp ↓] theorem wpG_bslice {d : Nat} {sz : Nat} {len : Nat} {z : List LV} {ps : List (Nat × Nat × X)} : wpG P (none, .bslice d sz len z ps) K s = onSt (step (.bslice d sz len z ps) s) K := rfl
@[simp ↓] theorem wpGg_bslice {j : Nat} {w : Bool} {d : Nat} {sz : Nat} {len : Nat} {z : List LV} {ps : List (Nat × Nat × X)} : wpG P (some (j, w), .bslice d sz len z ps) K s = @onBool (gd w (s.t j)) w ⟨onSt (step (.bslice d sz len z ps) s) K⟩ ⟨K (skip (.bslice d sz len z ps) s)⟩ := wpG_guard rfl
@[simp] theorem skip_bslice {d : Nat} {sz : Nat} {len : Nat} {z : List LV} {ps : List (Nat × Nat × X)} : skip (.bslice d sz len z ps) s = s.put d (.sc undef) := rfl
@[simp ↓] theorem wpG_slice {d : Nat} {sz : Nat} {x : X} {lo : Option X} {hi : Option X} {mx : Option X} : wpG P (none, .slice d sz x lo hi mx) K s = onSt (step (.slice d sz x lo hi mx) s) K := rfl
@[simp ↓] theorem wpGg_slice {j : Nat} {w : Bool} {d : Nat} {sz : Nat} {x : X} {lo : Option X} {hi : Option X} {mx : Option X} : wpG P (some (j, w), .slice d sz x lo hi mx) K s = @onBool (gd w (s.t j)) w ⟨onSt (step (.slice d sz x lo hi mx) s) K⟩ ⟨K (skip (.slice d sz x lo hi mx) s)⟩ := wpG_guard rfl
@[simp] theorem skip_slice {d : Nat} {sz : Nat} {x : X} {lo : Option X} {hi : Option X} {mx : Option X} : skip (.slice d sz x lo hi mx) s = s.put d (.sc undef) := rfl
@[simp ↓] theorem wpG_sliceS {d : Nat} {x : X} {lo : Option X} {hi : Option X} : wpG P (none, .sliceS d x lo hi) K s = onSt (step (.sliceS d x lo hi) s) K := rfl
@[simp ↓] theorem wpGg_sliceS {j : Nat} {w : Bool} {d : Nat} {x : X} {lo : Option X} {hi : Option X} : wpG P (some (j, w), .sliceS d x lo hi) K s = @onBool (gd w (s.t j)) w ⟨onSt (step (.sliceS d x lo hi) s) K⟩ ⟨K (skip (.sliceS d x lo hi) s)⟩ := wpG_guard rfl
@[simp] theorem skip_sliceS {d : Nat} {x : X} {lo : Option X} {hi : Option X} : skip (.sliceS d x lo hi) s = s.put d (.sc undef) := rfl
@[simp ↓] theorem wpG_fieldA {d : Nat} {off : Nat} {x : X} : wpG P (none, .fieldA d off x) K s = onSt (step (.fieldA d off x) s) K := rfl
@[simp ↓] theorem wpGg_fieldA {j : Nat} {w : Bool} {d : Nat} {off : Nat} {x : X} : wpG P (some (j, w), .fieldA d off x) K s = @onBool (gd w (s.t j)) w ⟨onSt (step (.fieldA d off x) s) K⟩ ⟨K (skip (.fieldA d off x) s)⟩ := wpG_guard rfl
@[simp] theorem skip_fieldA {d : Nat} {off : Nat} {x : X} : skip (.fieldA d off x) s = s.put d (.sc undef) := rfl
@[simp ↓] theorem wpG_field {d : Nat} {ag : Bool} {off : Nat} {sz : Nat} {x : X} : wpG P (none, .field d ag off sz x) K s = onSt (step (.field d ag off sz x) s) K := rfl
@[simp ↓] theorem wpGg_field {j : Nat} {w : Bool} {d : Nat} {ag : Bool} {off : Nat} {sz : Nat} {x : X} : wpG P (some (j, w), .field d ag off sz x) K s = @onBool (gd w (s.t j)) w ⟨onSt (step (.field d ag off sz x) s) K⟩ ⟨K (skip (.field d ag off sz x) s)⟩ := wpG_guard rfl
@[simp] theorem skip_field {d : Nat} {ag : Bool} {off : Nat} {sz : Nat} {x : X} : skip (.field d ag off sz x) s = s.put d (.sc undef) := rfl
@[simp ↓] theorem wpG_indexA {d : Nat} {sz : Nat} {x : X} {i : X} : wpG P (none, .indexA d sz x i) K s = onSt (step (.indexA d sz x i) s) K := rfl
@[simp ↓] theorem wpG_indexT {d : Nat} {sz : Nat} {x : X} {i : X} : wpG P (none, .indexT d sz x i) K s = onSt (step (.indexT d sz x i) s) K := rfl
@[simp ↓] theorem wpG_loadT {d : Nat} {ag : Bool} {sz : Nat} {x : X} : wpG P (none, .loadT d ag sz x) K s = onSt (step (.loadT d ag sz x) s) K := rfl
@[simp ↓] theorem wpG_loadP {d i : Nat} {ag : Bool} {sz : Nat} {x : X} : wpG P (none, .loadP d i ag sz x) K s = onSt (step (.loadP d i ag sz x) s) K := rfl
@[simp ↓] theorem wpGg_indexA {j : Nat} {w : Bool} {d : Nat} {sz : Nat} {x : X} {i : X} : wpG P (some (j, w), .indexA d sz x i) K s = @onBool (gd w (s.t j)) w ⟨onSt (step (.indexA d sz x i) s) K⟩ ⟨K (skip (.indexA d sz x i) s)⟩ := wpG_guard rfl
@[simp ↓] theorem wpGg_indexT {j : Nat} {w : Bool} {d : Nat} {sz : Nat} {x : X} {i : X} : wpG P (some (j, w), .indexT d sz x i) K s = @onBool (gd w (s.t j)) w ⟨onSt (step (.indexT d sz x i) s) K⟩ ⟨K (skip (.indexT d sz x i) s)⟩ := wpG_guard rfl
@[simp ↓] theorem wpGg_loadT {j : Nat} {w : Bool} {d : Nat} {ag : Bool} {sz : Nat} {x : X} : wpG P (some (j, w), .loadT d ag sz x) K s = @onBool (gd w (s.t j)) w ⟨onSt (step (.loadT d ag sz x) s) K⟩ ⟨K (skip (.loadT d ag sz x) s)⟩ := wpG_guard rfl
@[simp ↓] theorem wpGg_loadP {j : Nat} {w : Bool} {d i : Nat} {ag : Bool} {sz : Nat} {x : X} : wpG P (some (j, w), .loadP d i ag sz x) K s = @onBool (gd w (s.t j)) w ⟨onSt (step (.loadP d i ag sz x) s) K⟩ ⟨K (skip (.loadP d i ag sz x) s)⟩ := wpG_guard rfl
@[simp] theorem skip_indexA {d : Nat} {sz : Nat} {x : X} {i : X} : skip (.indexA d sz x i) s = s.put d (.sc undef) := rfl
@[simp] theorem skip_indexT {d : Nat} {sz : Nat} {x : X} {i : X} : skip (.indexT d sz x i) s = s.put d (.sc undef) := rfl
@[simp] theorem skip_loadT {d : Nat} {ag : Bool} {sz : Nat} {x : X} : skip (.loadT d ag sz x) s = s.put d (.sc undef) := rfl
@[simp] theorem skip_loadP {d i : Nat} {ag : Bool} {sz : Nat} {x : X} : skip (.loadP d i ag sz x) s = s.put d (.sc undef) := rfl
@[simp ↓] theorem wpG_indexS {d : Nat} {x : X} {i : X} : wpG P (none, .indexS d x i) K s = onSt (step (.indexS d x i) s) K := rfl
@[simp ↓] theorem wpGg_indexS {j : Nat} {w : Bool} {d : Nat} {x : X} {i : X} : wpG P (some (j, w), .indexS d x i) K s = @onBool (gd w (s.t j)) w ⟨onSt (step (.indexS d x i) s) K⟩ ⟨K (skip (.indexS d x i) s)⟩ := wpG_guard rfl
@[simp] theorem skip_indexS {d : Nat} {x : X} {i : X} : skip (.indexS d x i) s = s.put d (.sc undef) := rfl
@[simp ↓] theorem wpG_extract {d : Nat} {k : Nat} {x : X} : wpG P (none, .extract d k x) K s = onSt (step (.extract d k x) s) K := rfl
@[simp ↓] theorem wpGg_extract {j : Nat} {w : Bool} {d : Nat} {k : Nat} {x : X} : wpG P (some (j, w), .extract d k x) K s = @onBool (gd w (s.t j)) w ⟨onSt (step (.extract d k x) s) K⟩ ⟨K (skip (.extract d k x) s)⟩ := wpG_guard rfl
@[simp] theorem skip_extract {d : Nat} {k : Nat} {x : X} : skip (.extract d k x) s = s.put d (.sc undef) := rfl
@[simp ↓] theorem wpG_len {d : Nat} {x : X} : wpG P (none, .len d x) K s = onSt (step (.len d x) s) K := rfl
@[simp ↓] theorem wpGg_len {j : Nat} {w : Bool} {d : Nat} {x : X} : wpG P (some (j, w), .len d x) K s = @onBool (gd w (s.t j)) w ⟨onSt (step (.len d x) s) K⟩ ⟨K (skip (.len d x) s)⟩ := wpG_guard rfl
@[simp] theorem skip_len {d : Nat} {x : X} : skip (.len d x) s = s.put d (.sc undef) := rfl
@[simp ↓] theorem wpG_lenS {d : Nat} {x : X} : wpG P (none, .lenS d x) K s = onSt (step (.lenS d x) s) K := rfl
@[simp ↓] theorem wpGg_lenS {j : Nat} {w : Bool} {d : Nat} {x : X} : wpG P (some (j, w), .lenS d x) K s = @onBool (gd w (s.t j)) w ⟨onSt (step (.lenS d x) s) K⟩ ⟨K (skip (.lenS d x) s)⟩ := wpG_guard rfl
@[simp] theorem skip_lenS {d : Nat} {x : X} : skip (.lenS d x) s = s.put d (.sc undef) := rfl
@[simp ↓] theorem wpG_append {d : Nat} {sz : Nat} {x : X} {y : X} : wpG P (none, .append d sz x y) K s = onSt (step (.append d sz x y) s) K := rfl
@[simp ↓] theorem wpGg_append {j : Nat} {w : Bool} {d : Nat} {sz : Nat} {x : X} {y : X} : wpG P (some (j, w), .append d sz x y) K s = @onBool (gd w (s.t j)) w ⟨onSt (step (.append d sz x y) s) K⟩ ⟨K (skip (.append d sz x y) s)⟩ := wpG_guard rfl
@[simp] theorem skip_append {d : Nat} {sz : Nat} {x : X} {y : X} : skip (.append d sz x y) s = s.put d (.sc undef) := rfl
@[simp ↓] theorem wpG_mkslice {d : Nat} {sz : Nat} {z : List LV} {n : X} : wpG P (none, .mkslice d sz z n) K s = onSt (step (.mkslice d sz z n) s) K := rfl
@[simp ↓] theorem wpGg_mkslice {j : Nat} {w : Bool} {d : Nat} {sz : Nat} {z : List LV} {n : X} : wpG P (some (j, w), .mkslice d sz z n) K s = @onBool (gd w (s.t j)) w ⟨onSt (step (.mkslice d sz z n) s) K⟩ ⟨K (skip (.mkslice d sz z n) s)⟩ := wpG_guard rfl
@[simp] theorem skip_mkslice {d : Nat} {sz : Nat} {z : List LV} {n : X} : skip (.mkslice d sz z n) s = s.put d (.sc undef) := rfl
@[simp ↓] theorem wpG_minmax {d : Nat} {mx : Bool} {x : X} {y : X} : wpG P (none, .minmax d mx x y) K s = onSt (step (.minmax d mx x y) s) K := rfl
@[simp ↓] theorem wpGg_minmax {j : Nat} {w : Bool} {d : Nat} {mx : Bool} {x : X} {y : X} : wpG P (some (j, w), .minmax d mx x y) K s = @onBool (gd w (s.t j)) w ⟨onSt (step (.minmax d mx x y) s) K⟩ ⟨K (skip (.minmax d mx x y) s)⟩ := wpG_guard rfl
@[simp] theorem skip_minmax {d : Nat} {mx : Bool} {x : X} {y : X} : skip (.minmax d mx x y) s = s.put d (.sc undef) := rfl
@[simp ↓] theorem wpG_mkfn {d : Nat} {f : FuncId} {m : Bool} {caps : List X} : wpG P (none, .mkfn d f m caps) K s = onSt (step (.mkfn d f m caps) s) K := rfl
@[simp ↓] theorem wpGg_mkfn {j : Nat} {w : Bool} {d : Nat} {f : FuncId} {m : Bool} {caps : List X} : wpG P (some (j, w), .mkfn d f m caps) K s = @onBool (gd w (s.t j)) w ⟨onSt (step (.mkfn d f m caps) s) K⟩ ⟨K (skip (.mkfn d f m caps) s)⟩ := wpG_guard rfl
@[simp] theorem skip_mkfn {d : Nat} {f : FuncId} {m : Bool} {caps : List X} : skip (.mkfn d f m caps) s = s.put d (.sc undef) := rfl
@[simp ↓] theorem wpG_nilchk {d : Nat} {x : X} : wpG P (none, .nilchk d x) K s = onSt (step (.nilchk d x) s) K := rfl
@[simp ↓] theorem wpGg_nilchk {j : Nat} {w : Bool} {d : Nat} {x : X} : wpG P (some (j, w), .nilchk d x) K s = @onBool (gd w (s.t j)) w ⟨onSt (step (.nilchk d x) s) K⟩ ⟨K (skip (.nilchk d x) s)⟩ := wpG_guard rfl
@[simp] theorem skip_nilchk {d : Nat} {x : X} : skip (.nilchk d x) s = s.put d (.sc undef) := rfl
@[simp ↓] theorem wpG_conv {d : Nat} {k : IntKind} {x : X} : wpG P (none, .conv d k x) K s = onSt (step (.conv d k x) s) K := rfl
@[simp ↓] theorem wpGg_conv {j : Nat} {w : Bool} {d : Nat} {k : IntKind} {x : X} : wpG P (some (j, w), .conv d k x) K s = @onBool (gd w (s.t j)) w ⟨onSt (step (.conv d k x) s) K⟩ ⟨K (skip (.conv d k x) s)⟩ := wpG_guard rfl
@[simp] theorem skip_conv {d : Nat} {k : IntKind} {x : X} : skip (.conv d k x) s = s.put d (.sc undef) := rfl
@[simp ↓] theorem wpG_pick {d : Nat} {c : X} {x : X} {y : X} : wpG P (none, .pick d c x y) K s = onSt (step (.pick d c x y) s) K := rfl
@[simp ↓] theorem wpGg_pick {j : Nat} {w : Bool} {d : Nat} {c : X} {x : X} {y : X} : wpG P (some (j, w), .pick d c x y) K s = @onBool (gd w (s.t j)) w ⟨onSt (step (.pick d c x y) s) K⟩ ⟨K (skip (.pick d c x y) s)⟩ := wpG_guard rfl
@[simp] theorem skip_pick {d : Nat} {c : X} {x : X} {y : X} : skip (.pick d c x y) s = s.put d (.sc undef) := rfl
@[simp ↓] theorem wpG_cap {d : Nat} {x : X} : wpG P (none, .cap d x) K s = onSt (step (.cap d x) s) K := rfl
@[simp ↓] theorem wpGg_cap {j : Nat} {w : Bool} {d : Nat} {x : X} : wpG P (some (j, w), .cap d x) K s = @onBool (gd w (s.t j)) w ⟨onSt (step (.cap d x) s) K⟩ ⟨K (skip (.cap d x) s)⟩ := wpG_guard rfl
@[simp] theorem skip_cap {d : Nat} {x : X} : skip (.cap d x) s = s.put d (.sc undef) := rfl
@[simp ↓] theorem wpG_growz {d sz : Nat} {x n : X} : wpG P (none, .growz d sz x n) K s = onSt (step (.growz d sz x n) s) K := rfl
@[simp ↓] theorem wpGg_growz {j : Nat} {w : Bool} {d sz : Nat} {x n : X} : wpG P (some (j, w), .growz d sz x n) K s = @onBool (gd w (s.t j)) w ⟨onSt (step (.growz d sz x n) s) K⟩ ⟨K (skip (.growz d sz x n) s)⟩ := wpG_guard rfl
@[simp] theorem skip_growz {d sz : Nat} {x n : X} : skip (.growz d sz x n) s = s.put d (.sc undef) := rfl
@[simp ↓] theorem wpG_cut0 {d sz : Nat} {x hi : X} : wpG P (none, .cut0 d sz x hi) K s = onSt (step (.cut0 d sz x hi) s) K := rfl
@[simp ↓] theorem wpGg_cut0 {j : Nat} {w : Bool} {d sz : Nat} {x hi : X} : wpG P (some (j, w), .cut0 d sz x hi) K s = @onBool (gd w (s.t j)) w ⟨onSt (step (.cut0 d sz x hi) s) K⟩ ⟨K (skip (.cut0 d sz x hi) s)⟩ := wpG_guard rfl
@[simp] theorem skip_cut0 {d sz : Nat} {x hi : X} : skip (.cut0 d sz x hi) s = s.put d (.sc undef) := rfl
@[simp ↓] theorem wpG_bad {d : Option Nat} : wpG P (none, .bad d) K s = onSt (step (.bad d) s) K := rfl
@[simp ↓] theorem wpGg_bad {j : Nat} {w : Bool} {d : Option Nat} : wpG P (some (j, w), .bad d) K s = @onBool (gd w (s.t j)) w ⟨onSt (step (.bad d) s) K⟩ ⟨K (skip (.bad d) s)⟩ := wpG_guard rfl
@[simp] theorem skip_bad {d : Option Nat} : skip (.bad d) s = match d with | some d => s.put d (.sc undef) | none => s := rfl
@[simp] theorem skip_call {rw : Rw} {d : Nat} {f : X} {args : List X} : skip (.call rw (some d) f args) s = s.put d (.sc undef) := rfl
@[simp] theorem step_mvc {d : Nat} {x : X} : step (.mv d .copy x) s = some (s.put d (share (get s.t x))) := rfl
@[simp] theorem step_mvt {d : Nat} {x : X} : step (.mv d .take x) s = some ((s.give x).put d (get s.t x)) := rfl
@[simp] theorem step_bin {d : Nat} {c : Cm} {op : BinOp} {x y : X} : step (.bin d c op x y) s = (binLV c op (get s.t x) (get s.t y)).map (s.put d) := rfl
@[simp] theorem step_un {d : Nat} {op : UnOp} {x : X} : step (.un d op x) s = (unLV op (get s.t x)).map (s.put d) := rfl
@[simp] theorem step_build {d : Nat} {z : List LV} {ps : List (Nat × Nat × X)} : step (.build d z ps) s = (fillLV s.t z ps).map fun zs => ({ s with t := giveAll s.t (ps.map fun p => p.2.2) } : St).put d (.agg zs) := rfl
@[simp] theorem step_bslice {d sz len : Nat} {z : List LV} {ps : List (Nat × Nat × X)} : step (.bslice d sz len z ps) s = (fillLV s.t z ps).map fun zs => ({ s with t := giveAll s.t (ps.map fun p => p.2.2) } : St).put d (.sl true false sz (chunks sz len zs)) := rfl
@[simp] theorem step_len {d : Nat} {x : X} : step (.len d x) s = (lenLV (get s.t x)).map fun (n : Nat) => s.put d (.sc (.int .i64 (n : Int))) := rfl
@[simp] theorem step_lenS {d : Nat} {x : X} : step (.lenS d x) s = (lenStr (get s.t x)).map fun (n : Nat) => s.put d (.sc (.int .i64 (n : Int))) := rfl
@[simp] theorem step_mkfn {d : Nat} {f : FuncId} {m : Bool} {caps : List X} : step (.mkfn d f m caps) s = some (s.put d (if m = true then .fnm f (caps.map fun c => share (get s.t c)) else .fn f (caps.map fun c => share (get s.t c)))) := rfl
@[simp] theorem step_alloc {d : Nat} {z : List LV} : step (.alloc d z) s = some ({ s with h := s.h ++ [some z] }.put d (.ptr s.h.length 0)) := rfl
@[simp] theorem step_conv {d : Nat} {k : IntKind} {x : X} : step (.conv d k x) s = (intOf (get s.t x)).map fun n => s.put d (.sc (.int k (k.wrap n))) := rfl
def leB (a b : Int) : Bool := decide (a ≤ b)
def ltB (a b : Int) : Bool := decide (a < b)
def eqB (a b : Int) : Bool := decide (a = b)
theorem leB_true {a b : Int} : leB a b = true ↔ a ≤ b := by simp [leB]
theorem leB_false {a b : Int} : leB a b = false ↔ b < a := by simp [leB]
theorem ltB_true {a b : Int} : ltB a b = true ↔ a < b := by simp [ltB]
theorem ltB_false {a b : Int} : ltB a b = false ↔ b ≤ a := by simp [ltB]
theorem eqB_true {a b : Int} : eqB a b = true ↔ a = b := by simp [eqB]
theorem eqB_false {a b : Int} : eqB a b = false ↔ a ≠ b := by simp [eqB]
@[simp] theorem onBool_tt {p q : Prop} : @onBool (some true) true ⟨p⟩ ⟨q⟩ = p := by rw [onBool_some]; simp
@[simp] theorem onBool_ft {p q : Prop} : @onBool (some false) true ⟨p⟩ ⟨q⟩ = q := by rw [onBool_some]; simp
@[simp] theorem onBool_tf {p q : Prop} : @onBool (some true) false ⟨p⟩ ⟨q⟩ = q := by rw [onBool_some]; simp
@[simp] theorem onBool_ff {p q : Prop} : @onBool (some false) false ⟨p⟩ ⟨q⟩ = p := by rw [onBool_some]; simp
theorem onBool_le {a b : Int} {w : Bool} {p q : Prop} : @onBool (some (leB a b)) w ⟨p⟩ ⟨q⟩ = if w = true then ((leB a b = true → a ≤ b → p) ∧ (leB a b = false → b < a → q)) else ((leB a b = true → a ≤ b → q) ∧ (leB a b = false → b < a → p)) := by
  rw [onBool_some]; cases w <;> by_cases h : a ≤ b <;> simp [leB, h] <;> omega
theorem onBool_leT {a b : Int} {p q : Prop} : @onBool (some (leB a b)) true ⟨p⟩ ⟨q⟩ = ((leB a b = true → a ≤ b → p) ∧ (leB a b = false → b < a → q)) := by rw [onBool_le, if_pos rfl]
theorem onBool_leF {a b : Int} {p q : Prop} : @onBool (some (leB a b)) false ⟨p⟩ ⟨q⟩ = ((leB a b = true → a ≤ b → q) ∧ (leB a b = false → b < a → p)) := by rw [onBool_le, if_neg (by simp)]
theorem onBool_lt {a b : Int} {w : Bool} {p q : Prop} : @onBool (some (ltB a b)) w ⟨p⟩ ⟨q⟩ = if w = true then ((ltB a b = true → a < b → p) ∧ (ltB a b = false → b ≤ a → q)) else ((ltB a b = true → a < b → q) ∧ (ltB a b = false → b ≤ a → p)) := by
  rw [onBool_some]; cases w <;> by_cases h : a < b <;> simp [ltB, h] <;> omega
theorem onBool_ltT {a b : Int} {p q : Prop} : @onBool (some (ltB a b)) true ⟨p⟩ ⟨q⟩ = ((ltB a b = true → a < b → p) ∧ (ltB a b = false → b ≤ a → q)) := by rw [onBool_lt, if_pos rfl]
theorem onBool_ltF {a b : Int} {p q : Prop} : @onBool (some (ltB a b)) false ⟨p⟩ ⟨q⟩ = ((ltB a b = true → a < b → q) ∧ (ltB a b = false → b ≤ a → p)) := by rw [onBool_lt, if_neg (by simp)]
theorem onBool_eq {a b : Int} {w : Bool} {p q : Prop} : @onBool (some (eqB a b)) w ⟨p⟩ ⟨q⟩ = if w = true then ((eqB a b = true → a ≤ b → b ≤ a → p) ∧ (eqB a b = false → ¬ a = b → q)) else ((eqB a b = true → a ≤ b → b ≤ a → q) ∧ (eqB a b = false → ¬ a = b → p)) := by
  rw [onBool_some]; cases w <;> by_cases h : a = b <;> simp [eqB, h]
theorem onBool_eqT {a b : Int} {p q : Prop} : @onBool (some (eqB a b)) true ⟨p⟩ ⟨q⟩ = ((eqB a b = true → a ≤ b → b ≤ a → p) ∧ (eqB a b = false → ¬ a = b → q)) := by rw [onBool_eq, if_pos rfl]
theorem onBool_eqF {a b : Int} {p q : Prop} : @onBool (some (eqB a b)) false ⟨p⟩ ⟨q⟩ = ((eqB a b = true → a ≤ b → b ≤ a → q) ∧ (eqB a b = false → ¬ a = b → p)) := by rw [onBool_eq, if_neg (by simp)]
@[simp] theorem bin_add {a b : Int} : binLV .num .add (.sc (.int .i64 a)) (.sc (.int .i64 b)) = some (.sc (.int .i64 (IntKind.i64.wrap (a + b)))) := by simp [binLV, intBin]
@[simp] theorem bin_sub {a b : Int} : binLV .num .sub (.sc (.int .i64 a)) (.sc (.int .i64 b)) = some (.sc (.int .i64 (IntKind.i64.wrap (a - b)))) := by simp [binLV, intBin]
@[simp] theorem bin_mul {a b : Int} : binLV .num .mul (.sc (.int .i64 a)) (.sc (.int .i64 b)) = some (.sc (.int .i64 (IntKind.i64.wrap (a * b)))) := by simp [binLV, intBin]
@[simp] theorem bin_leq {k : IntKind} {a b : Int} : binLV .num .leq (.sc (.int k a)) (.sc (.int k b)) = some (.sc (.bool (leB a b))) := by simp [binLV, intBin, leB]
@[simp] theorem bin_geq {k : IntKind} {a b : Int} : binLV .num .geq (.sc (.int k a)) (.sc (.int k b)) = some (.sc (.bool (leB b a))) := by simp [binLV, intBin, leB]
@[simp] theorem bin_lss {k : IntKind} {a b : Int} : binLV .num .lss (.sc (.int k a)) (.sc (.int k b)) = some (.sc (.bool (ltB a b))) := by simp [binLV, intBin, ltB]
@[simp] theorem bin_gtr {k : IntKind} {a b : Int} : binLV .num .gtr (.sc (.int k a)) (.sc (.int k b)) = some (.sc (.bool (ltB b a))) := by simp [binLV, intBin, ltB]
@[simp] theorem bin_eql {k : IntKind} {a b : Int} : binLV .num .eql (.sc (.int k a)) (.sc (.int k b)) = some (.sc (.bool (eqB a b))) := by
  by_cases h : a = b <;> simp [binLV, intBin, eqB, h]
@[simp] theorem bin_neq {k : IntKind} {a b : Int} : binLV .num .neq (.sc (.int k a)) (.sc (.int k b)) = some (.sc (.bool (!eqB a b))) := by
  by_cases h : a = b <;> simp [binLV, intBin, eqB, h]
@[simp] theorem un_not {b : Bool} : unLV .not (.sc (.bool b)) = some (.sc (.bool !b)) := rfl
@[simp] theorem onBool_not {b w : Bool} {p q : Prop} : @onBool (some (!b)) w ⟨p⟩ ⟨q⟩ = @onBool (some b) (!w) ⟨p⟩ ⟨q⟩ := by
  rw [onBool_some, onBool_some]; cases b <;> cases w <;> simp
@[simp] theorem onBool_lit {b w : Bool} {p q : Prop} (h : b = w) : @onBool (some b) w ⟨p⟩ ⟨q⟩ = p := by rw [onBool_some]; simp [h]
@[simp] theorem low_sc {k : Nat} {v : Value} : Low k (.sc v) = True := by simp [Low]
@[simp] theorem low_sl {k : Nat} {u nl : Bool} {sz : Nat} {xs : List (List LV)} : Low k (.sl u nl sz xs) = LowRow k xs := by simp [Low]
@[simp] theorem low_rp {k : Nat} {xs : List LV} : Low k (.rp xs) = LowAll k xs := by simp [Low]
@[simp] theorem low_fn {k : Nat} {f : FuncId} {xs : List LV} : Low k (.fn f xs) = LowAll k xs := by simp [Low]
@[simp] theorem low_fnm {k : Nat} {f : FuncId} {xs : List LV} : Low k (.fnm f xs) = LowAll k xs := by simp [Low]
@[simp] theorem low_agg {k : Nat} {xs : List LV} : Low k (.agg xs) = LowAll k xs := by simp [Low]
@[simp] theorem low_tup {k : Nat} {xs : List LV} : Low k (.tup xs) = LowAll k xs := by simp [Low]
@[simp] theorem low_raw {k sz : Nat} : Low k (.raw sz) = True := by simp [Low]
@[simp] theorem low_dead {k : Nat} : Low k .dead = True := by simp [Low]
@[simp] theorem lowAll_nil {k : Nat} : LowAll k [] = True := by simp [LowAll]
@[simp] theorem lowAll_cons {k : Nat} {x : LV} {xs : List LV} : LowAll k (x :: xs) = (Low k x ∧ LowAll k xs) := by simp [LowAll]
@[simp] theorem lowRow_nil {k : Nat} : LowRow k [] = True := by simp [LowRow]
@[simp] theorem lowRow_cons {k : Nat} {x : List LV} {xs : List (List LV)} : LowRow k (x :: xs) = (LowAll k x ∧ LowRow k xs) := by simp [LowRow]
@[simp] theorem lowRow_app {k : Nat} {xs ys : List (List LV)} : LowRow k (xs ++ ys) = (LowRow k xs ∧ LowRow k ys) := by
  induction xs with
  | nil => simp
  | cons x xs ih => simp [ih, and_assoc]
@[simp] theorem lowAll_app {k : Nat} {xs ys : List LV} : LowAll k (xs ++ ys) = (LowAll k xs ∧ LowAll k ys) := by
  induction xs with
  | nil => simp
  | cons x xs ih => simp [ih, and_assoc]
@[simp] theorem lowRow_map {α : Type} {k : Nat} {xs : List α} {e : α → List LV} : LowRow k (xs.map e) = ∀ x ∈ xs, LowAll k (e x) := by
  induction xs with
  | nil => simp
  | cons x xs ih => simp [ih]
@[simp] theorem rvVals_nil {s : St} : rvVals s [] = some ([], s) := rfl
@[simp] theorem rvVals_tmp {s : St} {t : Nat} {rs : List RV} : rvVals s (.tmp t :: rs) = (rvVals { s with t := upd s.t t (share (s.t t)) } rs).map fun p => (s.t t :: p.1, p.2) := by
  simp only [rvVals, rvVal]
  cases rvVals { s with t := upd s.t t (share (s.t t)) } rs <;> rfl
@[simp] theorem pack_one {v : LV} : pack [v] = v := rfl
@[simp] theorem pack_two {v u : LV} {vs : List LV} : pack (v :: u :: vs) = .tup (v :: u :: vs) := rfl
@[simp] theorem pack_none : pack [] = .tup [] := rfl
def boolLV (o : Option Bool) (K : Bool → Option St) : Option St := match o with
  | some b => K b
  | none => none
@[simp] theorem boolLV_some {b : Bool} {F : Bool → Option St} : boolLV (some b) F = F b := rfl
def idxLV (sz : Nat) (v : LV) (i : Int) : Option LV :=
  match v with
  | .sl _ _ sz' xs => if sz' = sz ∧ 0 ≤ i ∧ i < xs.length then some (share (.rp (xs.getD i.toNat []))) else none
  | .ha l sz' off n _ => if sz' = sz ∧ 0 ≤ i ∧ i < n then some (.ptr l ((off + i.toNat) * sz)) else none
  | _ => none
def cutLV (sz : Nat) (v : LV) (lo hi mx : Option Int) : Option LV :=
  match v with
  | .sl _ nil sz' xs => if sz' = sz ∧ 0 ≤ lo.getD 0 ∧ lo.getD 0 ≤ hi.getD xs.length ∧ hi.getD xs.length ≤ mx.getD xs.length ∧ mx.getD xs.length ≤ xs.length then
      some (.sl (mx.isSome && decide (lo.getD 0 = mx.getD xs.length)) nil sz (shareRow ((xs.take (hi.getD xs.length).toNat).drop (lo.getD 0).toNat))) else none
  | .ha b sz' off n cap => if sz' = sz ∧ lo.getD 0 = 0 ∧ 0 ≤ hi.getD n ∧ hi.getD n ≤ n ∧ n ≤ cap ∧ mx.isSome = false then some (.ha b sz off (hi.getD n).toNat cap) else none
  | _ => none
def appLV (sz : Nat) (x y : LV) : Option LV :=
  match x, y with
  | .sl u nil sz' xs, .sl _ nil2 sz2 ys =>
      if (u = true ∨ nil = true ∨ ys = []) ∧ (sz' = sz ∨ nil = true) ∧ (sz2 = sz ∨ nil2 = true) ∧ xs.length + ys.length ≤ most then
        some (.sl (u || !ys.isEmpty) (nil && ys.isEmpty) sz (xs ++ ys)) else none
  | _, _ => none
def fldLV (ag : Bool) (off sz : Nat) (v : LV) : Option LV :=
  match v with
  | .agg xs => if off + sz ≤ xs.length then (ofCells ag ((xs.drop off).take sz)).map share else none
  | _ => none
def sidxLV (v : LV) (i : Int) : Option LV :=
  match v with
  | .sc (.string b) => if 0 ≤ i ∧ i < b.size then some (.sc (.int .u8 ((b.data.toList.getD i.toNat 0).toNat : Int))) else none
  | _ => none
def scutLV (v : LV) (lo hi : Option Int) : Option LV :=
  match v with
  | .sc (.string b) => if 0 ≤ lo.getD 0 ∧ lo.getD 0 ≤ hi.getD b.size ∧ hi.getD b.size ≤ b.size then some (.sc (.string (b.extract (lo.getD 0).toNat (hi.getD b.size).toNat))) else none
  | _ => none
def bnd (t : Nat → LV) : Option X → Option (Option Int)
  | none => some none
  | some x => (intOf (get t x)).map some
@[simp] theorem bnd_none {t : Nat → LV} : bnd t none = some none := rfl
@[simp] theorem bnd_some {t : Nat → LV} {x : X} : bnd t (some x) = (intOf (get t x)).map some := rfl
theorem bound_bnd {t : Nat → LV} {d : Int} {o : Option X} : bound t d o = (bnd t o).map (·.getD d) := by
  cases o with
  | none => rfl
  | some x => cases h : intOf (get t x) <;> simp [bound, h]
@[simp] theorem intOf_sc {k : IntKind} {n : Int} : intOf (.sc (.int k n)) = some n := rfl
@[simp] theorem gd_bool {w b : Bool} : gd w (.sc (.bool b)) = some b := rfl
@[simp] theorem gd_undefT : gd true (.sc undef) = some false := rfl
@[simp] theorem gd_undefF : gd false (.sc undef) = some true := rfl
@[simp] theorem boolOf_sc {b : Bool} : boolOf (.sc (.bool b)) = some b := rfl
@[simp] theorem lenLV_sl {u nl : Bool} {sz : Nat} {xs : List (List LV)} : lenLV (.sl u nl sz xs) = some xs.length := rfl
@[simp] theorem lenLV_ha {l sz off n cap : Nat} : lenLV (.ha l sz off n cap) = some n := rfl
@[simp] theorem lenStr_sc {b : ByteArray} : lenStr (.sc (.string b)) = some b.size := rfl
@[simp] theorem step_pick {d : Nat} {c x y : X} : step (.pick d c x y) s = boolLV (boolOf (get s.t c)) fun b => some (s.put d (share (get s.t (if b = true then x else y)))) := by
  simp only [step]
  split
  · rename_i b h; rw [h]; rfl
  · rename_i h
    cases hb : boolOf (get s.t c) with
    | none => rfl
    | some b => exact absurd (by unfold boolOf at hb; split at hb <;> simp_all) (h b)
@[simp] theorem step_indexA {d sz : Nat} {x i : X} : step (.indexA d sz x i) s = ((intOf (get s.t i)).bind (idxLV sz (get s.t x))).map (s.put d) := by
  simp only [step]
  cases hi : intOf (get s.t i) with
  | none => cases get s.t x <;> simp
  | some i => cases get s.t x <;> simp [idxLV] <;> (try split) <;> simp_all
@[simp] theorem step_indexS {d : Nat} {x i : X} : step (.indexS d x i) s = ((intOf (get s.t i)).bind (sidxLV (get s.t x))).map (s.put d) := by
  simp only [step]
  cases hi : intOf (get s.t i) with
  | none => cases hv : get s.t x with
    | sc v => cases v <;> simp
    | _ => simp
  | some i => cases hv : get s.t x with
    | sc v => cases v <;> simp [sidxLV] <;> (try split) <;> simp_all
    | _ => simp [sidxLV]
@[simp] theorem step_slice {d sz : Nat} {x : X} {lo hi mx : Option X} : step (.slice d sz x lo hi mx) s = ((bnd s.t lo).bind fun a => (bnd s.t hi).bind fun b => (bnd s.t mx).bind fun c => cutLV sz (get s.t x) a b c).map (s.put d) := by
  simp only [step, cutLV, bound_bnd]
  cases hv : get s.t x with
  | sl u nl sz' xs =>
    cases ha : bnd s.t lo <;> cases hb : bnd s.t hi <;> cases hc : bnd s.t mx <;> try (simp; done)
    rename_i va vb vc
    have hs : vc.isSome = mx.isSome := by
      cases mx with
      | none => simp at hc; rw [← hc]; rfl
      | some x => simp at hc; obtain ⟨_, _, h⟩ := hc; rw [← h]; rfl
    simp only [Option.map_some, Option.bind_some, hs]
    split <;> rfl
  | ha b sz' off n cap =>
    cases ha : bnd s.t lo <;> cases hb : bnd s.t hi <;> cases hc : bnd s.t mx <;> try (simp; done)
    rename_i va vb vc
    have hs : vc.isSome = mx.isSome := by
      cases mx with
      | none => simp at hc; rw [← hc]; rfl
      | some x => simp at hc; obtain ⟨_, _, h⟩ := hc; rw [← h]; rfl
    simp only [Option.map_some, Option.bind_some, hs]
    split <;> rfl
  | _ => cases ha : bnd s.t lo <;> cases hb : bnd s.t hi <;> cases hc : bnd s.t mx <;> simp
@[simp] theorem step_sliceS {d : Nat} {x : X} {lo hi : Option X} : step (.sliceS d x lo hi) s = ((bnd s.t lo).bind fun a => (bnd s.t hi).bind fun b => scutLV (get s.t x) a b).map (s.put d) := by
  simp only [step, scutLV, bound_bnd]
  cases hv : get s.t x with
  | sc v => cases v <;> cases ha : bnd s.t lo <;> cases hb : bnd s.t hi <;> simp <;> (try split) <;> simp_all
  | _ => cases ha : bnd s.t lo <;> cases hb : bnd s.t hi <;> simp
@[simp] theorem step_append {d sz : Nat} {x y : X} : step (.append d sz x y) s = (appLV sz (get s.t x) (get (give s.t x) y)).map (((s.give x).give y).put d) := by
  simp only [step, appLV]
  generalize get s.t x = v
  generalize get (give s.t x) y = u
  cases v <;> try rfl
  cases u <;> try rfl
  simp only
  split <;> rfl
@[simp] theorem step_field {d off sz : Nat} {ag : Bool} {x : X} : step (.field d ag off sz x) s = (fldLV ag off sz (get s.t x)).map (s.put d) := by
  simp only [step, fldLV]
  generalize get s.t x = v
  cases v <;> try rfl
  rename_i xs
  simp only
  by_cases hb : off + sz ≤ xs.length
  · rw [if_pos hb, if_pos hb]
    cases h : ofCells ag ((xs.drop off).take sz) <;> rfl
  · rw [if_neg hb, if_neg hb]; rfl
def loadLV (h : List Box) (ag : Bool) (sz : Nat) (v : LV) : Option LV :=
  match v with
  | .ptr l o => match h[l]? with
    | some (some xs) => if o + sz ≤ xs.length ∧ aliveAll ((xs.drop o).take sz) = true then ofCells ag ((xs.drop o).take sz) else none
    | _ => none
  | .rp ys => if sz ≤ ys.length then ofCells ag (ys.take sz) else none
  | _ => none
def rdLV (ag : Bool) (sz : Nat) (v : LV) : Option LV :=
  match v with
  | .rp ys => if sz ≤ ys.length then ofCells ag (ys.take sz) else none
  | _ => none
def stLV (h : List Box) (sz : Nat) (p v : LV) : Option (List Box) :=
  match p with
  | .ptr l o => match h[l]? with
    | some (some xs) => if v.flat ∧ v.cells.length = sz ∧ o + sz ≤ xs.length then some (h.set l (some (splice xs o v.cells))) else none
    | _ => none
  | _ => none
def takeLV (h : List Box) (ag : Bool) (sz : Nat) (v : LV) : Option (LV × List Box) :=
  match v with
  | .ptr l o => match h[l]? with
    | some (some xs) => if o + sz ≤ xs.length ∧ aliveAll ((xs.drop o).take sz) = true then (ofCells ag ((xs.drop o).take sz)).map fun v => (v, h.set l (some (splice xs o (List.replicate sz .dead)))) else none
    | _ => none
  | .rp ys => if sz ≤ ys.length then (ofCells ag (ys.take sz)).map fun v => (share v, h) else none
  | _ => none
def tupAt (v : LV) (k : Nat) : Option (LV × LV) :=
  match v with
  | .tup xs => xs[k]?.map fun v => (v, .tup (xs.set k (share v)))
  | _ => none
def faLV (off : Nat) (v : LV) : Option LV :=
  match v with
  | .ptr l o => some (.ptr l (o + off))
  | .rp ys => if off ≤ ys.length then some (share (.rp (ys.drop off))) else none
  | _ => none
def nnLV (v : LV) : Option LV :=
  match v with
  | .ptr l o => some (.ptr l o)
  | .rp ys => some (share (.rp ys))
  | .fn f caps => some (share (.fn f caps))
  | .fnm f caps => some (share (.fnm f caps))
  | _ => none
def boxLV (v : LV) : Option (List LV) := if v.flat = true then some v.cells else none
@[simp] theorem lget_0 {α : Type} {a0 : α} {l : List α} : (a0 :: l)[0]? = some a0 := rfl
@[simp] theorem lget_1 {α : Type} {a0 a1 : α} {l : List α} : (a0 :: a1 :: l)[1]? = some a1 := rfl
@[simp] theorem lget_2 {α : Type} {a0 a1 a2 : α} {l : List α} : (a0 :: a1 :: a2 :: l)[2]? = some a2 := rfl
@[simp] theorem lget_3 {α : Type} {a0 a1 a2 a3 : α} {l : List α} : (a0 :: a1 :: a2 :: a3 :: l)[3]? = some a3 := rfl
@[simp] theorem lget_4 {α : Type} {a0 a1 a2 a3 a4 : α} {l : List α} : (a0 :: a1 :: a2 :: a3 :: a4 :: l)[4]? = some a4 := rfl
@[simp] theorem lget_5 {α : Type} {a0 a1 a2 a3 a4 a5 : α} {l : List α} : (a0 :: a1 :: a2 :: a3 :: a4 :: a5 :: l)[5]? = some a5 := rfl
@[simp] theorem lget_6 {α : Type} {a0 a1 a2 a3 a4 a5 a6 : α} {l : List α} : (a0 :: a1 :: a2 :: a3 :: a4 :: a5 :: a6 :: l)[6]? = some a6 := rfl
@[simp] theorem lget_7 {α : Type} {a0 a1 a2 a3 a4 a5 a6 a7 : α} {l : List α} : (a0 :: a1 :: a2 :: a3 :: a4 :: a5 :: a6 :: a7 :: l)[7]? = some a7 := rfl
@[simp] theorem lget_8 {α : Type} {a0 a1 a2 a3 a4 a5 a6 a7 a8 : α} {l : List α} : (a0 :: a1 :: a2 :: a3 :: a4 :: a5 :: a6 :: a7 :: a8 :: l)[8]? = some a8 := rfl
@[simp] theorem lget_9 {α : Type} {a0 a1 a2 a3 a4 a5 a6 a7 a8 a9 : α} {l : List α} : (a0 :: a1 :: a2 :: a3 :: a4 :: a5 :: a6 :: a7 :: a8 :: a9 :: l)[9]? = some a9 := rfl
@[simp] theorem lget_10 {α : Type} {a0 a1 a2 a3 a4 a5 a6 a7 a8 a9 a10 : α} {l : List α} : (a0 :: a1 :: a2 :: a3 :: a4 :: a5 :: a6 :: a7 :: a8 :: a9 :: a10 :: l)[10]? = some a10 := rfl
@[simp] theorem lget_11 {α : Type} {a0 a1 a2 a3 a4 a5 a6 a7 a8 a9 a10 a11 : α} {l : List α} : (a0 :: a1 :: a2 :: a3 :: a4 :: a5 :: a6 :: a7 :: a8 :: a9 :: a10 :: a11 :: l)[11]? = some a11 := rfl
@[simp] theorem lget_12 {α : Type} {a0 a1 a2 a3 a4 a5 a6 a7 a8 a9 a10 a11 a12 : α} {l : List α} : (a0 :: a1 :: a2 :: a3 :: a4 :: a5 :: a6 :: a7 :: a8 :: a9 :: a10 :: a11 :: a12 :: l)[12]? = some a12 := rfl
@[simp] theorem lget_13 {α : Type} {a0 a1 a2 a3 a4 a5 a6 a7 a8 a9 a10 a11 a12 a13 : α} {l : List α} : (a0 :: a1 :: a2 :: a3 :: a4 :: a5 :: a6 :: a7 :: a8 :: a9 :: a10 :: a11 :: a12 :: a13 :: l)[13]? = some a13 := rfl
@[simp] theorem lget_14 {α : Type} {a0 a1 a2 a3 a4 a5 a6 a7 a8 a9 a10 a11 a12 a13 a14 : α} {l : List α} : (a0 :: a1 :: a2 :: a3 :: a4 :: a5 :: a6 :: a7 :: a8 :: a9 :: a10 :: a11 :: a12 :: a13 :: a14 :: l)[14]? = some a14 := rfl
@[simp] theorem lget_15 {α : Type} {a0 a1 a2 a3 a4 a5 a6 a7 a8 a9 a10 a11 a12 a13 a14 a15 : α} {l : List α} : (a0 :: a1 :: a2 :: a3 :: a4 :: a5 :: a6 :: a7 :: a8 :: a9 :: a10 :: a11 :: a12 :: a13 :: a14 :: a15 :: l)[15]? = some a15 := rfl
@[simp] theorem splice_def {xs ys : List LV} {o : Nat} : splice xs o ys = xs.take o ++ ys ++ xs.drop (o + ys.length) := rfl
@[simp] theorem chunks_0 {xs : List LV} : chunks 1 0 xs = [] := rfl
@[simp] theorem chunks_1 {a : LV} : chunks 1 1 [a] = [[a]] := rfl
@[simp] theorem chunks_2 {a b : LV} : chunks 1 2 [a, b] = [[a], [b]] := rfl
@[simp] theorem chunks_3 {a b c : LV} : chunks 1 3 [a, b, c] = [[a], [b], [c]] := rfl
@[simp] theorem chunks_4 {a b c d : LV} : chunks 1 4 [a, b, c, d] = [[a], [b], [c], [d]] := rfl
@[simp] theorem chunks_5 {a b c d e : LV} : chunks 1 5 [a, b, c, d, e] = [[a], [b], [c], [d], [e]] := rfl
@[simp] theorem chunks_6 {a b c d e f : LV} : chunks 1 6 [a, b, c, d, e, f] = [[a], [b], [c], [d], [e], [f]] := rfl
@[simp] theorem fillLV_nil {t : Nat → LV} {zs : List LV} : fillLV t zs [] = some zs := rfl
@[simp] theorem fillLV_cons {t : Nat → LV} {zs : List LV} {off sz : Nat} {x : X} {ps : List (Nat × Nat × X)} : fillLV t zs ((off, sz, x) :: ps) =
    if (get t x).flat ∧ (get t x).cells.length = sz ∧ off + sz ≤ zs.length then fillLV (give t x) (splice zs off (get t x).cells) ps else none := rfl
@[simp] theorem step_mkslice {d sz : Nat} {z : List LV} {n : X} : step (.mkslice d sz z n) s = (intOf (get s.t n)).bind fun n => if 0 ≤ n ∧ n ≤ most then some ⟨upd s.t d (.ha s.h.length sz 0 n.toNat n.toNat), s.h ++ [some (List.replicate n.toNat z).flatten]⟩ else none := by
  simp only [step]
  cases intOf (get s.t n) <;> rfl
@[simp] theorem get_last {α : Type} {h : List α} {x : α} : (h ++ [x])[h.length]? = some x := by simp
@[simp] theorem set_last {α : Type} {h : List α} {x y : α} : (h ++ [x]).set h.length y = h ++ [y] := by simp
@[simp] theorem rep_one {n : Nat} {x : LV} : (List.replicate n [x]).flatten = List.replicate n x := by
  induction n with
  | zero => rfl
  | succ n ih => simp [List.replicate_succ, ih]
theorem idx_ha {l sz off n cap : Nat} {i : Nat} (h : i < n) : idxLV sz (.ha l sz off n cap) (i : Int) = some (.ptr l ((off + i) * sz)) := by
  simp only [idxLV]
  rw [if_pos ⟨trivial, by omega, by omega⟩]
  simp
@[simp] theorem step_bad {d : Option Nat} : step (.bad d) s = none := rfl
@[simp] theorem ofCells_agg {xs : List LV} : ofCells true xs = some (.agg xs) := rfl
@[simp] theorem ofCells_one {x : LV} : ofCells false [x] = some x := rfl
@[simp] theorem loadLV_rp {h : List Box} {ag : Bool} {sz : Nat} {ys : List LV} : loadLV h ag sz (.rp ys) = if sz ≤ ys.length then ofCells ag (ys.take sz) else none := rfl
@[simp] theorem loadLV_ptr {h : List Box} {ag : Bool} {sz l o : Nat} : loadLV h ag sz (.ptr l o) = match h[l]? with
    | some (some xs) => if o + sz ≤ xs.length ∧ aliveAll ((xs.drop o).take sz) = true then ofCells ag ((xs.drop o).take sz) else none
    | _ => none := rfl
@[simp] theorem takeLV_ptr {h : List Box} {ag : Bool} {sz l o : Nat} : takeLV h ag sz (.ptr l o) = match h[l]? with
    | some (some xs) => if o + sz ≤ xs.length ∧ aliveAll ((xs.drop o).take sz) = true then (ofCells ag ((xs.drop o).take sz)).map fun v => (v, h.set l (some (splice xs o (List.replicate sz .dead)))) else none
    | _ => none := rfl
@[simp] theorem stLV_ptr {h : List Box} {sz l o : Nat} {v : LV} : stLV h sz (.ptr l o) v = match h[l]? with
    | some (some xs) => if v.flat ∧ v.cells.length = sz ∧ o + sz ≤ xs.length then some (h.set l (some (splice xs o v.cells))) else none
    | _ => none := rfl
@[simp] theorem tupAt_tup {xs : List LV} {k : Nat} : tupAt (.tup xs) k = xs[k]?.map fun v => (v, .tup (xs.set k (share v))) := rfl
@[simp] theorem faLV_ptr {l o off : Nat} : faLV off (.ptr l o) = some (.ptr l (o + off)) := rfl
@[simp] theorem faLV_rp {ys : List LV} {off : Nat} : faLV off (.rp ys) = if off ≤ ys.length then some (share (.rp (ys.drop off))) else none := rfl
@[simp] theorem nnLV_ptr {l o : Nat} : nnLV (.ptr l o) = some (.ptr l o) := rfl
@[simp] theorem nnLV_rp {ys : List LV} : nnLV (.rp ys) = some (share (.rp ys)) := rfl
@[simp] theorem nnLV_fn {f : FuncId} {caps : List LV} : nnLV (.fn f caps) = some (share (.fn f caps)) := rfl
@[simp] theorem nnLV_fnm {f : FuncId} {caps : List LV} : nnLV (.fnm f caps) = some (share (.fnm f caps)) := rfl
@[simp] theorem flat_sl {u nl : Bool} {sz : Nat} {xs : List (List LV)} : LV.flat (.sl u nl sz xs) = true := rfl
@[simp] theorem flat_ptr {l o : Nat} : LV.flat (.ptr l o) = true := rfl
@[simp] theorem flat_agg {xs : List LV} : LV.flat (.agg xs) = true := rfl
@[simp] theorem flat_fn {f : FuncId} {xs : List LV} : LV.flat (.fn f xs) = true := rfl
@[simp] theorem flat_fnm {f : FuncId} {xs : List LV} : LV.flat (.fnm f xs) = true := rfl
@[simp] theorem flat_int {k : IntKind} {n : Int} : LV.flat (.sc (.int k n)) = true := rfl
@[simp] theorem flat_bool {b : Bool} : LV.flat (.sc (.bool b)) = true := rfl
@[simp] theorem flat_str {b : ByteArray} : LV.flat (.sc (.string b)) = true := rfl
@[simp] theorem flat_nil : LV.flat (.sc (.pointer none)) = true := rfl
@[simp] theorem cells_sl {u nl : Bool} {sz : Nat} {xs : List (List LV)} : LV.cells (.sl u nl sz xs) = [.sl u nl sz xs] := rfl
@[simp] theorem cells_ptr {l o : Nat} : LV.cells (.ptr l o) = [.ptr l o] := rfl
@[simp] theorem cells_agg {xs : List LV} : LV.cells (.agg xs) = xs := rfl
@[simp] theorem cells_fn {f : FuncId} {xs : List LV} : LV.cells (.fn f xs) = [.fn f xs] := rfl
@[simp] theorem cells_fnm {f : FuncId} {xs : List LV} : LV.cells (.fnm f xs) = [.fnm f xs] := rfl
@[simp] theorem cells_sc {v : Value} : LV.cells (.sc v) = [.sc v] := rfl
@[simp] theorem step_loadc {d : Nat} {ag : Bool} {sz : Nat} {x : X} : step (.load d .copy ag sz x) s = (loadLV s.h ag sz (get s.t x)).map fun v => s.put d (share v) := by
  simp only [step, loadLV, Md.settled]
  generalize get s.t x = v
  cases v <;> try rfl
  · rename_i l o; simp only [Bool.false_eq_true, if_false]; cases s.h[l]? with
    | none => rfl
    | some b => cases b with
      | none => rfl
      | some xs => simp only; split
                   · cases ofCells ag ((xs.drop o).take sz) <;> rfl
                   · rfl
  · rename_i ys; simp only; split
    · cases ofCells ag (ys.take sz) <;> rfl
    · rfl
@[simp] theorem step_loadt {d : Nat} {ag : Bool} {sz : Nat} {x : X} : step (.load d .take ag sz x) s = (rdLV ag sz (get s.t x)).map fun v => s.put d (share v) := by
  simp only [step, rdLV, Md.settled]
  generalize get s.t x = v
  cases v <;> try rfl
  rename_i ys; simp only; split
  · cases ofCells ag (ys.take sz) <;> rfl
  · rfl
@[simp] theorem step_loadf {d : Nat} {ag : Bool} {sz : Nat} {x : X} : step (.load d .frz ag sz x) s = (takeLV s.h ag sz (get s.t x)).map fun p => ⟨upd s.t d p.1, p.2⟩ := by
  simp only [step, takeLV, Md.settled]
  generalize get s.t x = v
  cases v <;> try rfl
  · rename_i l o; simp only [Bool.false_eq_true, if_false]; cases s.h[l]? with
    | none => rfl
    | some b => cases b with
      | none => rfl
      | some xs => simp only; split
                   · cases ofCells ag ((xs.drop o).take sz) <;> rfl
                   · rfl
  · rename_i ys; simp only; split
    · cases ofCells ag (ys.take sz) <;> rfl
    · rfl
@[simp] theorem rdLV_rp {ag : Bool} {sz : Nat} {ys : List LV} : rdLV ag sz (.rp ys) = if sz ≤ ys.length then ofCells ag (ys.take sz) else none := rfl
@[simp] theorem alive_nil : aliveAll [] = true := rfl
@[simp] theorem alive_cons {x : LV} {xs : List LV} : aliveAll (x :: xs) = (x.alive && aliveAll xs) := rfl
@[simp] theorem alive_sc {v : Value} : (LV.sc v).alive = true := rfl
@[simp] theorem alive_sl {u nl : Bool} {sz : Nat} {xs : List (List LV)} : (LV.sl u nl sz xs).alive = true := rfl
@[simp] theorem alive_ha {l sz off n cap : Nat} : (LV.ha l sz off n cap).alive = true := rfl
@[simp] theorem alive_ptr {l o : Nat} : (LV.ptr l o).alive = true := rfl
@[simp] theorem alive_rp {xs : List LV} : (LV.rp xs).alive = true := rfl
@[simp] theorem alive_fn {f : FuncId} {xs : List LV} : (LV.fn f xs).alive = true := rfl
@[simp] theorem alive_fnm {f : FuncId} {xs : List LV} : (LV.fnm f xs).alive = true := rfl
@[simp] theorem alive_agg {xs : List LV} : (LV.agg xs).alive = true := rfl
@[simp] theorem alive_tup {xs : List LV} : (LV.tup xs).alive = true := rfl
theorem alive_share' : ∀ x : LV, x.alive = true → (∀ sz, x ≠ .raw sz) → (share x).alive = true
  | .sc _, _, _ => by simp [share, LV.alive]
  | .sl _ _ _ _, _, _ => by simp [share, LV.alive]
  | .ha _ _ _ _ _, _, _ => by simp [share, LV.alive]
  | .ptr _ _, _, _ => by simp [share, LV.alive]
  | .rp _, _, _ => by simp [share, LV.alive]
  | .fn _ _, _, _ => by simp [share, LV.alive]
  | .fnm _ _, _, _ => by simp [share, LV.alive]
  | .agg _, _, _ => by simp [share, LV.alive]
  | .tup _, _, _ => by simp [share, LV.alive]
  | .raw sz, _, hr => absurd rfl (hr sz)
  | .dead, h, _ => by simp [LV.alive] at h
  | .both _ t, h, _ => by
    simp only [LV.alive, Bool.and_eq_true] at h
    simp only [share]
    exact alive_share' t h.1 (fun sz e => by rw [e] at h; simp at h)
@[simp] theorem alive_share {x : LV} (h : x.alive = true) (hr : ∀ sz, x ≠ .raw sz) : (share x).alive = true := alive_share' x h hr
@[simp] theorem step_store {sz : Nat} {x y : X} : step (.store sz x y) s = (stLV s.h sz (get s.t x) (get s.t y)).map fun h' => ⟨give s.t y, h'⟩ := by
  simp only [step, stLV]
  generalize get s.t x = v
  cases v <;> try rfl
  rename_i l o; simp only; cases s.h[l]? with
    | none => rfl
    | some b => cases b with
      | none => rfl
      | some xs => simp only; split <;> rfl
@[simp] theorem step_extract {d k i : Nat} : step (.extract d k (.t i)) s = (tupAt (s.t i) k).map fun p => ⟨upd (upd s.t i p.2) d p.1, s.h⟩ := by
  simp only [step, tupAt]
  show (match s.t i with | .tup xs => _ | _ => none) = _
  generalize s.t i = v
  cases v <;> try rfl
  rename_i xs; simp only; cases xs[k]? <;> rfl
def capLV (v : LV) : Option LV := match v with
  | .sl _ true _ _ => some (.sc (.int .i64 0))
  | _ => none
def growLV (sz : Nat) (v : LV) (n : Int) : Option LV := match v with
  | .sl _ true _ _ => if 0 < n ∧ n ≤ most then some (.raw sz) else none
  | _ => none
def cut0LV (sz : Nat) (v : LV) (n : Int) : Option LV := match v with
  | .raw sz' => if sz' = sz ∧ n = 0 then some (.sl true false sz []) else none
  | _ => none
@[simp] theorem capLV_nil {u : Bool} {sz : Nat} {xs : List (List LV)} : capLV (.sl u true sz xs) = some (.sc (.int .i64 0)) := rfl
@[simp] theorem growLV_nil {sz sz' : Nat} {u : Bool} {xs : List (List LV)} {n : Int} : growLV sz (.sl u true sz' xs) n = if 0 < n ∧ n ≤ most then some (.raw sz) else none := rfl
@[simp] theorem cut0LV_raw {sz sz' : Nat} {n : Int} : cut0LV sz (.raw sz') n = if sz' = sz ∧ n = 0 then some (.sl true false sz []) else none := rfl
@[simp] theorem step_cap {d : Nat} {x : X} : step (.cap d x) s = (capLV (get s.t x)).map (s.put d) := by
  simp only [step]
  generalize get s.t x = v
  cases v <;> try rfl
  rename_i u nl sz' xs
  cases nl <;> rfl
@[simp] theorem step_growz {d sz : Nat} {x n : X} : step (.growz d sz x n) s = ((intOf (get s.t n)).bind (growLV sz (get s.t x))).map (s.put d) := by
  simp only [step]
  cases hi : intOf (get s.t n) with
  | none => split <;> simp_all
  | some m =>
    generalize get s.t x = v
    cases v <;> try rfl
    rename_i u nl sz' xs
    cases nl
    · rfl
    · simp only [growLV, Option.bind_some]
      split <;> rfl
@[simp] theorem step_cut0 {d sz : Nat} {x hi : X} : step (.cut0 d sz x hi) s = ((intOf (get s.t hi)).bind (cut0LV sz (get s.t x))).map ((s.give x).put d) := by
  simp only [step]
  cases hi : intOf (get s.t hi) with
  | none => split <;> simp_all
  | some m =>
    generalize get s.t x = v
    cases v <;> try rfl
    simp only [cut0LV, Option.bind_some]
    split <;> rfl
@[simp] theorem step_fieldA {d off : Nat} {x : X} : step (.fieldA d off x) s = (faLV off (get s.t x)).map (s.put d) := by
  simp only [step, faLV]
  generalize get s.t x = v
  cases v <;> try rfl
  simp only; split <;> rfl
@[simp] theorem step_nilchk {d : Nat} {x : X} : step (.nilchk d x) s = (nnLV (get s.t x)).map (s.put d) := by
  simp only [step, nnLV]
  generalize get s.t x = v
  cases v <;> simp [share]
@[simp] theorem step_box {d : Nat} {x : X} : step (.box d x) s = (boxLV (get s.t x)).map fun cs => ⟨upd (give s.t x) d (.ptr s.h.length 0), s.h ++ [some cs]⟩ := by
  simp only [step, boxLV]
  split <;> rfl
def frzLV (h : List Box) (v : LV) : Option (LV × List Box) :=
  match v with
  | .ptr l 0 => match h[l]? with
    | some (some xs) => some (.rp xs, h.set l none)
    | _ => none
  | .ha l sz 0 n cap => match h[l]? with
    | some (some xs) => if xs.length = cap * sz ∧ n ≤ cap then some (.sl true false sz (chunks sz n xs), h.set l none) else none
    | _ => none
  | _ => none
@[simp] theorem step_mvf {d : Nat} {x : X} : step (.mv d .frz x) s = (frzLV s.h (get s.t x)).map fun p => ⟨upd s.t d p.1, p.2⟩ := by
  simp only [step]
  generalize get s.t x = v
  cases v with
  | ptr l o => cases o with
    | zero =>
      simp only [frzLV]
      cases s.h[l]? with
      | none => rfl
      | some b => cases b <;> rfl
    | succ o => rfl
  | ha l sz off n cap => cases off with
    | zero =>
      simp only [frzLV]
      cases s.h[l]? with
      | none => rfl
      | some b => cases b with
        | none => rfl
        | some xs => simp only; split <;> rfl
    | succ o => rfl
  | _ => rfl
@[simp] theorem thenL_normal {n : St → Prop} : thenL n Q .normal s = n s := rfl
@[simp] theorem thenL_ret {n : St → Prop} : thenL n Q .ret s = Q .ret s := rfl
@[simp] theorem thenL_exit {n : St → Prop} {i : Nat} : thenL n Q (.exit i) s = Q (.exit i) s := rfl
@[simp] theorem inBlockL_normal {i : Nat} : inBlockL i Q .normal s = Q .normal s := rfl
@[simp] theorem inBlockL_ret {i : Nat} : inBlockL i Q .ret s = Q .ret s := rfl
@[simp] theorem inBlockL_exit {i j : Nat} : inBlockL i Q (.exit j) s = if j = i then Q .normal s else Q (.exit j) s := rfl
end
@[simp] theorem upd_at {α : Type} (t : Nat → α) (i : Nat) (v : α) (j : Nat) : upd t i v j = if j = i then v else t j := rfl
@[simp] theorem put_eta {s : St} {d : Nat} {v : LV} : s.put d v = ⟨upd s.t d v, s.h⟩ := rfl
@[simp] theorem give_eta {s : St} {i : Nat} : s.give (.t i) = ⟨upd s.t i (share (s.t i)), s.h⟩ := rfl
@[simp] theorem giveF_k {t : Nat → LV} {v : LV} : give t (.k v) = t := rfl
@[simp] theorem giveF_t {t : Nat → LV} {i : Nat} : give t (.t i) = upd t i (share (t i)) := rfl
@[simp] theorem giveAll_nil {t : Nat → LV} : giveAll t [] = t := rfl
@[simp] theorem giveAll_cons {t : Nat → LV} {x : X} {xs : List X} : giveAll t (x :: xs) = giveAll (give t x) xs := rfl
@[simp] theorem give_k {s : St} {v : LV} : s.give (.k v) = s := rfl
@[simp] theorem get_t {t : Nat → LV} {i : Nat} : get t (.t i) = t i := rfl
@[simp] theorem get_k {t : Nat → LV} {v : LV} : get t (.k v) = v := rfl
@[simp] theorem share_sc {v : Value} : share (.sc v) = .sc v := by simp only [share]
@[simp] theorem share_sl {u nl : Bool} {sz : Nat} {xs : List (List LV)} : share (.sl u nl sz xs) = .sl false nl sz (shareRow xs) := by simp only [share]
@[simp] theorem share_ha {l sz off n cap : Nat} : share (.ha l sz off n cap) = .ha l sz off n cap := by simp only [share]
@[simp] theorem share_ptr {l o : Nat} : share (.ptr l o) = .ptr l o := by simp only [share]
@[simp] theorem share_rp {xs : List LV} : share (.rp xs) = .rp (shareAll xs) := by simp only [share]
@[simp] theorem share_fn {f : FuncId} {xs : List LV} : share (.fn f xs) = .fn f (shareAll xs) := by simp only [share]
@[simp] theorem share_fnm {f : FuncId} {xs : List LV} : share (.fnm f xs) = .fnm f (shareAll xs) := by simp only [share]
@[simp] theorem share_agg {xs : List LV} : share (.agg xs) = .agg (shareAll xs) := by simp only [share]
@[simp] theorem share_tup {xs : List LV} : share (.tup xs) = .tup (shareAll xs) := by simp only [share]
@[simp] theorem share_raw {sz : Nat} : share (.raw sz) = .dead := by simp only [share]
@[simp] theorem share_dead : share .dead = .dead := by simp only [share]
@[simp] theorem shareAll_nil : shareAll [] = [] := by simp only [shareAll]
@[simp] theorem shareAll_cons {x : LV} {xs : List LV} : shareAll (x :: xs) = share x :: shareAll xs := by simp only [shareAll]
@[simp] theorem shareRow_nil : shareRow [] = [] := by simp only [shareRow]
@[simp] theorem shareRow_cons {x : List LV} {xs : List (List LV)} : shareRow (x :: xs) = shareAll x :: shareRow xs := by simp only [shareRow]
@[simp] theorem shareRow_map {α : Type} {xs : List α} {e : α → List LV} : shareRow (xs.map e) = xs.map fun x => shareAll (e x) := by rw [shareRow_eq_map]; simp [shareAll_eq_map]
@[simp] theorem shareRow_app {xs ys : List (List LV)} : shareRow (xs ++ ys) = shareRow xs ++ shareRow ys := by simp [shareRow_eq_map]
@[simp] theorem shareAll_app {xs ys : List LV} : shareAll (xs ++ ys) = shareAll xs ++ shareAll ys := by simp [shareAll_eq_map]
@[simp] theorem env_0 {a : LV} {l : List LV} : env (a :: l) 0 = a := rfl
@[simp] theorem env_1 {a b : LV} {l : List LV} : env (a :: b :: l) 1 = b := rfl
@[simp] theorem env_2 {a b c : LV} {l : List LV} : env (a :: b :: c :: l) 2 = c := rfl
@[simp] theorem env_3 {a b c d : LV} {l : List LV} : env (a :: b :: c :: d :: l) 3 = d := rfl
@[simp] theorem env_4 {a b c d e : LV} {l : List LV} : env (a :: b :: c :: d :: e :: l) 4 = e := rfl
@[simp] theorem env_5 {a b c d e f : LV} {l : List LV} : env (a :: b :: c :: d :: e :: f :: l) 5 = f := rfl
@[simp] theorem env_6 {a b c d e f g : LV} {l : List LV} : env (a :: b :: c :: d :: e :: f :: g :: l) 6 = g := rfl
@[simp] theorem env_7 {a b c d e f g h : LV} {l : List LV} : env (a :: b :: c :: d :: e :: f :: g :: h :: l) 7 = h := rfl
theorem i64_wrap {n : Int} (h : -9223372036854775808 ≤ n ∧ n ≤ 9223372036854775807) : IntKind.i64.wrap n = n := by exact IntWalk.i64_in n h
end Go.TL
