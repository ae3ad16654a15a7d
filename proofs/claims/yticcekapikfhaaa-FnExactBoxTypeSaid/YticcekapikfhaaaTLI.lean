/- Calls that leave the variables alone: contracts over trees alone. No program, no conditions. -/
import Derived.Test.YticcekapikfhaaaTLH
namespace Go.TL

section
variable {w w' : World} {A B : GM} {μ : List Nat} {h : List Box} {OH : List (List Own)} {Oa O' : List Own}

theorem St'.frame (i : WInv w A μ h OH Oa) (c : St' (CallCx w A [] [] [] Oa) w' B [] [] [] O') : St' (CallCx w A μ h OH Oa) w' B μ h OH O' := by
  have csz : w.heap.size ≤ w'.heap.size := c.since.size
  have nlive : ∀ b, Live μ h b → b < w.heap.size ∧ ¬ (Live [] [] b ∨ Owns (Oa ++ ([] : List (List Own)).flatten) b) := by
    intro b hb
    refine ⟨i.live_lt hb, ?_⟩
    rintro (⟨l, xs, h1, _⟩ | ⟨m, k, ho⟩)
    · simp at h1
    · exact (i.own b m k (by simp at ho; exact List.mem_append.2 (.inl ho))).2.2 hb
  have nown : ∀ b m k, (b, m, k) ∈ OH.flatten → b < w.heap.size ∧ ¬ (Live [] [] b ∨ Owns (Oa ++ ([] : List (List Own)).flatten) b) := by
    intro b m k hm
    refine ⟨i.own_lt (List.mem_append.2 (.inr hm)), ?_⟩
    rintro (⟨l, xs, h1, _⟩ | ⟨m', k', ho⟩)
    · simp at h1
    · have h1 := i.once b
      simp only [List.countP_append] at h1
      have h2 : 0 < OH.flatten.countP (isAt b) := owns_count.1 ⟨m, k, hm⟩
      have h3 : 0 < Oa.countP (isAt b) := owns_count.1 ⟨m', k', by simpa using ho⟩
      omega
  have cown : ∀ b m k, (b, m, k) ∈ O' → w.heap.size ≤ b ∨ Owns Oa b := by
    intro b m k hm
    rcases c.since.ownT b m k (by simpa using hm) with h1 | h1 | ⟨m', k', ho⟩
    · exact .inl h1
    · obtain ⟨l, xs, h2, _⟩ := h1; simp at h2
    · exact .inr ⟨m', k', by simpa using ho⟩
  refine ⟨⟨i.len, i.lenO, c.inv.cells, ?_, ?_, i.apart, ?_, ?_⟩, ⟨csz, ?_, ?_, fun b hb => .inr (.inl hb), c.since.le, ⟨[], by simp [CallCx]⟩, c.since.still⟩⟩
  · intro l xs hl
    obtain ⟨cs, e, g1, g2, g3⟩ := i.box l xs hl
    obtain ⟨hlt, hT⟩ := nlive _ ⟨l, xs, hl, rfl⟩
    obtain ⟨k1, k2⟩ := c.since.kept _ hlt hT
    refine ⟨cs, e, by rw [k1]; exact g1, ?_, g3⟩
    have := RepVals.mono (ν := []) c.since.le xs cs.toList _ g2
    rwa [List.append_nil] at this
  · intro b hb j
    obtain ⟨hlt, hT⟩ := nlive b hb
    obtain ⟨_, k2⟩ := c.since.kept _ hlt hT
    rw [k2 j]; exact i.loose b hb j
  · intro b m k hm
    rcases List.mem_append.1 hm with hm | hm
    · obtain ⟨g1, g2, _⟩ := c.inv.own b m k (by simpa using hm)
      refine ⟨g1, g2, fun hl => ?_⟩
      rcases cown b m k hm with h1 | ⟨m', k', h1⟩
      · have := i.live_lt hl; omega
      · exact (i.own b m' k' (List.mem_append.2 (.inl h1))).2.2 hl
    · obtain ⟨hlt, hT⟩ := nown b m k hm
      obtain ⟨⟨cs, e, g1, g2⟩, g3, g4⟩ := i.own b m k (List.mem_append.2 (.inr hm))
      obtain ⟨k1, k2⟩ := c.since.kept _ hlt hT
      exact ⟨⟨cs, e, by rw [k1]; exact g1, g2⟩, fun j hj => by rw [k2 j]; exact g3 j hj, g4⟩
  · intro b
    have h1 := i.once b
    have h2 := c.inv.once b
    simp only [List.countP_append, List.flatten_nil, List.countP_nil] at h1 h2 ⊢
    by_cases hb : 0 < OH.flatten.countP (isAt b)
    · have h4 : O'.countP (isAt b) = 0 := by
        refine Nat.eq_zero_of_not_pos fun hp => ?_
        obtain ⟨m, k, hm⟩ := owns_count.2 hp
        obtain ⟨m', k', hm'⟩ := owns_count.2 hb
        rcases cown b m k hm with h5 | h5
        · have := (nown b m' k' hm').1; omega
        · have := owns_count.1 h5; omega
      omega
    · omega
  · intro b hb ht
    refine c.since.kept b hb fun hc => ht ?_
    rcases hc with ⟨l, xs, h1, _⟩ | ⟨m, k, ho⟩
    · simp at h1
    · exact .inr ⟨m, k, List.mem_append.2 (.inl (by simpa using ho))⟩
  · intro b m k hm
    rcases List.mem_append.1 hm with hm | hm
    · rcases cown b m k hm with h1 | ⟨m', k', h1⟩
      · exact .inl h1
      · exact .inr (.inr ⟨m', k', List.mem_append.2 (.inl h1)⟩)
    · exact .inr (.inr ⟨m, k, List.mem_append.2 (.inr hm)⟩)
end

/-- a function that leaves the variables alone: R holds of its result, in which no place of a variable is -/
def Gives (P : Program) (f : FuncId) (args : List LV) (R : LV → Prop) : Prop := LCalls P f args [] fun r _ => R r ∧ Low 0 r

theorem LowAll.mono {k m : Nat} (h : k ≤ m) {xs : List LV} (hx : LowAll k xs) : LowAll m xs := goA xs hx
where
  go : ∀ x : LV, Low k x → Low m x
    | .sc _, _ => trivial
    | .sl _ _ _ xs, hx => goR xs hx
    | .ha _ _ _ _ _, hx => Nat.lt_of_lt_of_le hx h
    | .ptr _ _, hx => Nat.lt_of_lt_of_le hx h
    | .rp xs, hx => goA xs hx
    | .fn _ xs, hx => goA xs hx
    | .agg xs, hx => goA xs hx
    | .tup xs, hx => goA xs hx
    | .raw _, _ => trivial
    | .dead, _ => trivial
  goA : ∀ xs : List LV, LowAll k xs → LowAll m xs
    | [], _ => trivial
    | x :: xs, hx => ⟨go x hx.1, goA xs hx.2⟩
  goR : ∀ xs : List (List LV), LowRow k xs → LowRow m xs
    | [], _ => trivial
    | x :: xs, hx => ⟨goA x hx.1, goR xs hx.2⟩

section
variable {P : Program}

/-- such a function may be called whatever the variables are: they stay -/
theorem Gives.lift {f : FuncId} {args : List LV} {R : LV → Prop} (c : Gives P f args R) (ha : LowAll 0 args) (h : List Box) : LCalls P f args h fun r h' => h' = h ∧ R r := by
  obtain ⟨h1, ⟨r, _, hr, _⟩, h2⟩ := c
  refine ⟨h1, ⟨r, h, rfl, hr⟩, fun w A μ OH vals Oa hv hi => ?_⟩
  have hv0 : RepVals A [] args vals Oa := RepVals.low (k := 0) (by simp) (fun l hl => by omega) args vals Oa ha hv
  have hi0 : WInv w A [] [] [] Oa := by
    refine ⟨rfl, rfl, hi.cells, by simp, ?_, by simp, ?_, ?_⟩
    · rintro b ⟨l, xs, hl, _⟩; simp at hl
    · intro b m k hm
      obtain ⟨g1, g2, _⟩ := hi.own b m k (List.mem_append.2 (.inl (by simpa using hm)))
      exact ⟨g1, g2, by rintro ⟨l, xs, hl, _⟩; simp at hl⟩
    · intro b
      have := hi.once b
      simp only [List.countP_append, List.flatten_nil, List.countP_nil] at this ⊢
      omega
  refine (h2 w A [] [] vals Oa hv0 hi0).mono fun e w' he => ?_
  obtain ⟨v, r, h', B, ν, OH', O', g1, ⟨g2, glow⟩, g3, g4⟩ := he
  have g5 := g4.cut 0 (by simp [CallCx]) (fun l xs hl => by omega) (Nat.zero_le _)
  simp only [List.take_zero] at g5
  have g6 := St'.frame hi g5
  refine ⟨v, r, h, B, [], OH, O', g1, ⟨rfl, g2⟩, ?_, by rw [List.append_nil]; exact g6⟩
  refine Rep.low (k := 0) (by simp) (fun l hl => by omega) r v O' glow g3

theorem Gives.mono {f : FuncId} {args : List LV} {R R' : LV → Prop} (c : Gives P f args R) (h : ∀ r, R r → R' r) : Gives P f args R' :=
  LCalls.mono c fun r _ hr => ⟨h r hr.1, hr.2⟩

/-- a pure function's contract, out of its code -/
theorem Gives.of_code {f : FuncId} {fn : Func} {c : Code} {k : C} {md : Nat → List Md} {rvs : List RV} {args : List LV} {R : LV → Prop} (hm : P.follows .mixedOrders = true)
    (hcal : callable P f = true) (hf : P.funcs[f]? = some fn) (hb : fn.body = some c) (hc : cC P fn.ntmps md c = some k) (hrv : rvOf P fn.ntmps fn.results.toList = some rvs) (hlen : args.length ≤ fn.ntmps)
    (hex : ∃ r, R r ∧ Low 0 r)
    (hw : wpC P k (fun e s => (e = .normal ∨ e = .ret) ∧ ∃ vs s', rvVals s rvs = some (vs, s') ∧ Low 0 (pack vs) ∧ R (pack vs)) { t := env args, h := [] }) : Gives P f args R := by
  refine LCalls.of_code hm hcal hf hb hc hrv hlen (by obtain ⟨r, hr⟩ := hex; exact ⟨r, [], hr⟩) (wpC_mono k hw fun e s hs => ?_)
  obtain ⟨he, vs, s', h1, h2, h3⟩ := hs
  exact ⟨he, vs, s', 0, h1, Nat.zero_le _, Nat.zero_le _, .inr ⟨h2, fun l xs hl => by omega⟩, h3, h2⟩
where
  wpL_mono : ∀ (gs : List GI) {Q Q' : St → Prop} {s : St}, wpL P gs Q s → (∀ s, Q s → Q' s) → wpL P gs Q' s
    | [], _, _, s, h, hq => hq s h
    | g :: gs, _, _, s, h, hq => wpG_mono h fun s' hs' => wpL_mono gs hs' hq
  wpC_mono : ∀ (k : C) {Q Q' : Exit → St → Prop} {s : St}, wpC P k Q s → (∀ e s, Q e s → Q' e s) → wpC P k Q' s
    | .skip, _, _, s, h, hq => hq _ s h
    | .reg gs, _, _, s, h, hq => wpL_mono gs h (hq _)
    | .seq a b, _, _, s, h, hq => wpC_mono a h fun e s hs => by
      cases e <;> first | exact wpC_mono b hs hq | exact hq _ _ hs
    | .cond x a b, _, _, s, h, hq => by
      obtain ⟨v, h1, h2, h3⟩ := h
      exact ⟨v, h1, fun e => wpC_mono a (h2 e) hq, fun e => wpC_mono b (h3 e) hq⟩
    | .block id b, _, _, s, h, hq => wpC_mono b h fun e s hs => by
      cases e <;> first | exact hq _ _ hs | skip
      simp only [inBlockL] at hs ⊢
      split
      · rename_i hid; rw [if_pos hid] at hs; exact hq _ _ hs
      · rename_i hid; rw [if_neg hid] at hs; exact hq _ _ hs
    | .loop b, _, _, s, h, hq => by
      obtain ⟨I, k, h1, h2⟩ := h
      exact ⟨I, k, h1, fun k s hk => wpC_mono b (h2 k s hk) fun e s hs => by
        cases e <;> first | exact hs | exact hq _ _ hs⟩
    | .exit id, _, _, s, h, hq => hq _ s h
    | .ret, _, _, s, h, hq => hq _ s h
end

end Go.TL
