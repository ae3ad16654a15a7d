/- Steps that are apart may change places. No program, no conditions. -/
import Derived.Test.YticcekapikfhaaaTLB
namespace Go.TL

theorem put_out {s : St} {d k : Nat} {v : LV} (h : k ≠ d) : (s.put d v).t k = s.t k := by simp [St.put, upd_other _ _ _ h]

/-- what a step does not write stays -/
theorem step_frame (i : I) (s s' : St) (h : step i s = some s') : (∀ k, k ∉ i.writes → s'.t k = s.t k) ∧ (i.hw = false → s'.h = s.h) := by
  have nd : ∀ {d k : Nat}, i.dst = some d → k ∉ i.writes → k ≠ d := fun hd hk e => hk (by simp [I.writes, hd, e])
  have ng : ∀ {k : Nat}, k ∉ i.writes → k ∉ slots i.gives := fun hk e => hk (by simp [I.writes, e])
  cases i with
  | mv d m x =>
    cases m with
    | copy => simp only [step, Option.some.injEq] at h; subst h; exact ⟨fun k hk => put_out (nd rfl hk), fun _ => rfl⟩
    | take =>
      simp only [step, Option.some.injEq] at h; subst h
      exact ⟨fun k hk => by rw [put_out (nd rfl hk)]; exact give_out (fun e => ng hk (by simpa [I.gives, slots] using e)), fun _ => rfl⟩
    | frz =>
      simp only [step] at h
      split at h
      · split at h
        · simp only [Option.some.injEq] at h; subst h; exact ⟨fun k hk => put_out (nd rfl hk), by simp [I.hw]⟩
        · simp at h
      · split at h
        · split at h
          · simp only [Option.some.injEq] at h; subst h; exact ⟨fun k hk => put_out (nd rfl hk), by simp [I.hw]⟩
          · simp at h
        · simp at h
      · simp at h
  | box d x =>
    simp only [step] at h
    split at h
    · simp only [Option.some.injEq] at h; subst h
      exact ⟨fun k hk => by rw [put_out (nd rfl hk)]; exact give_out (fun e => ng hk (by simpa [I.gives, slots] using e)), by simp [I.hw]⟩
    · simp at h
  | alloc d z => simp only [step, Option.some.injEq] at h; subst h; exact ⟨fun k hk => put_out (nd rfl hk), by simp [I.hw]⟩
  | load d m agg sz x =>
    simp only [step] at h
    split at h
    · split at h
      · split at h
        · split at h
          · split at h
            · simp only [Option.some.injEq] at h; subst h; exact ⟨fun k hk => put_out (nd rfl hk), fun _ => rfl⟩
            · rename_i hm
              simp only [Option.some.injEq] at h; subst h
              refine ⟨fun k hk => put_out (nd rfl hk), fun hw => ?_⟩
              cases m <;> simp [I.hw] at hw
              exact absurd rfl hm
          · simp at h
        · simp at h
      · simp at h
    · split at h
      · split at h
        · simp only [Option.some.injEq] at h; subst h; exact ⟨fun k hk => put_out (nd rfl hk), fun _ => rfl⟩
        · simp at h
      · simp at h
    · simp at h
  | store sz x y =>
    simp only [step] at h
    split at h
    · split at h
      · split at h
        · simp only [Option.some.injEq] at h; subst h
          exact ⟨fun k hk => give_out (fun e => ng hk (by simpa [I.gives, slots] using e)), by simp [I.hw]⟩
        · simp at h
      · simp at h
    · simp at h
  | bin d c op x y =>
    simp only [step, Option.map_eq_some_iff] at h
    obtain ⟨r, _, rfl⟩ := h
    exact ⟨fun k hk => put_out (nd rfl hk), fun _ => rfl⟩
  | un d op x =>
    simp only [step, Option.map_eq_some_iff] at h
    obtain ⟨r, _, rfl⟩ := h
    exact ⟨fun k hk => put_out (nd rfl hk), fun _ => rfl⟩
  | build d z ps =>
    simp only [step, Option.map_eq_some_iff] at h
    obtain ⟨r, _, rfl⟩ := h
    exact ⟨fun k hk => by rw [put_out (nd rfl hk)]; exact giveAll_out (ng hk), fun _ => rfl⟩
  | bslice d sz len z ps =>
    simp only [step, Option.map_eq_some_iff] at h
    obtain ⟨r, _, rfl⟩ := h
    exact ⟨fun k hk => by rw [put_out (nd rfl hk)]; exact giveAll_out (ng hk), fun _ => rfl⟩
  | slice d sz x lo hi mx =>
    simp only [step] at h
    split at h
    · split at h
      · split at h
        · simp only [Option.some.injEq] at h; subst h; exact ⟨fun k hk => put_out (nd rfl hk), fun _ => rfl⟩
        · simp at h
      · simp at h
    · simp at h
  | sliceS d x lo hi =>
    simp only [step] at h
    split at h
    · split at h
      · split at h
        · simp only [Option.some.injEq] at h; subst h; exact ⟨fun k hk => put_out (nd rfl hk), fun _ => rfl⟩
        · simp at h
      · simp at h
    · simp at h
  | fieldA d off x =>
    simp only [step] at h
    split at h
    · simp only [Option.some.injEq] at h; subst h; exact ⟨fun k hk => put_out (nd rfl hk), fun _ => rfl⟩
    · split at h
      · simp only [Option.some.injEq] at h; subst h; exact ⟨fun k hk => put_out (nd rfl hk), fun _ => rfl⟩
      · simp at h
    · simp at h
  | field d agg off sz x =>
    simp only [step] at h
    split at h
    · split at h
      · split at h
        · simp only [Option.some.injEq] at h; subst h; exact ⟨fun k hk => put_out (nd rfl hk), fun _ => rfl⟩
        · simp at h
      · simp at h
    · simp at h
  | indexA d sz x j =>
    simp only [step] at h
    split at h
    · split at h
      · simp only [Option.some.injEq] at h; subst h; exact ⟨fun k hk => put_out (nd rfl hk), fun _ => rfl⟩
      · simp at h
    · split at h
      · simp only [Option.some.injEq] at h; subst h; exact ⟨fun k hk => put_out (nd rfl hk), fun _ => rfl⟩
      · simp at h
    · simp at h
  | indexS d x j =>
    simp only [step] at h
    split at h
    · split at h
      · simp only [Option.some.injEq] at h; subst h; exact ⟨fun k hk => put_out (nd rfl hk), fun _ => rfl⟩
      · simp at h
    · simp at h
  | extract d k x =>
    simp only [step] at h
    split at h
    · split at h
      · split at h
        · simp only [Option.some.injEq] at h; subst h
          refine ⟨fun k hk => ?_, fun _ => rfl⟩
          rw [put_out (nd rfl hk)]
          exact upd_other _ _ _ (fun e => ng hk (by simp [I.gives, slots, slotOf, e]))
        · simp at h
      · simp at h
    · simp at h
  | len d x =>
    simp only [step, Option.map_eq_some_iff] at h
    obtain ⟨r, _, rfl⟩ := h
    exact ⟨fun k hk => put_out (nd rfl hk), fun _ => rfl⟩
  | lenS d x =>
    simp only [step, Option.map_eq_some_iff] at h
    obtain ⟨r, _, rfl⟩ := h
    exact ⟨fun k hk => put_out (nd rfl hk), fun _ => rfl⟩
  | append d sz x y =>
    simp only [step] at h
    split at h
    · split at h
      · simp only [Option.some.injEq] at h; subst h
        refine ⟨fun k hk => ?_, fun _ => rfl⟩
        rw [put_out (nd rfl hk)]
        have h1 : k ∉ slotOf x := fun e => ng hk (by simp [I.gives, slots, e])
        have h2 : k ∉ slotOf y := fun e => ng hk (by simp [I.gives, slots, e])
        exact (give_out h2).trans (give_out h1)
      · simp at h
    · simp at h
  | mkslice d sz z m =>
    simp only [step] at h
    split at h
    · split at h
      · simp only [Option.some.injEq] at h; subst h; exact ⟨fun k hk => put_out (nd rfl hk), by simp [I.hw]⟩
      · simp at h
    · simp at h
  | minmax d mx x y =>
    simp only [step] at h
    split at h
    · simp only [Option.some.injEq] at h; subst h; exact ⟨fun k hk => put_out (nd rfl hk), fun _ => rfl⟩
    · simp at h
  | mkfn d f caps => simp only [step, Option.some.injEq] at h; subst h; exact ⟨fun k hk => put_out (nd rfl hk), fun _ => rfl⟩
  | nilchk d x =>
    simp only [step] at h
    split at h
    · simp only [Option.some.injEq] at h; subst h; exact ⟨fun k hk => put_out (nd rfl hk), fun _ => rfl⟩
    · simp only [Option.some.injEq] at h; subst h; exact ⟨fun k hk => put_out (nd rfl hk), fun _ => rfl⟩
    · simp only [Option.some.injEq] at h; subst h; exact ⟨fun k hk => put_out (nd rfl hk), fun _ => rfl⟩
    · simp at h
  | conv d k x =>
    simp only [step, Option.map_eq_some_iff] at h
    obtain ⟨r, _, rfl⟩ := h
    exact ⟨fun k hk => put_out (nd rfl hk), fun _ => rfl⟩
  | call rw d f ys => simp [step] at h
  | pick d c x y =>
    simp only [step] at h
    split at h
    · simp only [Option.some.injEq] at h; subst h; exact ⟨fun k hk => put_out (nd rfl hk), fun _ => rfl⟩
    · simp at h
  | bad d => simp [step] at h
  | cap d x =>
    simp only [step] at h
    split at h
    · simp only [Option.some.injEq] at h; subst h; exact ⟨fun k hk => put_out (nd rfl hk), fun _ => rfl⟩
    · simp at h
  | growz d sz x m =>
    simp only [step] at h
    split at h
    · split at h
      · simp only [Option.some.injEq] at h; subst h; exact ⟨fun k hk => put_out (nd rfl hk), fun _ => rfl⟩
      · simp at h
    · simp at h
  | cut0 d sz x m =>
    simp only [step] at h
    split at h
    · split at h
      · simp only [Option.some.injEq] at h; subst h
        exact ⟨fun k hk => by rw [put_out (nd rfl hk)]; exact give_out (fun e => ng hk (by simpa [I.gives, slots] using e)), fun _ => rfl⟩
      · simp at h
    · simp at h

/-- an instruction behind a guard: a slot, and what must be in it -/
abbrev GI := Option (Nat × Bool) × I

def skip (i : I) (s : St) : St := match i.dst with
  | some d => s.put d .dead
  | none => s
def boolOf (x : LV) : Option Bool := match x with
  | .sc (.bool b) => some b
  | _ => none
def gstep (g : GI) (s : St) : Option St := match g.1 with
  | none => step g.2 s
  | some (j, want) => match boolOf (s.t j) with
    | some b => if b = want then step g.2 s else some (skip g.2 s)
    | none => none
def greads (g : GI) : List Nat := (match g.1 with | some (j, _) => [j] | none => []) ++ g.2.reads

theorem gstep_local (g : GI) (s s' : St) (ht : ∀ k ∈ greads g, s.t k = s'.t k) (hh : g.2.hr = true → s.h = s'.h) (hw : g.2.hw = true → g.2.hr = true) : Agree g.2 (gstep g s) (gstep g s') := by
  have base := step_local g.2 s.t s'.t s.h s'.h (fun k hk => ht k (by simp [greads, hk])) hh
  unfold gstep
  split
  · exact base
  · rename_i j want hg
    have hj : s.t j = s'.t j := ht j (by simp [greads, hg])
    rw [hj]
    split
    · split
      · exact base
      · unfold skip
        split
        · rename_i d hd
          refine ⟨fun k hk => put_agree fun hne => ?_, fun h => hh (hw h)⟩
          refine ht k ?_
          simp only [I.writes, hd, Option.toList, List.singleton_append, List.mem_cons] at hk
          have hk' := hk.resolve_left hne
          simp only [greads, List.mem_append]
          right
          simp only [slots, List.mem_flatMap, I.reads] at hk' ⊢
          obtain ⟨x, hx, hkx⟩ := hk'
          refine ⟨x, ?_, hkx⟩
          revert hx
          cases g.2 <;> simp [I.gives, I.ops]
          · rename_i m _; cases m <;> simp
          · intro h; exact .inr h
          · intro h; exact .inl h
        · rename_i hd
          refine ⟨fun k hk => ?_, fun h => hh (hw h)⟩
          refine ht k ?_
          simp only [I.writes, hd, Option.toList, List.nil_append] at hk
          simp only [greads, List.mem_append]
          right
          simp only [slots, List.mem_flatMap, I.reads] at hk ⊢
          obtain ⟨x, hx, hkx⟩ := hk
          refine ⟨x, ?_, hkx⟩
          revert hx
          cases g.2 <;> simp [I.gives, I.ops]
          · rename_i m _; cases m <;> simp
          · intro h; exact .inr h
          · intro h; exact .inl h
    · trivial

theorem gstep_frame (g : GI) (s s' : St) (h : gstep g s = some s') : (∀ k, k ∉ g.2.writes → s'.t k = s.t k) ∧ (g.2.hw = false → s'.h = s.h) := by
  unfold gstep at h
  split at h
  · exact step_frame g.2 s s' h
  · split at h
    · split at h
      · exact step_frame g.2 s s' h
      · simp only [Option.some.injEq] at h
        subst h
        unfold skip
        split
        · rename_i d hd
          exact ⟨fun k hk => put_out (fun e => hk (by simp [I.writes, hd, e])), fun _ => rfl⟩
        · exact ⟨fun _ _ => rfl, fun _ => rfl⟩
    · simp at h

theorem hw_hr (i : I) (h : i.hw = true) : i.hr = true := by
  cases i <;> simp [I.hw, I.hr] at h ⊢
  rename_i m _; cases m <;> simp at h ⊢

/-- two guarded instructions that neither read nor write what the other writes; and not two calls -/
def indep (a b : GI) : Bool :=
  (a.2.writes.all fun k => !(greads b).contains k && !b.2.writes.contains k) && (b.2.writes.all fun k => !(greads a).contains k) &&
  !(a.2.hw && b.2.hr) && !(b.2.hw && a.2.hr) && !(a.2.isCall && b.2.isCall)

theorem indep_spec {a b : GI} (h : indep a b = true) : (∀ k ∈ a.2.writes, k ∉ greads b) ∧ (∀ k ∈ a.2.writes, k ∉ b.2.writes) ∧ (∀ k ∈ b.2.writes, k ∉ greads a) ∧
    ¬ (a.2.hw = true ∧ b.2.hr = true) ∧ ¬ (b.2.hw = true ∧ a.2.hr = true) ∧ ¬ (a.2.isCall = true ∧ b.2.isCall = true) := by
  simp only [indep, Bool.and_eq_true, List.all_eq_true, Bool.not_eq_true', Bool.and_eq_false_imp] at h
  obtain ⟨⟨⟨⟨h1, h2⟩, h3⟩, h4⟩, h5⟩ := h
  refine ⟨fun k hk hm => ?_, fun k hk hm => ?_, fun k hk hm => ?_, ?_, ?_, ?_⟩
  · have := (h1 k hk).1; simp [hm] at this
  · have := (h1 k hk).2; simp [hm] at this
  · have := h2 k hk; simp [hm] at this
  · rintro ⟨q1, q2⟩; simp [q1, q2] at h3
  · rintro ⟨q1, q2⟩; simp [q1, q2] at h4
  · rintro ⟨q1, q2⟩; simp [q1, q2] at h5

theorem gstep_swap {a b : GI} (hi : indep a b = true) {s s1 s2 : St} (h1 : gstep a s = some s1) (h2 : gstep b s1 = some s2) : ∃ s1', gstep b s = some s1' ∧ gstep a s1' = some s2 := by
  obtain ⟨i1, i2, i3, i4, i5, _⟩ := indep_spec hi
  have fa := gstep_frame a s s1 h1
  have fb := gstep_frame b s1 s2 h2
  have ahw : ∀ {c : Bool}, a.2.hw = c → c = true ∨ a.2.hw = false := fun h => by cases h' : a.2.hw <;> simp_all
  have e1 : b.2.hr = true → s.h = s1.h := fun h => by
    refine (fa.2 ?_).symm
    cases h' : a.2.hw
    · rfl
    · exact absurd ⟨h', h⟩ i4
  have lb := gstep_local b s s1 (fun k hk => (fa.1 k (fun hk' => i1 k hk' hk)).symm) e1 (hw_hr _)
  rw [h2] at lb
  cases h3 : gstep b s with
  | none => rw [h3] at lb; exact lb.elim
  | some s1' =>
    rw [h3] at lb
    have fb' := gstep_frame b s s1' h3
    have e2 : a.2.hr = true → s.h = s1'.h := fun h => by
      refine (fb'.2 ?_).symm
      cases h' : b.2.hw
      · rfl
      · exact absurd ⟨h', h⟩ i5
    have la := gstep_local a s s1' (fun k hk => (fb'.1 k (fun hk' => i3 k hk' hk)).symm) e2 (hw_hr _)
    rw [h1] at la
    cases h4 : gstep a s1' with
    | none => rw [h4] at la; exact la.elim
    | some s2' =>
      rw [h4] at la
      have fa' := gstep_frame a s1' s2' h4
      refine ⟨s1', rfl, ?_⟩
      rw [h4]
      congr 1
      have et : s2'.t = s2.t := by
        funext k
        by_cases ka : k ∈ a.2.writes
        · rw [← la.1 k ka, fb.1 k (i2 k ka)]
        · by_cases kb : k ∈ b.2.writes
          · rw [fa'.1 k ka, lb.1 k kb]
          · rw [fa'.1 k ka, fb'.1 k kb, fb.1 k kb, fa.1 k ka]
      have eh : s2'.h = s2.h := by
        cases ha : a.2.hw with
        | true =>
          have hbw : b.2.hw = false := by
            cases hb : b.2.hw with
            | true => exact absurd ⟨ha, hw_hr _ hb⟩ i4
            | false => rfl
          rw [← la.2 ha, fb.2 hbw]
        | false =>
          cases hb : b.2.hw with
          | true => rw [fa'.2 ha, lb.2 hb]
          | false => rw [fa'.2 ha, fb'.2 hb, fb.2 hb, fa.2 ha]
      cases s2'; cases s2
      simp only at et eh
      rw [et, eh]
end Go.TL
