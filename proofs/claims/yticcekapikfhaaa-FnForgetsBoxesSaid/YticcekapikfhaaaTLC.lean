/- Steps that are apart may change places. No program, no conditions. -/
import Derived.Test.YticcekapikfhaaaTLB
namespace Go.TL

theorem put_out {s : St} {d k : Nat} {v : LV} (h : k ≠ d) : (s.put d v).t k = s.t k := by simp [St.put, upd_other _ _ _ h]

/-- what a step does not write stays -/
theorem step_frame (i : I) (s s' : St) (h : step i s = some s') : (∀ k, k ∉ i.writes → s'.t k = s.t k) ∧ (i.hw = false → s'.h = s.h) := by
  have nd : ∀ {d k : Nat}, i.dst = some d → k ∉ i.writes → k ≠ d := fun hd hk e => hk (by simp [I.writes, hd, e])
  have ng : ∀ {k : Nat}, k ∉ i.writes → k ∉ slots i.gives := fun hk e => hk (by simp [I.writes, e])
  cases i with
  | mv d m x =>
    cases m with
    | copy => simp only [step, Option.some.injEq] at h; subst h; exact ⟨fun k hk => put_out (nd rfl hk), fun _ => rfl⟩
    | take =>
      simp only [step, Option.some.injEq] at h; subst h
      exact ⟨fun k hk => by rw [put_out (nd rfl hk)]; exact give_out (fun e => ng hk (by simpa [I.gives, slots] using e)), fun _ => rfl⟩
    | frz =>
      simp only [step] at h
      split at h
      · split at h
        · simp only [Option.some.injEq] at h; subst h; exact ⟨fun k hk => put_out (nd rfl hk), by simp [I.hw]⟩
        · simp at h
      · split at h
        · split at h
          · simp only [Option.some.injEq] at h; subst h; exact ⟨fun k hk => put_out (nd rfl hk), by simp [I.hw]⟩
          · simp at h
        · simp at h
      · simp at h
  | box d x =>
    simp only [step] at h
    split at h
    · simp only [Option.some.injEq] at h; subst h
      exact ⟨fun k hk => by rw [put_out (nd rfl hk)]; exact give_out (fun e => ng hk (by simpa [I.gives, slots] using e)), by simp [I.hw]⟩
    · simp at h
  | alloc d z => simp only [step, Option.some.injEq] at h; subst h; exact ⟨fun k hk => put_out (nd rfl hk), by simp [I.hw]⟩
  | load d m agg sz x =>
    simp only [step] at h
    split at h
    · split at h
      · simp at h
      · rename_i hset
        split at h
        · split at h
          · split at h
            · split at h
              · simp only [Option.some.injEq] at h; subst h; exact ⟨fun k hk => put_out (nd rfl hk), fun _ => rfl⟩
              · rename_i hm
                simp only [Option.some.injEq] at h; subst h
                refine ⟨fun k hk => put_out (nd rfl hk), fun hw => ?_⟩
                cases m
                · exact absurd rfl hm
                · simp [Md.settled] at hset
                · simp [I.hw] at hw
            · simp at h
          · simp at h
        · simp at h
    · split at h
      · split at h
        · simp only [Option.some.injEq] at h; subst h; exact ⟨fun k hk => put_out (nd rfl hk), fun _ => rfl⟩
        · simp at h
      · simp at h
    · simp at h
  | store sz x y =>
    simp only [step] at h
    split at h
    · split at h
      · split at h
        · simp only [Option.some.injEq] at h; subst h
          exact ⟨fun k hk => give_out (fun e => ng hk (by simpa [I.gives, slots] using e)), by simp [I.hw]⟩
        · simp at h
      · simp at h
    · simp at h
  | bin d c op x y =>
    simp only [step, Option.map_eq_some_iff] at h
    obtain ⟨r, _, rfl⟩ := h
    exact ⟨fun k hk => put_out (nd rfl hk), fun _ => rfl⟩
  | un d op x =>
    simp only [step, Option.map_eq_some_iff] at h
    obtain ⟨r, _, rfl⟩ := h
    exact ⟨fun k hk => put_out (nd rfl hk), fun _ => rfl⟩
  | build d z ps =>
    simp only [step, Option.map_eq_some_iff] at h
    obtain ⟨r, _, rfl⟩ := h
    exact ⟨fun k hk => by rw [put_out (nd rfl hk)]; exact giveAll_out (ng hk), fun _ => rfl⟩
  | bslice d sz len z ps =>
    simp only [step, Option.map_eq_some_iff] at h
    obtain ⟨r, _, rfl⟩ := h
    exact ⟨fun k hk => by rw [put_out (nd rfl hk)]; exact giveAll_out (ng hk), fun _ => rfl⟩
  | slice d sz x lo hi mx =>
    simp only [step] at h
    split at h
    · split at h
      · split at h
        · simp only [Option.some.injEq] at h; subst h; exact ⟨fun k hk => put_out (nd rfl hk), fun _ => rfl⟩
        · simp at h
      · simp at h
    · split at h
      · split at h
        · simp only [Option.some.injEq] at h; subst h; exact ⟨fun k hk => put_out (nd rfl hk), fun _ => rfl⟩
        · simp at h
      · simp at h
    · simp at h
  | sliceS d x lo hi =>
    simp only [step] at h
    split at h
    · split at h
      · split at h
        · simp only [Option.some.injEq] at h; subst h; exact ⟨fun k hk => put_out (nd rfl hk), fun _ => rfl⟩
        · simp at h
      · simp at h
    · simp at h
  | fieldA d off x =>
    simp only [step] at h
    split at h
    · simp only [Option.some.injEq] at h; subst h; exact ⟨fun k hk => put_out (nd rfl hk), fun _ => rfl⟩
    · split at h
      · simp only [Option.some.injEq] at h; subst h; exact ⟨fun k hk => put_out (nd rfl hk), fun _ => rfl⟩
      · simp at h
    · simp at h
  | field d agg off sz x =>
    simp only [step] at h
    split at h
    · split at h
      · split at h
        · simp only [Option.some.injEq] at h; subst h; exact ⟨fun k hk => put_out (nd rfl hk), fun _ => rfl⟩
        · simp at h
      · simp at h
    · simp at h
  | indexA d sz x j =>
    simp only [step] at h
    split at h
    · split at h
      · simp only [Option.some.injEq] at h; subst h; exact ⟨fun k hk => put_out (nd rfl hk), fun _ => rfl⟩
      · simp at h
    · split at h
      · simp only [Option.some.injEq] at h; subst h; exact ⟨fun k hk => put_out (nd rfl hk), fun _ => rfl⟩
      · simp at h
    · simp at h
  | indexS d x j =>
    simp only [step] at h
    split at h
    · split at h
      · simp only [Option.some.injEq] at h; subst h; exact ⟨fun k hk => put_out (nd rfl hk), fun _ => rfl⟩
      · simp at h
    · simp at h
  | extract d k x =>
    simp only [step] at h
    split at h
    · split at h
      · split at h
        · simp only [Option.some.injEq] at h; subst h
          refine ⟨fun k hk => ?_, fun _ => rfl⟩
          rw [put_out (nd rfl hk)]
          exact upd_other _ _ _ (fun e => ng hk (by simp [I.gives, slots, slotOf, e]))
        · simp at h
      · simp at h
    · simp at h
  | len d x =>
    simp only [step, Option.map_eq_some_iff] at h
    obtain ⟨r, _, rfl⟩ := h
    exact ⟨fun k hk => put_out (nd rfl hk), fun _ => rfl⟩
  | lenS d x =>
    simp only [step, Option.map_eq_some_iff] at h
    obtain ⟨r, _, rfl⟩ := h
    exact ⟨fun k hk => put_out (nd rfl hk), fun _ => rfl⟩
  | append d sz x y =>
    simp only [step] at h
    split at h
    · split at h
      · simp only [Option.some.injEq] at h; subst h
        refine ⟨fun k hk => ?_, fun _ => rfl⟩
        rw [put_out (nd rfl hk)]
        have h1 : k ∉ slotOf x := fun e => ng hk (by simp [I.gives, slots, e])
        have h2 : k ∉ slotOf y := fun e => ng hk (by simp [I.gives, slots, e])
        exact (give_out h2).trans (give_out h1)
      · simp at h
    · simp at h
  | mkslice d sz z m =>
    simp only [step] at h
    split at h
    · split at h
      · simp only [Option.some.injEq] at h; subst h; exact ⟨fun k hk => put_out (nd rfl hk), by simp [I.hw]⟩
      · simp at h
    · simp at h
  | minmax d mx x y =>
    simp only [step] at h
    split at h
    · simp only [Option.some.injEq] at h; subst h; exact ⟨fun k hk => put_out (nd rfl hk), fun _ => rfl⟩
    · simp at h
  | mkfn d f m caps => simp only [step, Option.some.injEq] at h; subst h; exact ⟨fun k hk => put_out (nd rfl hk), fun _ => rfl⟩
  | nilchk d x =>
    simp only [step] at h
    split at h
    · simp only [Option.some.injEq] at h; subst h; exact ⟨fun k hk => put_out (nd rfl hk), fun _ => rfl⟩
    · simp only [Option.some.injEq] at h; subst h; exact ⟨fun k hk => put_out (nd rfl hk), fun _ => rfl⟩
    · simp only [Option.some.injEq] at h; subst h; exact ⟨fun k hk => put_out (nd rfl hk), fun _ => rfl⟩
    · simp only [Option.some.injEq] at h; subst h; exact ⟨fun k hk => put_out (nd rfl hk), fun _ => rfl⟩
    · simp at h
  | conv d k x =>
    simp only [step, Option.map_eq_some_iff] at h
    obtain ⟨r, _, rfl⟩ := h
    exact ⟨fun k hk => put_out (nd rfl hk), fun _ => rfl⟩
  | call rw d f ys => simp [step] at h
  | pick d c x y =>
    simp only [step] at h
    split at h
    · simp only [Option.some.injEq] at h; subst h; exact ⟨fun k hk => put_out (nd rfl hk), fun _ => rfl⟩
    · simp at h
  | bad d => simp [step] at h
  | cap d x =>
    simp only [step] at h
    split at h
    · simp only [Option.some.injEq] at h; subst h; exact ⟨fun k hk => put_out (nd rfl hk), fun _ => rfl⟩
    · simp at h
  | growz d sz x m =>
    simp only [step] at h
    split at h
    · split at h
      · simp only [Option.some.injEq] at h; subst h; exact ⟨fun k hk => put_out (nd rfl hk), fun _ => rfl⟩
      · simp at h
    · simp at h
  | cut0 d sz x m =>
    simp only [step] at h
    split at h
    · split at h
      · simp only [Option.some.injEq] at h; subst h
        exact ⟨fun k hk => by rw [put_out (nd rfl hk)]; exact give_out (fun e => ng hk (by simpa [I.gives, slots] using e)), fun _ => rfl⟩
      · simp at h
    · simp at h

/-- an instruction behind a guard: a slot, and what must be in it -/
abbrev GI := Option (Nat × Bool) × I

def skip (i : I) (s : St) : St := match i.dst with
  | some d => s.put d (.sc undef)
  | none => s
def boolOf (x : LV) : Option Bool := match x with
  | .sc (.bool b) => some b
  | _ => none
/-- what a guard finds: a value that was skipped is not the wanted one -/
def gd (want : Bool) (x : LV) : Option Bool := match x with
  | .sc (.bool b) => some b
  | .sc (.tuple _) => some (!want)
  | _ => none
def gstep (g : GI) (s : St) : Option St := match g.1 with
  | none => step g.2 s
  | some (j, want) => match gd want (s.t j) with
    | some b => if b = want then step g.2 s else some (skip g.2 s)
    | none => none
def greads (g : GI) : List Nat := (match g.1 with | some (j, _) => [j] | none => []) ++ g.2.reads

theorem gstep_local (g : GI) (s s' : St) (ht : ∀ k ∈ greads g, s.t k = s'.t k) (hh : g.2.hr = true → s.h = s'.h) (hw : g.2.hw = true → g.2.hr = true) : Agree g.2 (gstep g s) (gstep g s') := by
  have base := step_local g.2 s.t s'.t s.h s'.h (fun k hk => ht k (by simp [greads, hk])) hh
  unfold gstep
  split
  · exact base
  · rename_i j want hg
    have hj : s.t j = s'.t j := ht j (by simp [greads, hg])
    rw [hj]
    split
    · split
      · exact base
      · unfold skip
        split
        · rename_i d hd
          refine ⟨fun k hk => put_agree fun hne => ?_, fun h => hh (hw h)⟩
          refine ht k ?_
          simp only [I.writes, hd, Option.toList, List.singleton_append, List.mem_cons] at hk
          have hk' := hk.resolve_left hne
          simp only [greads, List.mem_append]
          right
          simp only [slots, List.mem_flatMap, I.reads] at hk' ⊢
          obtain ⟨x, hx, hkx⟩ := hk'
          refine ⟨x, ?_, hkx⟩
          revert hx
          cases g.2 <;> simp [I.gives, I.ops]
          · rename_i m _; cases m <;> simp
          · intro h; exact .inr h
          · intro h; exact .inl h
        · rename_i hd
          refine ⟨fun k hk => ?_, fun h => hh (hw h)⟩
          refine ht k ?_
          simp only [I.writes, hd, Option.toList, List.nil_append] at hk
          simp only [greads, List.mem_append]
          right
          simp only [slots, List.mem_flatMap, I.reads] at hk ⊢
          obtain ⟨x, hx, hkx⟩ := hk
          refine ⟨x, ?_, hkx⟩
          revert hx
          cases g.2 <;> simp [I.gives, I.ops]
          · rename_i m _; cases m <;> simp
          · intro h; exact .inr h
          · intro h; exact .inl h
    · trivial

theorem gstep_frame (g : GI) (s s' : St) (h : gstep g s = some s') : (∀ k, k ∉ g.2.writes → s'.t k = s.t k) ∧ (g.2.hw = false → s'.h = s.h) := by
  unfold gstep at h
  split at h
  · exact step_frame g.2 s s' h
  · split at h
    · split at h
      · exact step_frame g.2 s s' h
      · simp only [Option.some.injEq] at h
        subst h
        unfold skip
        split
        · rename_i d hd
          exact ⟨fun k hk => put_out (fun e => hk (by simp [I.writes, hd, e])), fun _ => rfl⟩
        · exact ⟨fun _ _ => rfl, fun _ => rfl⟩
    · simp at h

theorem hw_hr (i : I) (h : i.hw = true) : i.hr = true := by
  cases i <;> (try (simp [I.hw, I.hr] at h ⊢; done))
  case mv d m x => cases m <;> simp [I.hw, I.hr] at h ⊢
  case load d m ag sz x => cases m <;> simp [I.hw, I.hr, Md.settled] at h ⊢
  case call rw d f args => simpa [I.hw, I.hr] using h

/-- loads that take, and loads that copy -/
def I.dl : I → Bool
  | .load _ .frz _ _ _ => true
  | _ => false
def I.cl : I → Bool
  | .load _ .copy _ _ _ => true
  | _ => false
/-- behind a load that takes, a load that finds what it asks for is of another place -/
def special1 (a b : GI) : Bool := a.1.isNone && b.1.isNone && a.2.dl && (b.2.dl || b.2.cl)
/-- a load ahead of a new variable -/
def special2 (a b : GI) : Bool := a.1.isNone && b.1.isNone && (a.2.dl || a.2.cl) && (match b.2 with | .alloc _ _ => true | _ => false)
/-- two parts of one tuple -/
def special3 (a b : GI) : Bool := a.1.isNone && b.1.isNone && (match a.2, b.2 with | .extract d k (.t i), .extract d' k' (.t i') => i == i' && k != k' && d != d' && d != i && d' != i | _, _ => false)
def special (a b : GI) : Bool := special1 a b || special2 a b
/-- two guarded instructions, one behind the other, that neither read nor write what the other writes; and not two calls -/
def indep (a b : GI) : Bool :=
  special3 a b || (a.2.writes.all fun k => !(greads b).contains k && !b.2.writes.contains k) && (b.2.writes.all fun k => !(greads a).contains k) &&
  (special a b || (!(a.2.hw && b.2.hr) && !(b.2.hw && a.2.hr))) && !(a.2.isCall && b.2.isCall)

theorem indep_spec' {a b : GI} (h : indep a b = true) (h3 : special3 a b = false) : (∀ k ∈ a.2.writes, k ∉ greads b) ∧ (∀ k ∈ a.2.writes, k ∉ b.2.writes) ∧ (∀ k ∈ b.2.writes, k ∉ greads a) ∧
    (special a b = true ∨ (¬ (a.2.hw = true ∧ b.2.hr = true) ∧ ¬ (b.2.hw = true ∧ a.2.hr = true))) ∧ ¬ (a.2.isCall = true ∧ b.2.isCall = true) := by
  rw [indep, h3, Bool.false_or] at h
  simp only [Bool.and_eq_true, List.all_eq_true, Bool.not_eq_true', Bool.and_eq_false_imp, Bool.or_eq_true] at h
  obtain ⟨⟨⟨h1, h2⟩, h4⟩, h5⟩ := h
  refine ⟨fun k hk hm => ?_, fun k hk hm => ?_, fun k hk hm => ?_, ?_, ?_⟩
  · have := (h1 k hk).1; simp [hm] at this
  · have := (h1 k hk).2; simp [hm] at this
  · have := h2 k hk; simp [hm] at this
  · rcases h4 with h4 | ⟨h3, h4⟩
    · exact .inl h4
    · right
      refine ⟨?_, ?_⟩
      · rintro ⟨q1, q2⟩; simp [q1, q2] at h3
      · rintro ⟨q1, q2⟩; simp [q1, q2] at h4
  · rintro ⟨q1, q2⟩; simp [q1, q2] at h5
theorem special_call {a b : GI} (h : special a b = true) : a.2.isCall = false ∧ b.2.isCall = false := by
  simp only [special, special1, special2, Bool.and_eq_true, Bool.or_eq_true] at h
  rcases h with ⟨⟨_, h1⟩, h2⟩ | ⟨⟨_, h1⟩, h2⟩
  · constructor
    · cases ha : a.2 <;> simp [ha, I.dl] at h1 ⊢ <;> rfl
    · cases hb : b.2 <;> simp [hb, I.dl, I.cl] at h2 ⊢ <;> rfl
  · constructor
    · cases ha : a.2 <;> simp [ha, I.dl, I.cl] at h1 ⊢ <;> rfl
    · cases hb : b.2 <;> simp [hb] at h2 ⊢ <;> rfl
theorem special3_call {a b : GI} (h : special3 a b = true) : a.2.isCall = false ∧ b.2.isCall = false := by
  simp only [special3, Bool.and_eq_true] at h
  obtain ⟨_, h⟩ := h
  split at h
  · rename_i h1 h2; rw [h1, h2]; exact ⟨rfl, rfl⟩
  · simp at h
theorem indep_spec {a b : GI} (h : indep a b = true) (hc : a.2.isCall = true ∨ b.2.isCall = true) : (∀ k ∈ a.2.writes, k ∉ greads b) ∧ (∀ k ∈ a.2.writes, k ∉ b.2.writes) ∧ (∀ k ∈ b.2.writes, k ∉ greads a) ∧
    ¬ (a.2.hw = true ∧ b.2.hr = true) ∧ ¬ (b.2.hw = true ∧ a.2.hr = true) ∧ ¬ (a.2.isCall = true ∧ b.2.isCall = true) := by
  have h3' : special3 a b = false := by
    cases hh : special3 a b with
    | false => rfl
    | true =>
      have := special3_call hh
      rcases hc with hc | hc
      · rw [this.1] at hc; simp at hc
      · rw [this.2] at hc; simp at hc
  obtain ⟨h1, h2, h3, h4, h5⟩ := indep_spec' h h3'
  rcases h4 with h4 | h4
  · have := special_call h4
    rcases hc with hc | hc
    · rw [this.1] at hc; simp at hc
    · rw [this.2] at hc; simp at hc
  · exact ⟨h1, h2, h3, h4.1, h4.2, h5⟩

theorem splice_get {xs ys : List LV} {o : Nat} (h : o + ys.length ≤ xs.length) (i : Nat) : (splice xs o ys)[i]? = if o ≤ i ∧ i < o + ys.length then ys[i - o]? else xs[i]? := by
  unfold splice
  by_cases h1 : i < o
  · rw [if_neg (by omega), List.append_assoc, List.getElem?_append_left (by simp; omega), List.getElem?_take, if_pos h1]
  · rw [List.append_assoc, List.getElem?_append_right (by simp; omega)]
    have e : (xs.take o).length = o := by simp; omega
    rw [e]
    by_cases h2 : i < o + ys.length
    · rw [if_pos (by omega), List.getElem?_append_left (by omega)]
    · rw [if_neg (by omega), List.getElem?_append_right (by omega), List.getElem?_drop]
      congr 1; omega
theorem splice_len {xs ys : List LV} {o : Nat} (h : o + ys.length ≤ xs.length) : (splice xs o ys).length = xs.length := by
  unfold splice; simp; omega
theorem alive_get : ∀ {xs : List LV} (i : Nat) (x : LV), aliveAll xs = true → xs[i]? = some x → x.alive = true
  | x :: xs, 0, y, h, e => by simp [aliveAll] at h e; subst e; exact h.1
  | x :: xs, i + 1, y, h, e => by simp [aliveAll] at h; exact alive_get i y h.2 (by simpa using e)
theorem sub_get {xs : List LV} {o sz i : Nat} (h : i < sz) : ((xs.drop o).take sz)[i]? = xs[o + i]? := by
  rw [List.getElem?_take, if_pos h, List.getElem?_drop]
/-- what a load takes is of another place than what a load behind it finds -/
theorem apart_loads {xs : List LV} {oa sa ob sb : Nat} (ha : oa + sa ≤ xs.length) (hb : ob + sb ≤ xs.length) (h : aliveAll (((splice xs oa (List.replicate sa .dead)).drop ob).take sb) = true) :
    ∀ i, oa ≤ i → i < oa + sa → ob ≤ i → i < ob + sb → False := by
  intro i h1 h2 h3 h4
  have e := sub_get (xs := splice xs oa (List.replicate sa .dead)) (o := ob) (sz := sb) (i := i - ob) (by omega)
  rw [show ob + (i - ob) = i by omega, splice_get (by simpa using ha), if_pos ⟨h1, by simpa using h2⟩, List.getElem?_replicate, if_pos (by omega)] at e
  have := alive_get _ _ h e
  simp [LV.alive] at this
theorem loads_same {xs : List LV} {oa sa ob sb : Nat} (ha : oa + sa ≤ xs.length) (hd : ∀ i, oa ≤ i → i < oa + sa → ob ≤ i → i < ob + sb → False) :
    ((splice xs oa (List.replicate sa .dead)).drop ob).take sb = (xs.drop ob).take sb := by
  apply List.ext_getElem?
  intro i
  by_cases hi : i < sb
  · rw [sub_get hi, sub_get hi, splice_get (by simpa using ha)]
    rw [if_neg]
    rintro ⟨h1, h2⟩
    exact hd (ob + i) h1 (by simpa using h2) (by omega) (by omega)
  · rw [List.getElem?_take, List.getElem?_take, if_neg hi, if_neg hi]
theorem splices_comm {xs : List LV} {oa sa ob sb : Nat} (ha : oa + sa ≤ xs.length) (hb : ob + sb ≤ xs.length) :
    splice (splice xs oa (List.replicate sa .dead)) ob (List.replicate sb .dead) = splice (splice xs ob (List.replicate sb .dead)) oa (List.replicate sa .dead) := by
  apply List.ext_getElem?
  intro i
  rw [splice_get (by rw [splice_len (by simpa using ha)]; simpa using hb), splice_get (by simpa using ha), splice_get (by rw [splice_len (by simpa using hb)]; simpa using ha), splice_get (by simpa using hb)]
  simp only [List.length_replicate, List.getElem?_replicate]
  by_cases h1 : oa ≤ i ∧ i < oa + sa <;> by_cases h2 : ob ≤ i ∧ i < ob + sb <;> simp only [h1, h2, if_true, if_false, and_self]
  · rw [if_pos (by omega), if_pos (by omega)]

/-- what a load out of a variable or of settled cells does -/
def ldv (agg : Bool) (sz : Nat) (h : List Box) (v : LV) : Option LV :=
  match v with
  | .ptr l o => match h[l]? with
    | some (some xs) => if o + sz ≤ xs.length ∧ aliveAll ((xs.drop o).take sz) = true then ofCells agg ((xs.drop o).take sz) else none
    | _ => none
  | .rp ys => if sz ≤ ys.length then (ofCells agg (ys.take sz)).map share else none
  | _ => none
def ldh (sz : Nat) (h : List Box) (v : LV) : List Box :=
  match v with
  | .ptr l o => match h[l]? with
    | some (some xs) => h.set l (some (splice xs o (List.replicate sz .dead)))
    | _ => h
  | _ => h
theorem step_dl {d sz : Nat} {agg : Bool} {x : X} {s : St} : step (.load d .frz agg sz x) s = (ldv agg sz s.h (get s.t x)).map fun v => St.put { s with h := ldh sz s.h (get s.t x) } d v := by
  simp only [step, ldv, ldh, Md.settled]
  generalize get s.t x = v
  cases v <;> try rfl
  · rename_i l o
    simp only [Bool.false_eq_true, if_false]
    cases s.h[l]? with
    | none => rfl
    | some b => cases b with
      | none => rfl
      | some xs =>
        simp only
        split
        · cases ofCells agg ((xs.drop o).take sz) <;> rfl
        · rfl
  · rename_i ys
    simp only
    split
    · cases ofCells agg (ys.take sz) <;> rfl
    · rfl
theorem step_cl {d sz : Nat} {agg : Bool} {x : X} {s : St} : step (.load d .copy agg sz x) s = (ldv agg sz s.h (get s.t x)).map fun v => s.put d (share v) := by
  simp only [step, ldv, Md.settled]
  generalize get s.t x = v
  cases v <;> try rfl
  · rename_i l o
    simp only [Bool.false_eq_true, if_false]
    cases s.h[l]? with
    | none => rfl
    | some b => cases b with
      | none => rfl
      | some xs =>
        simp only
        split
        · cases ofCells agg ((xs.drop o).take sz) <;> rfl
        · rfl
  · rename_i ys
    simp only
    split
    · cases ofCells agg (ys.take sz) <;> simp [share_share']
    · rfl
where
  share_share' : ∀ (x : LV), share (share x) = share x := shareShare
/-- a load behind one that took: both ways -/
theorem ld_comm {aa ab : Bool} {sa sb : Nat} {h : List Box} {pa pb va vb : LV} (h1 : ldv aa sa h pa = some va) (h2 : ldv ab sb (ldh sa h pa) pb = some vb) :
    ldv ab sb h pb = some vb ∧ ldv aa sa (ldh sb h pb) pa = some va ∧ ldh sb (ldh sa h pa) pb = ldh sa (ldh sb h pb) pa := by
  cases pa with
  | ptr la oa =>
    simp only [ldv] at h1
    cases hla : h[la]? with
    | none => simp [hla] at h1
    | some ba => cases ba with
      | none => simp [hla] at h1
      | some xa =>
        simp only [hla] at h1
        split at h1
        · rename_i hca
          have hlt : la < h.length := by
            rcases Nat.lt_or_ge la h.length with g | g
            · exact g
            · rw [List.getElem?_eq_none g] at hla; simp at hla
          have ea : ldh sa h (.ptr la oa) = h.set la (some (splice xa oa (List.replicate sa .dead))) := by simp only [ldh, hla]
          rw [ea] at h2 ⊢
          cases pb with
          | ptr lb ob =>
            by_cases hl : la = lb
            · subst hl
              simp only [ldv, List.getElem?_set_self hlt] at h2
              split at h2
              · rename_i hcb
                rw [splice_len (by simpa using hca.1)] at hcb
                have hd := apart_loads hca.1 hcb.1 hcb.2
                have es := loads_same (sb := sb) (ob := ob) hca.1 hd
                rw [es] at hcb h2
                have es2 := loads_same (oa := ob) (sa := sb) (ob := oa) (sb := sa) (xs := xa) hcb.1 (fun i p1 p2 p3 p4 => hd i p3 p4 p1 p2)
                refine ⟨?_, ?_, ?_⟩
                · simp only [ldv, hla]; rw [if_pos hcb]; exact h2
                · simp only [ldh, hla, ldv, List.getElem?_set_self hlt]
                  rw [splice_len (by simpa using hcb.1), es2, if_pos hca]; exact h1
                · simp only [ldh, hla, List.getElem?_set_self hlt, List.set_set]
                  rw [splices_comm hca.1 hcb.1]
              · simp at h2
            · simp only [ldv, List.getElem?_set_ne hl] at h2
              refine ⟨by simp only [ldv]; exact h2, ?_, ?_⟩
              · cases hlb : h[lb]? with
                | none => simp [hlb] at h2
                | some bb => cases bb with
                  | none => simp [hlb] at h2
                  | some xb =>
                    simp only [ldh, hlb, ldv, List.getElem?_set_ne (fun e => hl e.symm), hla]
                    rw [if_pos hca]; exact h1
              · cases hlb : h[lb]? with
                | none => simp [hlb] at h2
                | some bb => cases bb with
                  | none => simp [hlb] at h2
                  | some xb =>
                    simp only [ldh, hlb, List.getElem?_set_ne hl, List.getElem?_set_ne (fun e => hl e.symm), hla]
                    rw [List.set_comm _ _ hl]
          | rp ys => exact ⟨h2, by simp only [ldv, hla, ldh]; rw [if_pos hca]; exact h1, by simp [ldh, hla]⟩
          | _ => simp [ldv] at h2
        · simp at h1
  | rp ys =>
    refine ⟨h2, ?_, rfl⟩
    simpa only [ldv] using h1
  | _ => simp [ldv] at h1

theorem special1_swap {a b : GI} (hs : special1 a b = true) (i1 : ∀ k ∈ a.2.writes, k ∉ greads b) (i2 : ∀ k ∈ a.2.writes, k ∉ b.2.writes) (i3 : ∀ k ∈ b.2.writes, k ∉ greads a) {s s1 s2 : St} (h1 : gstep a s = some s1) (h2 : gstep b s1 = some s2) :
    ∃ s1', gstep b s = some s1' ∧ gstep a s1' = some s2 := by
  obtain ⟨ga, ia⟩ := a
  obtain ⟨gb, ib⟩ := b
  simp only [special1, Bool.and_eq_true, Bool.or_eq_true, Option.isNone_iff_eq_none] at hs
  obtain ⟨⟨⟨rfl, rfl⟩, hda⟩, hdb⟩ := hs
  simp only [gstep] at h1 h2 ⊢
  cases ia <;> simp [I.dl] at hda
  rename_i da ma aa sa xa
  cases ma <;> simp at hda
  cases ib <;> simp [I.dl, I.cl] at hdb
  rename_i db mb ab sb xb
  have hdd : da ≠ db := fun e => i2 da (by simp [I.writes, I.dst]) (by simp [I.writes, I.dst, e])
  have hxb : ∀ v, get (upd s.t da v) xb = get s.t xb := fun v => get_congr fun k hk => by
    refine upd_other _ _ _ fun e => ?_
    subst e
    exact i1 k (by simp [I.writes, I.dst]) (by simp [greads, I.reads, I.ops, slots, hk])
  have hxa : ∀ v, get (upd s.t db v) xa = get s.t xa := fun v => get_congr fun k hk => by
    refine upd_other _ _ _ fun e => ?_
    subst e
    exact i3 k (by simp [I.writes, I.dst]) (by simp [greads, I.reads, I.ops, slots, hk])
  have hcomm : ∀ u v, upd (upd s.t da u) db v = upd (upd s.t db v) da u := by
    intro u v; funext k; simp only [upd]
    by_cases e1 : k = db
    · subst e1
      rw [if_pos rfl, if_neg (fun e => hdd e.symm), if_pos rfl]
    · rw [if_neg e1, if_neg e1]
  rw [step_dl] at h1
  simp only [Option.map_eq_some_iff] at h1
  obtain ⟨va, k1, rfl⟩ := h1
  cases mb <;> simp at hdb
  · rw [step_cl] at h2 ⊢
    simp only [Option.map_eq_some_iff, St.put] at h2
    obtain ⟨vb, k2, rfl⟩ := h2
    rw [hxb] at k2
    obtain ⟨q1, _, _⟩ := ld_comm k1 k2
    rw [q1]
    refine ⟨_, rfl, ?_⟩
    rw [step_dl]
    simp only [St.put, hxa, k1, Option.map_some, hcomm]
  · rw [step_dl] at h2 ⊢
    simp only [Option.map_eq_some_iff, St.put] at h2
    obtain ⟨vb, k2, rfl⟩ := h2
    rw [hxb] at k2
    obtain ⟨q1, q2, q3⟩ := ld_comm k1 k2
    rw [q1]
    refine ⟨_, rfl, ?_⟩
    rw [step_dl]
    simp only [St.put, hxa, q2, Option.map_some, hcomm, hxb, q3]

/-- a load is of what is there -/
theorem ldv_lt {agg : Bool} {sz l o : Nat} {h : List Box} {v : LV} (e : ldv agg sz h (.ptr l o) = some v) : l < h.length := by
  simp only [ldv] at e
  rcases Nat.lt_or_ge l h.length with g | g
  · exact g
  · rw [List.getElem?_eq_none g] at e; simp at e
theorem ld_more {agg : Bool} {sz : Nat} {h : List Box} {p v : LV} (z : Box) (e : ldv agg sz h p = some v) : ldv agg sz (h ++ [z]) p = some v ∧ ldh sz (h ++ [z]) p = ldh sz h p ++ [z] ∧ (ldh sz h p).length = h.length := by
  cases p with
  | ptr l o =>
    have hl := ldv_lt e
    simp only [ldv, ldh, List.getElem?_append_left hl] at e ⊢
    refine ⟨e, ?_, ?_⟩
    · cases hb : h[l]? with
      | none => rfl
      | some b => cases b with
        | none => rfl
        | some xs => simp only; rw [List.set_append_left _ _ hl]
    · cases hb : h[l]? with
      | none => rfl
      | some b => cases b <;> simp
  | rp ys => exact ⟨by simpa only [ldv] using e, by simp only [ldh], by simp only [ldh]⟩
  | _ => simp [ldv] at e
theorem special2_swap {a b : GI} (hs : special2 a b = true) (i1 : ∀ k ∈ a.2.writes, k ∉ greads b) (i2 : ∀ k ∈ a.2.writes, k ∉ b.2.writes) (i3 : ∀ k ∈ b.2.writes, k ∉ greads a) {s s1 s2 : St} (h1 : gstep a s = some s1) (h2 : gstep b s1 = some s2) :
    ∃ s1', gstep b s = some s1' ∧ gstep a s1' = some s2 := by
  obtain ⟨ga, ia⟩ := a
  obtain ⟨gb, ib⟩ := b
  simp only [special2, Bool.and_eq_true, Bool.or_eq_true, Option.isNone_iff_eq_none] at hs
  obtain ⟨⟨⟨rfl, rfl⟩, hda⟩, hdb⟩ := hs
  simp only [gstep] at h1 h2 ⊢
  cases ib <;> simp at hdb
  rename_i db z
  cases ia <;> simp [I.dl, I.cl] at hda
  rename_i da ma aa sa xa
  have hdd : da ≠ db := fun e => i2 da (by simp [I.writes, I.dst]) (by simp [I.writes, I.dst, e])
  have hxa : ∀ v, get (upd s.t db v) xa = get s.t xa := fun v => get_congr fun k hk => by
    refine upd_other _ _ _ fun e => ?_
    subst e
    exact i3 k (by simp [I.writes, I.dst]) (by simp [greads, I.reads, I.ops, slots, hk])
  have hcomm : ∀ u v, upd (upd s.t da u) db v = upd (upd s.t db v) da u := by
    intro u v; funext k; simp only [upd]
    by_cases e1 : k = db
    · subst e1
      rw [if_pos rfl, if_neg (fun e => hdd e.symm), if_pos rfl]
    · rw [if_neg e1, if_neg e1]
  simp only [step, Option.some.injEq] at h2
  refine ⟨_, (rfl : step (.alloc db z) s = some _), ?_⟩
  cases ma <;> simp at hda
  · rw [step_cl] at h1 ⊢
    simp only [Option.map_eq_some_iff] at h1
    obtain ⟨va, k1, rfl⟩ := h1
    subst h2
    simp only [St.put, hxa]
    rw [(ld_more (some z) k1).1]
    simp only [Option.map_some, hcomm]
  · rw [step_dl] at h1 ⊢
    simp only [Option.map_eq_some_iff] at h1
    obtain ⟨va, k1, rfl⟩ := h1
    subst h2
    obtain ⟨q1, q2, q3⟩ := ld_more (some z) k1
    simp only [St.put, hxa, q1, q2, q3, Option.map_some, hcomm]
theorem special3_swap {a b : GI} (hs : special3 a b = true) {s s1 s2 : St} (h1 : gstep a s = some s1) (h2 : gstep b s1 = some s2) :
    ∃ s1', gstep b s = some s1' ∧ gstep a s1' = some s2 := by
  obtain ⟨ga, ia⟩ := a
  obtain ⟨gb, ib⟩ := b
  simp only [special3, Bool.and_eq_true, Option.isNone_iff_eq_none] at hs
  obtain ⟨⟨rfl, rfl⟩, hs⟩ := hs
  simp only [gstep] at h1 h2 ⊢
  split at hs
  · rename_i d k i d' k' i'
    simp only [Bool.and_eq_true, beq_iff_eq, bne_iff_ne, ne_eq] at hs
    obtain ⟨⟨⟨⟨rfl, hk⟩, hdd⟩, hdi⟩, hdi'⟩ := hs
    simp only [step, get] at h1 h2 ⊢
    split at h1
    · rename_i xs hx
      split at h1
      · rename_i v hv
        simp only [Option.some.injEq] at h1
        subst h1
        have e1 : (St.put { s with t := upd s.t i (.tup (xs.set k (share v))) } d v).t i = .tup (xs.set k (share v)) := by
          simp only [St.put]
          rw [upd_other _ _ _ (fun e => hdi e.symm), upd_same]
        rw [e1] at h2
        simp only [List.getElem?_set_ne hk] at h2
        split at h2
        · rename_i v' hv'
          simp only [Option.some.injEq] at h2
          subst h2
          try simp only [hx]
          try simp only [hv']
          refine ⟨_, rfl, ?_⟩
          have e2 : (St.put { s with t := upd s.t i (.tup (xs.set k' (share v'))) } d' v').t i = .tup (xs.set k' (share v')) := by
            simp only [St.put]
            rw [upd_other _ _ _ (fun e => hdi' e.symm), upd_same]
          rw [e2]
          simp only [List.getElem?_set_ne (fun e => hk e.symm), hv, Option.some.injEq, St.put, St.mk.injEq, and_true]
          funext j
          simp only [upd]
          rw [List.set_comm _ _ hk]
          by_cases j1 : j = d <;> by_cases j2 : j = d' <;> by_cases j3 : j = i <;> simp_all
        · simp at h2
      · simp at h1
    · simp at h1
  · simp at hs
theorem special_swap {a b : GI} (hs : special a b = true) (i1 : ∀ k ∈ a.2.writes, k ∉ greads b) (i2 : ∀ k ∈ a.2.writes, k ∉ b.2.writes) (i3 : ∀ k ∈ b.2.writes, k ∉ greads a) {s s1 s2 : St} (h1 : gstep a s = some s1) (h2 : gstep b s1 = some s2) :
    ∃ s1', gstep b s = some s1' ∧ gstep a s1' = some s2 := by
  simp only [special, Bool.or_eq_true] at hs
  rcases hs with hs | hs
  · exact special1_swap hs i1 i2 i3 h1 h2
  · exact special2_swap hs i1 i2 i3 h1 h2

theorem gstep_swap {a b : GI} (hi : indep a b = true) {s s1 s2 : St} (h1 : gstep a s = some s1) (h2 : gstep b s1 = some s2) : ∃ s1', gstep b s = some s1' ∧ gstep a s1' = some s2 := by
  cases hs3 : special3 a b with
  | true => exact special3_swap hs3 h1 h2
  | false =>
  obtain ⟨i1, i2, i3, i45, _⟩ := indep_spec' hi hs3
  rcases i45 with i4 | ⟨i4, i5⟩
  · exact special_swap i4 i1 i2 i3 h1 h2
  have fa := gstep_frame a s s1 h1
  have fb := gstep_frame b s1 s2 h2
  have ahw : ∀ {c : Bool}, a.2.hw = c → c = true ∨ a.2.hw = false := fun h => by cases h' : a.2.hw <;> simp_all
  have e1 : b.2.hr = true → s.h = s1.h := fun h => by
    refine (fa.2 ?_).symm
    cases h' : a.2.hw
    · rfl
    · exact absurd ⟨h', h⟩ i4
  have lb := gstep_local b s s1 (fun k hk => (fa.1 k (fun hk' => i1 k hk' hk)).symm) e1 (hw_hr _)
  rw [h2] at lb
  cases h3 : gstep b s with
  | none => rw [h3] at lb; exact lb.elim
  | some s1' =>
    rw [h3] at lb
    have fb' := gstep_frame b s s1' h3
    have e2 : a.2.hr = true → s.h = s1'.h := fun h => by
      refine (fb'.2 ?_).symm
      cases h' : b.2.hw
      · rfl
      · exact absurd ⟨h', h⟩ i5
    have la := gstep_local a s s1' (fun k hk => (fb'.1 k (fun hk' => i3 k hk' hk)).symm) e2 (hw_hr _)
    rw [h1] at la
    cases h4 : gstep a s1' with
    | none => rw [h4] at la; exact la.elim
    | some s2' =>
      rw [h4] at la
      have fa' := gstep_frame a s1' s2' h4
      refine ⟨s1', rfl, ?_⟩
      rw [h4]
      congr 1
      have et : s2'.t = s2.t := by
        funext k
        by_cases ka : k ∈ a.2.writes
        · rw [← la.1 k ka, fb.1 k (i2 k ka)]
        · by_cases kb : k ∈ b.2.writes
          · rw [fa'.1 k ka, lb.1 k kb]
          · rw [fa'.1 k ka, fb'.1 k kb, fb.1 k kb, fa.1 k ka]
      have eh : s2'.h = s2.h := by
        cases ha : a.2.hw with
        | true =>
          have hbw : b.2.hw = false := by
            cases hb : b.2.hw with
            | true => exact absurd ⟨ha, hw_hr _ hb⟩ i4
            | false => rfl
          rw [← la.2 ha, fb.2 hbw]
        | false =>
          cases hb : b.2.hw with
          | true => rw [fa'.2 ha, lb.2 hb]
          | false => rw [fa'.2 ha, fb'.2 hb, fb.2 hb, fa.2 ha]
      cases s2'; cases s2
      simp only at et eh
      rw [et, eh]
end Go.TL
