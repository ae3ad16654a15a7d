/- Calls over trees, and what a row of instructions leads to. No program, no conditions. -/
import Derived.Test.YtclfngbealdbgaaTLCa
namespace Go.TL

def putO (t : Nat → LV) : Option Nat → LV → (Nat → LV)
  | some d, v => upd t d v
  | none, _ => t
def putcall (s : St) (d : Option Nat) (r : LV) (h' : List Box) : St := { t := putO s.t d r, h := h' }

/-- a call with what must hold behind it: of any function, or of one that leaves the variables alone -/
def callWp (P : Program) (rw : Bool) (fid : FuncId) (vals : List LV) (h : List Box) (Kr : LV → List Box → Prop) : Prop :=
  if rw = true then LCalls P fid vals h Kr else LowAll 0 vals ∧ ∃ R, Gives P fid vals R ∧ ∀ r, R r → Kr r h
theorem callWp_t {P : Program} {fid : FuncId} {vals : List LV} {h : List Box} {Kr : LV → List Box → Prop} : callWp P true fid vals h Kr ↔ LCalls P fid vals h Kr := by simp [callWp]
theorem callWp_f {P : Program} {fid : FuncId} {vals : List LV} {h : List Box} {Kr : LV → List Box → Prop} : callWp P false fid vals h Kr ↔ LowAll 0 vals ∧ ∃ R, Gives P fid vals R ∧ ∀ r, R r → Kr r h := by simp [callWp]
theorem callWp_mono {P : Program} {rw : Bool} {fid : FuncId} {vals : List LV} {h : List Box} {Kr Kr' : LV → List Box → Prop} (c : callWp P rw fid vals h Kr) (hk : ∀ r h', Kr r h' → Kr' r h') : callWp P rw fid vals h Kr' := by
  cases rw with
  | true => rw [callWp_t] at c ⊢; exact c.mono hk
  | false =>
    rw [callWp_f] at c ⊢
    obtain ⟨lo, R, h1, h2⟩ := c
    exact ⟨lo, R, h1, fun r hr => hk r h (h2 r hr)⟩
theorem callWp_lcalls {P : Program} {rw : Bool} {fid : FuncId} {vals : List LV} {h : List Box} {Kr : LV → List Box → Prop} (c : callWp P rw fid vals h Kr) : LCalls P fid vals h Kr := by
  cases rw with
  | true => rwa [callWp_t] at c
  | false =>
    rw [callWp_f] at c
    obtain ⟨lo, R, h1, h2⟩ := c
    exact (h1.lift lo h).mono fun r h' hr => by rw [hr.1]; exact h2 r hr.2

/-- which function a value calls, and with what -/
def fnArgs (v : LV) (as : List LV) : Option (FuncId × List LV) :=
  match v with
  | .fn f caps => some (f, as ++ shareAll caps)
  | .fnm f first => some (f, shareAll first ++ as)
  | _ => none
def wpCall (P : Program) (rw : Bool) (d : Option Nat) (f : X) (args : List X) (K : St → Prop) (s : St) : Prop :=
  ∃ fid vals, fnArgs (get s.t f) (args.map (fun x => share (get s.t x))) = some (fid, vals) ∧ callWp P rw fid vals s.h (fun r h' => K (putcall s d r h'))

def wpG (P : Program) (g : GI) (K : St → Prop) (s : St) : Prop :=
  match g.2 with
  | .call rw d f args => match g.1 with
    | none => wpCall P rw d f args K s
    | some (j, want) => ∃ b, gd want (s.t j) = some b ∧ (b = want → wpCall P rw d f args K s) ∧ (¬ b = want → K (TL.skip g.2 s))
  | _ => ∃ s', gstep g s = some s' ∧ K s'

def wpL (P : Program) : List GI → (St → Prop) → St → Prop
  | [], Q, s => Q s
  | g :: gs, Q, s => wpG P g (wpL P gs Q) s

section
variable {P : Program}

theorem wpCall_mono {rw : Bool} {d : Option Nat} {f : X} {args : List X} {K K' : St → Prop} {s : St} (h : wpCall P rw d f args K s) (hk : ∀ s', K s' → K' s') : wpCall P rw d f args K' s := by
  obtain ⟨fid, caps, h1, h2⟩ := h
  exact ⟨fid, caps, h1, callWp_mono h2 fun r h' hr => hk _ hr⟩

theorem wpG_mono {g : GI} {K K' : St → Prop} {s : St} (h : wpG P g K s) (hk : ∀ s', K s' → K' s') : wpG P g K' s := by
  unfold wpG at h ⊢
  split
  · split
    · rename_i hg1; simp only [hg1] at h
      rename_i hg2 _; simp only [hg2] at h
      exact wpCall_mono h hk
    · rename_i hg2 _ _ _ hg1
      simp only [hg2, hg1] at h
      obtain ⟨b, h1, h2, h3⟩ := h
      exact ⟨b, h1, fun e => wpCall_mono (h2 e) hk, fun e => hk _ (by simpa [hg2] using h3 e)⟩
  · rename_i hne
    split at h
    · rename_i rw d f args hg2
      exact absurd hg2 (hne rw d f args)
    · obtain ⟨s', h1, h2⟩ := h
      exact ⟨s', h1, hk _ h2⟩

theorem wpG_det {g : GI} {K : St → Prop} {s : St} (hc : g.2.isCall = false) : wpG P g K s ↔ ∃ s', gstep g s = some s' ∧ K s' := by
  unfold wpG
  split
  · rename_i hg; simp [hg, I.isCall] at hc
  · exact Iff.rfl

theorem wpG_call {g : GI} {K : St → Prop} {s : St} {rw : Bool} {d : Option Nat} {f : X} {args : List X} (hg : g.2 = .call rw d f args) :
    wpG P g K s ↔ match g.1 with
      | none => wpCall P rw d f args K s
      | some (j, want) => ∃ b, gd want (s.t j) = some b ∧ (b = want → wpCall P rw d f args K s) ∧ (¬ b = want → K (TL.skip (.call rw d f args) s)) := by
  unfold wpG
  simp only [hg]

theorem putO_out {t : Nat → LV} {d : Option Nat} {v : LV} {k : Nat} (h : k ∉ d.toList) : putO t d v k = t k := by
  cases d with
  | none => rfl
  | some d => exact upd_other _ _ _ (fun e => h (by simp [e]))

/-- a step that is apart from a call may be done on either side of it -/
theorem callcomm {g : GI} {d : Option Nat} {s s1 : St} {r : LV} {h' : List Box} (h1 : gstep g s = some s1) (hd1 : ∀ k ∈ d.toList, k ∉ greads g) (hd2 : ∀ k ∈ d.toList, k ∉ g.2.writes) (hhw : g.2.hw = false)
    (hh : g.2.hr = true → h' = s.h) : gstep g (putcall s d r h') = some (putcall s1 d r h') := by
  have l := gstep_local g s (putcall s d r h') (fun k hk => (putO_out (fun hk' => hd1 k hk' hk)).symm) (fun h => (hh h).symm) (hw_hr _)
  rw [h1] at l
  cases h2 : gstep g (putcall s d r h') with
  | none => rw [h2] at l; exact l.elim
  | some s2 =>
    rw [h2] at l
    have f1 := gstep_frame g s s1 h1
    have f2 := gstep_frame g _ s2 h2
    congr 1
    have et : s2.t = putO s1.t d r := by
      funext k
      by_cases hk : k ∈ g.2.writes
      · rw [← l.1 k hk, putO_out (fun hk' => hd2 k hk' hk)]
      · rw [f2.1 k hk]
        show putO s.t d r k = _
        cases d with
        | none => exact (f1.1 k hk).symm
        | some d =>
          simp only [putO]
          by_cases e : k = d
          · subst e; rw [upd_same, upd_same]
          · rw [upd_other _ _ _ e, upd_other _ _ _ e]; exact (f1.1 k hk).symm
    have eh : s2.h = h' := f2.2 hhw
    cases s2
    simp only at et eh
    rw [et, eh]; rfl

theorem callcomm_back {g : GI} {d : Option Nat} {s s2 : St} {r : LV} {h' : List Box} (h2 : gstep g (putcall s d r h') = some s2) (hd1 : ∀ k ∈ d.toList, k ∉ greads g) (hd2 : ∀ k ∈ d.toList, k ∉ g.2.writes) (hhw : g.2.hw = false)
    (hh : g.2.hr = true → h' = s.h) : ∃ s1, gstep g s = some s1 ∧ s2 = putcall s1 d r h' := by
  have l := gstep_local g s (putcall s d r h') (fun k hk => (putO_out (fun hk' => hd1 k hk' hk)).symm) (fun h => (hh h).symm) (hw_hr _)
  rw [h2] at l
  cases h1 : gstep g s with
  | none => rw [h1] at l; exact l.elim
  | some s1 =>
    have := callcomm (r := r) (h' := h') h1 hd1 hd2 hhw hh
    rw [this] at h2
    exact ⟨s1, rfl, by simpa using h2.symm⟩

/-- a step that is apart from a call that leaves the variables alone -/
theorem purecomm {g : GI} {d : Option Nat} {s s1 : St} {r : LV} (h1 : gstep g s = some s1) (hd1 : ∀ k ∈ d.toList, k ∉ greads g) (hd2 : ∀ k ∈ d.toList, k ∉ g.2.writes) :
    gstep g (putcall s d r s.h) = some (putcall s1 d r s1.h) := by
  have l := gstep_local g s (putcall s d r s.h) (fun k hk => (putO_out (fun hk' => hd1 k hk' hk)).symm) (fun _ => rfl) (hw_hr _)
  rw [h1] at l
  cases h2 : gstep g (putcall s d r s.h) with
  | none => rw [h2] at l; exact l.elim
  | some s2 =>
    rw [h2] at l
    have f1 := gstep_frame g s s1 h1
    have f2 := gstep_frame g _ s2 h2
    congr 1
    have et : s2.t = putO s1.t d r := by
      funext k
      by_cases hk : k ∈ g.2.writes
      · rw [← l.1 k hk, putO_out (fun hk' => hd2 k hk' hk)]
      · rw [f2.1 k hk]
        show putO s.t d r k = _
        cases d with
        | none => exact (f1.1 k hk).symm
        | some d =>
          simp only [putO]
          by_cases e : k = d
          · subst e; rw [upd_same, upd_same]
          · rw [upd_other _ _ _ e, upd_other _ _ _ e]; exact (f1.1 k hk).symm
    have eh : s2.h = s1.h := by
      cases hw : g.2.hw with
      | true => exact (l.2 hw).symm
      | false => rw [f2.2 hw, f1.2 hw]; rfl
    cases s2
    simp only at et eh
    rw [et, eh]; rfl
theorem purecomm_back {g : GI} {d : Option Nat} {s s2 : St} {r : LV} (h2 : gstep g (putcall s d r s.h) = some s2) (hd1 : ∀ k ∈ d.toList, k ∉ greads g) (hd2 : ∀ k ∈ d.toList, k ∉ g.2.writes) :
    ∃ s1, gstep g s = some s1 ∧ s2 = putcall s1 d r s1.h := by
  have l := gstep_local g s (putcall s d r s.h) (fun k hk => (putO_out (fun hk' => hd1 k hk' hk)).symm) (fun _ => rfl) (hw_hr _)
  rw [h2] at l
  cases h1 : gstep g s with
  | none => rw [h1] at l; exact l.elim
  | some s1 =>
    have := purecomm (r := r) h1 hd1 hd2
    rw [this] at h2
    exact ⟨s1, rfl, by simpa using h2.symm⟩

theorem get_eq_of {s s1 : St} {x : X} (h : ∀ k ∈ slotOf x, s1.t k = s.t k) : get s1.t x = get s.t x := get_congr h

theorem call_reads {rw : Bool} {d : Option Nat} {f : X} {args : List X} {k : Nat} : k ∈ (I.call rw d f args).reads ↔ k ∈ slotOf f ∨ ∃ x ∈ args, k ∈ slotOf x := by
  simp [I.reads, I.ops, slots]

/-- what is skipped, as a call that gave nothing -/
theorem skip_call_put {rw : Bool} {d : Option Nat} {f : X} {args : List X} {s : St} : TL.skip (.call rw d f args) s = putcall s d (.sc undef) s.h := by
  unfold TL.skip putcall putO
  simp only [I.dst]
  cases d <;> rfl

/-- a step behind a call, put ahead of it -/
theorem swap_call_det {p g : GI} {K : St → Prop} {s : St} (hi : indep p g = true) (hp : p.2.isCall = true) (hg : g.2.isCall = false) (h : wpG P p (wpG P g K) s) : wpG P g (wpG P p K) s := by
  obtain ⟨i1, i2, i3, i4, i5, _⟩ := indep_spec hi (.inl hp)
  cases hpc : p.2 <;> (try (simp [hpc, I.isCall] at hp; done))
  rename_i rw d f args
  have hdw : ∀ k ∈ d.toList, k ∈ p.2.writes := fun k hk => by rw [hpc]; simp [I.writes, I.dst] at hk ⊢; exact .inl hk
  have hd1 : ∀ k ∈ d.toList, k ∉ greads g := fun k hk => i1 k (hdw k hk)
  have hd2 : ∀ k ∈ d.toList, k ∉ g.2.writes := fun k hk => i2 k (hdw k hk)
  have hr1 : ∀ k, k ∈ p.2.reads → k ∈ greads p := fun k hk => by simp [greads, hk]
  rw [wpG_det hg]
  rw [wpG_call hpc] at h
  have same' : ∀ s1, gstep g s = some s1 → ∀ x, (∀ k ∈ slotOf x, k ∈ greads p) → get s1.t x = get s.t x := fun s1 q3 x hx => get_congr fun k hk => (gstep_frame g s s1 q3).1 k (fun hkw => i3 k hkw (hx k hk))
  have args' : ∀ s1, gstep g s = some s1 → args.map (fun x => share (get s1.t x)) = args.map (fun x => share (get s.t x)) := fun s1 q3 => List.map_congr_left fun x hx => by
    rw [same' s1 q3 x (fun k hk => hr1 k (by rw [hpc, call_reads]; exact .inr ⟨x, hx, hk⟩))]
  have fun' : ∀ s1, gstep g s = some s1 → get s1.t f = get s.t f := fun s1 q3 => same' s1 q3 f (fun k hk => hr1 k (by rw [hpc, call_reads]; exact .inl hk))
  -- what a call leads to
  have core : wpCall P rw d f args (wpG P g K) s → ∃ s1, gstep g s = some s1 ∧ wpCall P rw d f args K s1 := by
    cases rw with
    | true =>
      have phr : p.2.hr = true := by rw [hpc]; rfl
      have phw : p.2.hw = true := by rw [hpc]; rfl
      have ghw : g.2.hw = false := by
        cases hh : g.2.hw with
        | true => exact absurd ⟨hh, phr⟩ i5
        | false => rfl
      have ghr : ¬ g.2.hr = true := fun hh => i4 ⟨phw, hh⟩
      rintro ⟨fid, caps, c1, c2⟩
      rw [callWp_t] at c2
      obtain ⟨r0, h0, k0⟩ := c2.2.1
      rw [wpG_det hg] at k0
      obtain ⟨s2, q1, q2⟩ := k0
      obtain ⟨s1, q3, _⟩ := callcomm_back q1 hd1 hd2 ghw (fun hgr => absurd hgr ghr)
      have fr := gstep_frame g s s1 q3
      refine ⟨s1, q3, fid, caps, ?_, ?_⟩
      · rw [fun' s1 q3, args' s1 q3]; exact c1
      · rw [fr.2 ghw, callWp_t]
        refine c2.mono fun r h' k1 => ?_
        rw [wpG_det hg] at k1
        obtain ⟨s3, q4, q5⟩ := k1
        obtain ⟨s1', q6, q7⟩ := callcomm_back q4 hd1 hd2 ghw (fun hgr => absurd hgr ghr)
        rw [q3] at q6
        obtain rfl : s1 = s1' := by simpa using q6
        rw [q7] at q5
        exact q5
    | false =>
      rintro ⟨fid, caps, c1, c2⟩
      rw [callWp_f] at c2
      obtain ⟨lo, R, c3, c4⟩ := c2
      obtain ⟨r0, _, hr0, _⟩ := c3.2.1
      have k0 := c4 r0 hr0
      rw [wpG_det hg] at k0
      obtain ⟨s2, q1, q2⟩ := k0
      obtain ⟨s1, q3, _⟩ := purecomm_back q1 hd1 hd2
      refine ⟨s1, q3, fid, caps, ?_, ?_⟩
      · rw [fun' s1 q3, args' s1 q3]; exact c1
      · rw [callWp_f]
        refine ⟨lo, R, c3, fun r hr => ?_⟩
        have k1 := c4 r hr
        rw [wpG_det hg] at k1
        obtain ⟨s3, q4, q5⟩ := k1
        obtain ⟨s1', q6, q7⟩ := purecomm_back q4 hd1 hd2
        rw [q3] at q6
        obtain rfl : s1 = s1' := by simpa using q6
        rw [q7] at q5
        exact q5
  cases hp1 : p.1 with
  | none =>
    rw [hp1] at h
    obtain ⟨s1, q1, q2⟩ := core h
    exact ⟨s1, q1, by rw [wpG_call hpc, hp1]; exact q2⟩
  | some jw =>
    obtain ⟨j, want⟩ := jw
    rw [hp1] at h
    obtain ⟨b, hb, h1, h2⟩ := h
    have hj : ∀ s1, gstep g s = some s1 → s1.t j = s.t j := fun s1 q => (gstep_frame g s s1 q).1 j (fun hkw => i3 j hkw (by simp [greads, hp1]))
    by_cases hbw : b = want
    · obtain ⟨s1, q1, q2⟩ := core (h1 hbw)
      refine ⟨s1, q1, ?_⟩
      rw [wpG_call hpc, hp1]
      exact ⟨b, by rw [hj s1 q1]; exact hb, fun _ => q2, fun e => absurd hbw e⟩
    · have h3 := h2 hbw
      rw [wpG_det hg] at h3
      obtain ⟨s2, q1, q2⟩ := h3
      rw [skip_call_put] at q1
      obtain ⟨s1, q3, rfl⟩ := purecomm_back q1 hd1 hd2
      refine ⟨s1, q3, ?_⟩
      rw [wpG_call hpc, hp1]
      refine ⟨b, by rw [hj s1 q3]; exact hb, fun e => absurd e hbw, fun _ => ?_⟩
      rw [skip_call_put]; exact q2

/-- a call behind a step, put ahead of it -/
theorem swap_det_call {p g : GI} {K : St → Prop} {s : St} (hi : indep p g = true) (hp : p.2.isCall = false) (hg : g.2.isCall = true) (h : wpG P p (wpG P g K) s) : wpG P g (wpG P p K) s := by
  obtain ⟨i1, i2, i3, i4, i5, _⟩ := indep_spec hi (.inr hg)
  cases hgc : g.2 <;> (try (simp [hgc, I.isCall] at hg; done))
  rename_i rw d f args
  have hdw : ∀ k ∈ d.toList, k ∈ g.2.writes := fun k hk => by rw [hgc]; simp [I.writes, I.dst] at hk ⊢; exact .inl hk
  have hd1 : ∀ k ∈ d.toList, k ∉ greads p := fun k hk => i3 k (hdw k hk)
  have hd2 : ∀ k ∈ d.toList, k ∉ p.2.writes := fun k hk hk' => i2 k hk' (hdw k hk)
  rw [wpG_det hp] at h
  obtain ⟨s1, q1, q2⟩ := h
  have fr := gstep_frame p s s1 q1
  have same : ∀ x, (∀ k ∈ slotOf x, k ∈ greads g) → get s1.t x = get s.t x := fun x hx => get_congr fun k hk => fr.1 k (fun hkw => i1 k hkw (hx k hk))
  have hr1 : ∀ k, k ∈ g.2.reads → k ∈ greads g := fun k hk => by simp [greads, hk]
  have core : wpCall P rw d f args K s1 → wpCall P rw d f args (wpG P p K) s := by
    rintro ⟨fid, caps, c1, c2⟩
    have ea : args.map (fun x => share (get s1.t x)) = args.map (fun x => share (get s.t x)) := List.map_congr_left fun x hx => by
      rw [same x (fun k hk => hr1 k (by rw [hgc, call_reads]; exact .inr ⟨x, hx, hk⟩))]
    refine ⟨fid, caps, ?_, ?_⟩
    · rw [← same f (fun k hk => hr1 k (by rw [hgc, call_reads]; exact .inl hk)), ← ea]; exact c1
    · cases rw with
      | true =>
        have ghr : g.2.hr = true := by rw [hgc]; rfl
        have ghw : g.2.hw = true := by rw [hgc]; rfl
        have phw : p.2.hw = false := by
          cases hh : p.2.hw with
          | true => exact absurd ⟨hh, ghr⟩ i4
          | false => rfl
        have phr : ¬ p.2.hr = true := fun hh => i5 ⟨ghw, hh⟩
        rw [fr.2 phw] at c2
        refine callWp_mono c2 fun r h' hr => ?_
        rw [wpG_det hp]
        exact ⟨_, callcomm q1 hd1 hd2 phw (fun hpr => absurd hpr phr), hr⟩
      | false =>
        rw [callWp_f] at c2 ⊢
        obtain ⟨lo, R, c3, c4⟩ := c2
        refine ⟨lo, R, c3, fun r hr => ?_⟩
        rw [wpG_det hp]
        exact ⟨_, purecomm q1 hd1 hd2, c4 r hr⟩
  rw [wpG_call hgc] at q2 ⊢
  cases hg1 : g.1 with
  | none => rw [hg1] at q2; exact core q2
  | some jw =>
    obtain ⟨j, want⟩ := jw
    rw [hg1] at q2
    obtain ⟨b, hb, h1, h2⟩ := q2
    have hj : s1.t j = s.t j := fr.1 j (fun hkw => i1 j hkw (by simp [greads, hg1]))
    rw [hj] at hb
    refine ⟨b, hb, fun e => core (h1 e), fun e => ?_⟩
    rw [wpG_det hp, skip_call_put]
    exact ⟨_, purecomm q1 hd1 hd2, by rw [← skip_call_put (rw := rw) (f := f) (args := args)]; exact h2 e⟩

theorem swap {p g : GI} {K : St → Prop} {s : St} (hi : indep p g = true) (h : wpG P p (wpG P g K) s) : wpG P g (wpG P p K) s := by
  cases hp : p.2.isCall with
  | true =>
    cases hg : g.2.isCall with
    | true => exact absurd ⟨hp, hg⟩ (indep_spec hi (.inl hp)).2.2.2.2.2
    | false => exact swap_call_det hi hp hg h
  | false =>
    cases hg : g.2.isCall with
    | true => exact swap_det_call hi hp hg h
    | false =>
      rw [wpG_det hp] at h
      obtain ⟨s1, q1, q2⟩ := h
      rw [wpG_det hg] at q2
      obtain ⟨s2, q3, q4⟩ := q2
      obtain ⟨s1', q5, q6⟩ := gstep_swap hi q1 q3
      rw [wpG_det hg]
      exact ⟨s1', q5, by rw [wpG_det hp]; exact ⟨s2, q6, q4⟩⟩

/-- an instruction that is apart from all ahead of it may come first -/
theorem pull {g : GI} {Q : St → Prop} {post : List GI} : ∀ {pre : List GI} {s : St}, (∀ p ∈ pre, indep p g = true) → wpL P (pre ++ g :: post) Q s → wpG P g (wpL P (pre ++ post) Q) s
  | [], s, _, h => h
  | p :: pre, s, hi, h => swap (hi p (by simp)) (wpG_mono h fun s' hs' => pull (fun q hq => hi q (by simp [hq])) hs')
end

end Go.TL
