/- Calls over trees, and what a row of instructions leads to. No program, no conditions. -/
import Derived.Test.YticcekapikfhaaaTLCa
namespace Go.TL

def putO (t : Nat → LV) : Option Nat → LV → (Nat → LV)
  | some d, v => upd t d v
  | none, _ => t
def putcall (s : St) (d : Option Nat) (r : LV) (h' : List Box) : St := { t := putO s.t d r, h := h' }

/-- a call with what must hold behind it: of any function, or of one that leaves the variables alone -/
def callWp (P : Program) (rw : Rw) (fid : FuncId) (vals : List LV) (h : List Box) (Kr : LV → List Box → Prop) : Prop :=
  match rw with
  | .any => LCalls P fid vals h Kr
  | .no => LowAll 0 vals ∧ ∃ R, Gives P fid vals R ∧ ∀ r, R r → Kr r h
  | .fr => ∃ (l o : Nat) (xs : List LV) (Q : LV → List LV → Prop), .ptr l o ∈ vals ∧ h[l]? = some (some xs) ∧ (∀ h2 : List Box, h2[l]? = some (some xs) → LCalls P fid vals h2 fun r h' => ∃ xs', Q r xs' ∧ h' = h2.set l (some xs')) ∧
      ∀ r xs', Q r xs' → Kr r (h.set l (some xs'))
theorem callWp_t {P : Program} {fid : FuncId} {vals : List LV} {h : List Box} {Kr : LV → List Box → Prop} : callWp P .any fid vals h Kr ↔ LCalls P fid vals h Kr := Iff.rfl
theorem callWp_f {P : Program} {fid : FuncId} {vals : List LV} {h : List Box} {Kr : LV → List Box → Prop} : callWp P .no fid vals h Kr ↔ LowAll 0 vals ∧ ∃ R, Gives P fid vals R ∧ ∀ r, R r → Kr r h := Iff.rfl
theorem callWp_r {P : Program} {fid : FuncId} {vals : List LV} {h : List Box} {Kr : LV → List Box → Prop} : callWp P .fr fid vals h Kr ↔ ∃ (l o : Nat) (xs : List LV) (Q : LV → List LV → Prop), .ptr l o ∈ vals ∧ h[l]? = some (some xs) ∧
    (∀ h2 : List Box, h2[l]? = some (some xs) → LCalls P fid vals h2 fun r h' => ∃ xs', Q r xs' ∧ h' = h2.set l (some xs')) ∧ ∀ r xs', Q r xs' → Kr r (h.set l (some xs')) := Iff.rfl
theorem callWp_mono {P : Program} {rw : Rw} {fid : FuncId} {vals : List LV} {h : List Box} {Kr Kr' : LV → List Box → Prop} (c : callWp P rw fid vals h Kr) (hk : ∀ r h', Kr r h' → Kr' r h') : callWp P rw fid vals h Kr' := by
  cases rw with
  | any => rw [callWp_t] at c ⊢; exact c.mono hk
  | no =>
    rw [callWp_f] at c ⊢
    obtain ⟨lo, R, h1, h2⟩ := c
    exact ⟨lo, R, h1, fun r hr => hk r h (h2 r hr)⟩
  | fr =>
    rw [callWp_r] at c ⊢
    obtain ⟨l, o, xs, Q, h0, h1, h2, h3⟩ := c
    exact ⟨l, o, xs, Q, h0, h1, h2, fun r xs' hq => hk _ _ (h3 r xs' hq)⟩
theorem callWp_lcalls {P : Program} {rw : Rw} {fid : FuncId} {vals : List LV} {h : List Box} {Kr : LV → List Box → Prop} (c : callWp P rw fid vals h Kr) : LCalls P fid vals h Kr := by
  cases rw with
  | any => rwa [callWp_t] at c
  | no =>
    rw [callWp_f] at c
    obtain ⟨lo, R, h1, h2⟩ := c
    exact (h1.lift lo h).mono fun r h' hr => by rw [hr.1]; exact h2 r hr.2
  | fr =>
    rw [callWp_r] at c
    obtain ⟨l, o, xs, Q, h0, h1, h2, h3⟩ := c
    exact (h2 h h1).mono fun r h' hr => by
      obtain ⟨xs', hq, rfl⟩ := hr
      exact h3 r xs' hq

/-- which function a value calls, and with what -/
def fnArgs (v : LV) (as : List LV) : Option (FuncId × List LV) :=
  match v with
  | .fn f caps => some (f, as ++ shareAll caps)
  | .fnm f first => some (f, shareAll first ++ as)
  | _ => none
def wpCall (P : Program) (rw : Rw) (d : Option Nat) (f : X) (args : List X) (K : St → Prop) (s : St) : Prop :=
  ∃ fid vals, fnArgs (get s.t f) (args.map (fun x => share (get s.t x))) = some (fid, vals) ∧ callWp P rw fid vals s.h (fun r h' => K (putcall s d r h'))

def wpG (P : Program) (g : GI) (K : St → Prop) (s : St) : Prop :=
  match g.2 with
  | .call rw d f args => match g.1 with
    | none => wpCall P rw d f args K s
    | some (j, want) => ∃ b, gd want (s.t j) = some b ∧ (b = want → wpCall P rw d f args K s) ∧ (¬ b = want → K (TL.skip g.2 s))
  | _ => ∃ s', gstep g s = some s' ∧ K s'

def wpL (P : Program) : List GI → (St → Prop) → St → Prop
  | [], Q, s => Q s
  | g :: gs, Q, s => wpG P g (wpL P gs Q) s

section
variable {P : Program}

theorem wpCall_mono {rw : Rw} {d : Option Nat} {f : X} {args : List X} {K K' : St → Prop} {s : St} (h : wpCall P rw d f args K s) (hk : ∀ s', K s' → K' s') : wpCall P rw d f args K' s := by
  obtain ⟨fid, caps, h1, h2⟩ := h
  exact ⟨fid, caps, h1, callWp_mono h2 fun r h' hr => hk _ hr⟩

theorem wpG_mono {g : GI} {K K' : St → Prop} {s : St} (h : wpG P g K s) (hk : ∀ s', K s' → K' s') : wpG P g K' s := by
  unfold wpG at h ⊢
  split
  · split
    · rename_i hg1; simp only [hg1] at h
      rename_i hg2 _; simp only [hg2] at h
      exact wpCall_mono h hk
    · rename_i hg2 _ _ _ hg1
      simp only [hg2, hg1] at h
      obtain ⟨b, h1, h2, h3⟩ := h
      exact ⟨b, h1, fun e => wpCall_mono (h2 e) hk, fun e => hk _ (by simpa [hg2] using h3 e)⟩
  · rename_i hne
    split at h
    · rename_i rw d f args hg2
      exact absurd hg2 (hne rw d f args)
    · obtain ⟨s', h1, h2⟩ := h
      exact ⟨s', h1, hk _ h2⟩

theorem wpG_det {g : GI} {K : St → Prop} {s : St} (hc : g.2.isCall = false) : wpG P g K s ↔ ∃ s', gstep g s = some s' ∧ K s' := by
  unfold wpG
  split
  · rename_i hg; simp [hg, I.isCall] at hc
  · exact Iff.rfl

theorem wpG_call {g : GI} {K : St → Prop} {s : St} {rw : Rw} {d : Option Nat} {f : X} {args : List X} (hg : g.2 = .call rw d f args) :
    wpG P g K s ↔ match g.1 with
      | none => wpCall P rw d f args K s
      | some (j, want) => ∃ b, gd want (s.t j) = some b ∧ (b = want → wpCall P rw d f args K s) ∧ (¬ b = want → K (TL.skip (.call rw d f args) s)) := by
  unfold wpG
  simp only [hg]

theorem putO_out {t : Nat → LV} {d : Option Nat} {v : LV} {k : Nat} (h : k ∉ d.toList) : putO t d v k = t k := by
  cases d with
  | none => rfl
  | some d => exact upd_other _ _ _ (fun e => h (by simp [e]))

/-- a step that is apart from a call may be done on either side of it -/
theorem callcomm {g : GI} {d : Option Nat} {s s1 : St} {r : LV} {h' : List Box} (h1 : gstep g s = some s1) (hd1 : ∀ k ∈ d.toList, k ∉ greads g) (hd2 : ∀ k ∈ d.toList, k ∉ g.2.writes) (hhw : g.2.hw = false)
    (hh : g.2.hr = true → h' = s.h) : gstep g (putcall s d r h') = some (putcall s1 d r h') := by
  have l := gstep_local g s (putcall s d r h') (fun k hk => (putO_out (fun hk' => hd1 k hk' hk)).symm) (fun h => (hh h).symm) (hw_hr _)
  rw [h1] at l
  cases h2 : gstep g (putcall s d r h') with
  | none => rw [h2] at l; exact l.elim
  | some s2 =>
    rw [h2] at l
    have f1 := gstep_frame g s s1 h1
    have f2 := gstep_frame g _ s2 h2
    congr 1
    have et : s2.t = putO s1.t d r := by
      funext k
      by_cases hk : k ∈ g.2.writes
      · rw [← l.1 k hk, putO_out (fun hk' => hd2 k hk' hk)]
      · rw [f2.1 k hk]
        show putO s.t d r k = _
        cases d with
        | none => exact (f1.1 k hk).symm
        | some d =>
          simp only [putO]
          by_cases e : k = d
          · subst e; rw [upd_same, upd_same]
          · rw [upd_other _ _ _ e, upd_other _ _ _ e]; exact (f1.1 k hk).symm
    have eh : s2.h = h' := f2.2 hhw
    cases s2
    simp only at et eh
    rw [et, eh]; rfl

theorem callcomm_back {g : GI} {d : Option Nat} {s s2 : St} {r : LV} {h' : List Box} (h2 : gstep g (putcall s d r h') = some s2) (hd1 : ∀ k ∈ d.toList, k ∉ greads g) (hd2 : ∀ k ∈ d.toList, k ∉ g.2.writes) (hhw : g.2.hw = false)
    (hh : g.2.hr = true → h' = s.h) : ∃ s1, gstep g s = some s1 ∧ s2 = putcall s1 d r h' := by
  have l := gstep_local g s (putcall s d r h') (fun k hk => (putO_out (fun hk' => hd1 k hk' hk)).symm) (fun h => (hh h).symm) (hw_hr _)
  rw [h2] at l
  cases h1 : gstep g s with
  | none => rw [h1] at l; exact l.elim
  | some s1 =>
    have := callcomm (r := r) (h' := h') h1 hd1 hd2 hhw hh
    rw [this] at h2
    exact ⟨s1, rfl, by simpa using h2.symm⟩

/-- a step that is apart from a call that leaves the variables alone -/
theorem purecomm {g : GI} {d : Option Nat} {s s1 : St} {r : LV} (h1 : gstep g s = some s1) (hd1 : ∀ k ∈ d.toList, k ∉ greads g) (hd2 : ∀ k ∈ d.toList, k ∉ g.2.writes) :
    gstep g (putcall s d r s.h) = some (putcall s1 d r s1.h) := by
  have l := gstep_local g s (putcall s d r s.h) (fun k hk => (putO_out (fun hk' => hd1 k hk' hk)).symm) (fun _ => rfl) (hw_hr _)
  rw [h1] at l
  cases h2 : gstep g (putcall s d r s.h) with
  | none => rw [h2] at l; exact l.elim
  | some s2 =>
    rw [h2] at l
    have f1 := gstep_frame g s s1 h1
    have f2 := gstep_frame g _ s2 h2
    congr 1
    have et : s2.t = putO s1.t d r := by
      funext k
      by_cases hk : k ∈ g.2.writes
      · rw [← l.1 k hk, putO_out (fun hk' => hd2 k hk' hk)]
      · rw [f2.1 k hk]
        show putO s.t d r k = _
        cases d with
        | none => exact (f1.1 k hk).symm
        | some d =>
          simp only [putO]
          by_cases e : k = d
          · subst e; rw [upd_same, upd_same]
          · rw [upd_other _ _ _ e, upd_other _ _ _ e]; exact (f1.1 k hk).symm
    have eh : s2.h = s1.h := by
      cases hw : g.2.hw with
      | true => exact (l.2 hw).symm
      | false => rw [f2.2 hw, f1.2 hw]; rfl
    cases s2
    simp only at et eh
    rw [et, eh]; rfl
theorem purecomm_back {g : GI} {d : Option Nat} {s s2 : St} {r : LV} (h2 : gstep g (putcall s d r s.h) = some s2) (hd1 : ∀ k ∈ d.toList, k ∉ greads g) (hd2 : ∀ k ∈ d.toList, k ∉ g.2.writes) :
    ∃ s1, gstep g s = some s1 ∧ s2 = putcall s1 d r s1.h := by
  have l := gstep_local g s (putcall s d r s.h) (fun k hk => (putO_out (fun hk' => hd1 k hk' hk)).symm) (fun _ => rfl) (hw_hr _)
  rw [h2] at l
  cases h1 : gstep g s with
  | none => rw [h1] at l; exact l.elim
  | some s1 =>
    have := purecomm (r := r) h1 hd1 hd2
    rw [this] at h2
    exact ⟨s1, rfl, by simpa using h2.symm⟩

theorem get_eq_of {s s1 : St} {x : X} (h : ∀ k ∈ slotOf x, s1.t k = s.t k) : get s1.t x = get s.t x := get_congr h

theorem call_reads {rw : Rw} {d : Option Nat} {f : X} {args : List X} {k : Nat} : k ∈ (I.call rw d f args).reads ↔ k ∈ slotOf f ∨ ∃ x ∈ args, k ∈ slotOf x := by
  simp [I.reads, I.ops, slots]

/-- what is skipped, as a call that gave nothing -/
theorem skip_call_put {rw : Rw} {d : Option Nat} {f : X} {args : List X} {s : St} : TL.skip (.call rw d f args) s = putcall s d (.sc undef) s.h := by
  unfold TL.skip putcall putO
  simp only [I.dst]
  cases d <;> rfl

/-- a step behind a call, put ahead of it -/
theorem swap_call_det {p g : GI} {K : St → Prop} {s : St} (hi : indep p g = true) (hp : p.2.isCall = true) (hg : g.2.isCall = false) (h : wpG P p (wpG P g K) s) : wpG P g (wpG P p K) s := by
  obtain ⟨i1, i2, i3, i4, i5, _⟩ := indep_spec hi (.inl hp)
  cases hpc : p.2 <;> (try (simp [hpc, I.isCall] at hp; done))
  rename_i rw d f args
  have hdw : ∀ k ∈ d.toList, k ∈ p.2.writes := fun k hk => by rw [hpc]; simp [I.writes, I.dst] at hk ⊢; exact .inl hk
  have hd1 : ∀ k ∈ d.toList, k ∉ greads g := fun k hk => i1 k (hdw k hk)
  have hd2 : ∀ k ∈ d.toList, k ∉ g.2.writes := fun k hk => i2 k (hdw k hk)
  have hr1 : ∀ k, k ∈ p.2.reads → k ∈ greads p := fun k hk => by simp [greads, hk]
  rw [wpG_det hg]
  rw [wpG_call hpc] at h
  have same' : ∀ s1, gstep g s = some s1 → ∀ x, (∀ k ∈ slotOf x, k ∈ greads p) → get s1.t x = get s.t x := fun s1 q3 x hx => get_congr fun k hk => (gstep_frame g s s1 q3).1 k (fun hkw => i3 k hkw (hx k hk))
  have args' : ∀ s1, gstep g s = some s1 → args.map (fun x => share (get s1.t x)) = args.map (fun x => share (get s.t x)) := fun s1 q3 => List.map_congr_left fun x hx => by
    rw [same' s1 q3 x (fun k hk => hr1 k (by rw [hpc, call_reads]; exact .inr ⟨x, hx, hk⟩))]
  have fun' : ∀ s1, gstep g s = some s1 → get s1.t f = get s.t f := fun s1 q3 => same' s1 q3 f (fun k hk => hr1 k (by rw [hpc, call_reads]; exact .inl hk))
  -- what a call leads to
  have core : wpCall P rw d f args (wpG P g K) s → ∃ s1, gstep g s = some s1 ∧ wpCall P rw d f args K s1 := by
    cases rw with
    | any =>
      have phr : p.2.hr = true := by rw [hpc]; rfl
      have phw : p.2.hw = true := by rw [hpc]; rfl
      have ghw : g.2.hw = false := by
        cases hh : g.2.hw with
        | true => exact absurd ⟨hh, phr⟩ i5
        | false => rfl
      have ghr : ¬ g.2.hr = true := fun hh => i4 ⟨phw, hh⟩
      rintro ⟨fid, caps, c1, c2⟩
      rw [callWp_t] at c2
      obtain ⟨r0, h0, k0⟩ := c2.2.1
      rw [wpG_det hg] at k0
      obtain ⟨s2, q1, q2⟩ := k0
      obtain ⟨s1, q3, _⟩ := callcomm_back q1 hd1 hd2 ghw (fun hgr => absurd hgr ghr)
      have fr := gstep_frame g s s1 q3
      refine ⟨s1, q3, fid, caps, ?_, ?_⟩
      · rw [fun' s1 q3, args' s1 q3]; exact c1
      · rw [fr.2 ghw, callWp_t]
        refine c2.mono fun r h' k1 => ?_
        rw [wpG_det hg] at k1
        obtain ⟨s3, q4, q5⟩ := k1
        obtain ⟨s1', q6, q7⟩ := callcomm_back q4 hd1 hd2 ghw (fun hgr => absurd hgr ghr)
        rw [q3] at q6
        obtain rfl : s1 = s1' := by simpa using q6
        rw [q7] at q5
        exact q5
    | fr =>
      have phr : p.2.hr = true := by rw [hpc]; rfl
      have phw : p.2.hw = true := by rw [hpc]; rfl
      have ghw : g.2.hw = false := by
        cases hh : g.2.hw with
        | true => exact absurd ⟨hh, phr⟩ i5
        | false => rfl
      have ghr : ¬ g.2.hr = true := fun hh => i4 ⟨phw, hh⟩
      rintro ⟨fid, caps, c1, c2⟩
      rw [callWp_r] at c2
      obtain ⟨l, o, xs, Q, e0, e1, e2, e3⟩ := c2
      obtain ⟨r0, _, xs0, hq0, _⟩ := (e2 s.h e1).2.1
      have k0 := e3 r0 xs0 hq0
      rw [wpG_det hg] at k0
      obtain ⟨s2, q1, q2⟩ := k0
      obtain ⟨s1, q3, _⟩ := callcomm_back q1 hd1 hd2 ghw (fun hgr => absurd hgr ghr)
      have fr := gstep_frame g s s1 q3
      refine ⟨s1, q3, fid, caps, ?_, ?_⟩
      · rw [fun' s1 q3, args' s1 q3]; exact c1
      · rw [fr.2 ghw, callWp_r]
        refine ⟨l, o, xs, Q, e0, e1, e2, fun r xs' hq => ?_⟩
        have k1 := e3 r xs' hq
        rw [wpG_det hg] at k1
        obtain ⟨s3, q4, q5⟩ := k1
        obtain ⟨s1', q6, q7⟩ := callcomm_back q4 hd1 hd2 ghw (fun hgr => absurd hgr ghr)
        rw [q3] at q6
        obtain rfl : s1 = s1' := by simpa using q6
        rw [q7] at q5
        exact q5
    | no =>
      rintro ⟨fid, caps, c1, c2⟩
      rw [callWp_f] at c2
      obtain ⟨lo, R, c3, c4⟩ := c2
      obtain ⟨r0, _, hr0, _⟩ := c3.2.1
      have k0 := c4 r0 hr0
      rw [wpG_det hg] at k0
      obtain ⟨s2, q1, q2⟩ := k0
      obtain ⟨s1, q3, _⟩ := purecomm_back q1 hd1 hd2
      refine ⟨s1, q3, fid, caps, ?_, ?_⟩
      · rw [fun' s1 q3, args' s1 q3]; exact c1
      · rw [callWp_f]
        refine ⟨lo, R, c3, fun r hr => ?_⟩
        have k1 := c4 r hr
        rw [wpG_det hg] at k1
        obtain ⟨s3, q4, q5⟩ := k1
        obtain ⟨s1', q6, q7⟩ := purecomm_back q4 hd1 hd2
        rw [q3] at q6
        obtain rfl : s1 = s1' := by simpa using q6
        rw [q7] at q5
        exact q5
  cases hp1 : p.1 with
  | none =>
    rw [hp1] at h
    obtain ⟨s1, q1, q2⟩ := core h
    exact ⟨s1, q1, by rw [wpG_call hpc, hp1]; exact q2⟩
  | some jw =>
    obtain ⟨j, want⟩ := jw
    rw [hp1] at h
    obtain ⟨b, hb, h1, h2⟩ := h
    have hj : ∀ s1, gstep g s = some s1 → s1.t j = s.t j := fun s1 q => (gstep_frame g s s1 q).1 j (fun hkw => i3 j hkw (by simp [greads, hp1]))
    by_cases hbw : b = want
    · obtain ⟨s1, q1, q2⟩ := core (h1 hbw)
      refine ⟨s1, q1, ?_⟩
      rw [wpG_call hpc, hp1]
      exact ⟨b, by rw [hj s1 q1]; exact hb, fun _ => q2, fun e => absurd hbw e⟩
    · have h3 := h2 hbw
      rw [wpG_det hg] at h3
      obtain ⟨s2, q1, q2⟩ := h3
      rw [skip_call_put] at q1
      obtain ⟨s1, q3, rfl⟩ := purecomm_back q1 hd1 hd2
      refine ⟨s1, q3, ?_⟩
      rw [wpG_call hpc, hp1]
      refine ⟨b, by rw [hj s1 q3]; exact hb, fun e => absurd e hbw, fun _ => ?_⟩
      rw [skip_call_put]; exact q2

/-- a call behind a step, put ahead of it -/
theorem swap_det_call {p g : GI} {K : St → Prop} {s : St} (hi : indep p g = true) (hp : p.2.isCall = false) (hg : g.2.isCall = true) (h : wpG P p (wpG P g K) s) : wpG P g (wpG P p K) s := by
  obtain ⟨i1, i2, i3, i4, i5, _⟩ := indep_spec hi (.inr hg)
  cases hgc : g.2 <;> (try (simp [hgc, I.isCall] at hg; done))
  rename_i rw d f args
  have hdw : ∀ k ∈ d.toList, k ∈ g.2.writes := fun k hk => by rw [hgc]; simp [I.writes, I.dst] at hk ⊢; exact .inl hk
  have hd1 : ∀ k ∈ d.toList, k ∉ greads p := fun k hk => i3 k (hdw k hk)
  have hd2 : ∀ k ∈ d.toList, k ∉ p.2.writes := fun k hk hk' => i2 k hk' (hdw k hk)
  rw [wpG_det hp] at h
  obtain ⟨s1, q1, q2⟩ := h
  have fr := gstep_frame p s s1 q1
  have same : ∀ x, (∀ k ∈ slotOf x, k ∈ greads g) → get s1.t x = get s.t x := fun x hx => get_congr fun k hk => fr.1 k (fun hkw => i1 k hkw (hx k hk))
  have hr1 : ∀ k, k ∈ g.2.reads → k ∈ greads g := fun k hk => by simp [greads, hk]
  have core : wpCall P rw d f args K s1 → wpCall P rw d f args (wpG P p K) s := by
    rintro ⟨fid, caps, c1, c2⟩
    have ea : args.map (fun x => share (get s1.t x)) = args.map (fun x => share (get s.t x)) := List.map_congr_left fun x hx => by
      rw [same x (fun k hk => hr1 k (by rw [hgc, call_reads]; exact .inr ⟨x, hx, hk⟩))]
    refine ⟨fid, caps, ?_, ?_⟩
    · rw [← same f (fun k hk => hr1 k (by rw [hgc, call_reads]; exact .inl hk)), ← ea]; exact c1
    · cases rw with
      | any =>
        have ghr : g.2.hr = true := by rw [hgc]; rfl
        have ghw : g.2.hw = true := by rw [hgc]; rfl
        have phw : p.2.hw = false := by
          cases hh : p.2.hw with
          | true => exact absurd ⟨hh, ghr⟩ i4
          | false => rfl
        have phr : ¬ p.2.hr = true := fun hh => i5 ⟨ghw, hh⟩
        rw [fr.2 phw] at c2
        refine callWp_mono c2 fun r h' hr => ?_
        rw [wpG_det hp]
        exact ⟨_, callcomm q1 hd1 hd2 phw (fun hpr => absurd hpr phr), hr⟩
      | fr =>
        have ghr : g.2.hr = true := by rw [hgc]; rfl
        have ghw : g.2.hw = true := by rw [hgc]; rfl
        have phw : p.2.hw = false := by
          cases hh : p.2.hw with
          | true => exact absurd ⟨hh, ghr⟩ i4
          | false => rfl
        have phr : ¬ p.2.hr = true := fun hh => i5 ⟨ghw, hh⟩
        rw [fr.2 phw] at c2
        refine callWp_mono c2 fun r h' hr => ?_
        rw [wpG_det hp]
        exact ⟨_, callcomm q1 hd1 hd2 phw (fun hpr => absurd hpr phr), hr⟩
      | no =>
        rw [callWp_f] at c2 ⊢
        obtain ⟨lo, R, c3, c4⟩ := c2
        refine ⟨lo, R, c3, fun r hr => ?_⟩
        rw [wpG_det hp]
        exact ⟨_, purecomm q1 hd1 hd2, c4 r hr⟩
  rw [wpG_call hgc] at q2 ⊢
  cases hg1 : g.1 with
  | none => rw [hg1] at q2; exact core q2
  | some jw =>
    obtain ⟨j, want⟩ := jw
    rw [hg1] at q2
    obtain ⟨b, hb, h1, h2⟩ := q2
    have hj : s1.t j = s.t j := fr.1 j (fun hkw => i1 j hkw (by simp [greads, hg1]))
    rw [hj] at hb
    refine ⟨b, hb, fun e => core (h1 e), fun e => ?_⟩
    rw [wpG_det hp, skip_call_put]
    exact ⟨_, purecomm q1 hd1 hd2, by rw [← skip_call_put (rw := rw) (f := f) (args := args)]; exact h2 e⟩

theorem swap {p g : GI} {K : St → Prop} {s : St} (hi : indep p g = true) (h : wpG P p (wpG P g K) s) : wpG P g (wpG P p K) s := by
  cases hp : p.2.isCall with
  | true =>
    cases hg : g.2.isCall with
    | true => exact absurd ⟨hp, hg⟩ (indep_spec hi (.inl hp)).2.2.2.2.2
    | false => exact swap_call_det hi hp hg h
  | false =>
    cases hg : g.2.isCall with
    | true => exact swap_det_call hi hp hg h
    | false =>
      rw [wpG_det hp] at h
      obtain ⟨s1, q1, q2⟩ := h
      rw [wpG_det hg] at q2
      obtain ⟨s2, q3, q4⟩ := q2
      obtain ⟨s1', q5, q6⟩ := gstep_swap hi q1 q3
      rw [wpG_det hg]
      exact ⟨s1', q5, by rw [wpG_det hp]; exact ⟨s2, q6, q4⟩⟩

/-! a call that turns one variable alone, and a new variable -/

mutual
theorem Low.share_go {k : Nat} : ∀ x : LV, Low k x → Low k (share x)
  | .sc _, h => by simp only [share]; exact h
  | .sl _ _ _ xs, h => by simp only [share, Low] at h ⊢; exact Low.shareRow_go xs h
  | .ha _ _ _ _ _, h => by simp only [share]; exact h
  | .ptr _ _, h => by simp only [share]; exact h
  | .rp xs, h => by simp only [share, Low] at h ⊢; exact Low.shareAll_go xs h
  | .fn _ xs, h => by simp only [share, Low] at h ⊢; exact Low.shareAll_go xs h
  | .fnm _ xs, h => by simp only [share, Low] at h ⊢; exact Low.shareAll_go xs h
  | .agg xs, h => by simp only [share, Low] at h ⊢; exact Low.shareAll_go xs h
  | .tup xs, h => by simp only [share, Low] at h ⊢; exact Low.shareAll_go xs h
  | .raw _, _ => by simp only [share, Low]
  | .dead, _ => by simp only [share, Low]
  | .both _ t, h => by simp only [share, Low] at h ⊢; exact Low.share_go t h
theorem Low.shareAll_go {k : Nat} : ∀ xs : List LV, LowAll k xs → LowAll k (shareAll xs)
  | [], _ => by simp only [shareAll, LowAll]
  | x :: xs, h => by simp only [shareAll, LowAll] at h ⊢; exact ⟨Low.share_go x h.1, Low.shareAll_go xs h.2⟩
theorem Low.shareRow_go {k : Nat} : ∀ xs : List (List LV), LowRow k xs → LowRow k (shareRow xs)
  | [], _ => by simp only [shareRow, LowRow]
  | x :: xs, h => by simp only [shareRow, LowRow] at h ⊢; exact ⟨Low.shareAll_go x h.1, Low.shareRow_go xs h.2⟩
end
theorem Low.mono_go {k m : Nat} (h : k ≤ m) (x : LV) (hx : Low k x) : Low m x := by
  have := LowAll.mono h (xs := [x]) (by simp only [LowAll]; exact ⟨hx, trivial⟩)
  simp only [LowAll] at this
  exact this.1
section
mutual
/-- what stands for a value speaks of variables that there are -/
theorem Rep.seen {A : GM} {μ : List Nat} : ∀ (x : LV) (v : Value) (O : List Own), Rep A μ x v O → Low μ.length x
  | .sc _, _, _, _ => by simp only [Low]
  | .sl _ _ _ xs, _, _, h => by
    simp only [Rep] at h
    simp only [Low]
    rcases h with ⟨_, _, h3, _⟩ | ⟨_, b, off, sp, cap, O', _, _, _, h4, _⟩
    · subst h3; simp only [LowRow]
    · exact RepRow.seen xs _ _ _ _ h4
  | .ha _ _ _ _ _, _, _, h => by simp only [Rep] at h; simp only [Low]; exact h.2.1
  | .ptr _ _, _, _, h => by simp only [Rep] at h; simp only [Low]; exact h.2.1
  | .rp xs, _, _, h => by
    simp only [Rep] at h
    obtain ⟨b, off, _, h2⟩ := h
    simp only [Low]; exact RepCells.seen xs _ _ _ h2
  | .fn _ xs, _, _, h => by
    simp only [Rep] at h
    obtain ⟨vs, _, h2⟩ := h
    simp only [Low]; exact RepVals.seen xs _ _ h2
  | .fnm _ xs, _, _, h => by
    simp only [Rep] at h
    obtain ⟨vs, _, h2⟩ := h
    simp only [Low]; exact RepVals.seen xs _ _ h2
  | .agg xs, _, _, h => by
    simp only [Rep] at h
    obtain ⟨vs, _, _, h2⟩ := h
    simp only [Low]; exact RepVals.seen xs _ _ h2
  | .tup xs, _, _, h => by
    simp only [Rep] at h
    obtain ⟨vs, _, h2⟩ := h
    simp only [Low]; exact RepVals.seen xs _ _ h2
  | .raw _, _, _, _ => by simp only [Low]
  | .dead, _, _, _ => by simp only [Low]
  | .both _ t, _, _, h => by simp only [Rep] at h; simp only [Low]; exact Rep.seen t _ _ h.2.2
theorem RepRow.seen {A : GM} {μ : List Nat} : ∀ (xs : List (List LV)) (sz b off : Nat) (O : List Own), RepRow A μ xs sz b off O → LowRow μ.length xs
  | [], _, _, _, _, _ => by simp only [LowRow]
  | x :: xs, _, _, _, _, h => by
    simp only [RepRow] at h
    obtain ⟨O1, O2, _, _, h3, h4⟩ := h
    simp only [LowRow]; exact ⟨RepCells.seen x _ _ _ h3, RepRow.seen xs _ _ _ _ h4⟩
theorem RepCells.seen {A : GM} {μ : List Nat} : ∀ (xs : List LV) (b off : Nat) (O : List Own), RepCells A μ xs b off O → LowAll μ.length xs
  | [], _, _, _, _ => by simp only [LowAll]
  | x :: xs, _, _, _, h => by
    simp only [RepCells] at h
    obtain ⟨v, O1, O2, _, _, _, h3, h4⟩ := h
    simp only [LowAll]; exact ⟨Rep.seen x _ _ h3, RepCells.seen xs _ _ _ h4⟩
theorem RepVals.seen {A : GM} {μ : List Nat} : ∀ (xs : List LV) (vs : List Value) (O : List Own), RepVals A μ xs vs O → LowAll μ.length xs
  | [], _, _, _ => by simp only [LowAll]
  | x :: xs, _, _, h => by
    simp only [RepVals] at h
    obtain ⟨v, ws, O1, O2, _, _, h3, h4⟩ := h
    simp only [LowAll]; exact ⟨Rep.seen x _ _ h3, RepVals.seen xs _ _ h4⟩
end
end

/-- makes a new variable -/
def I.app : I → Bool
  | .alloc _ _ | .box _ _ | .mkslice _ _ _ _ => true
  | _ => false
def I.frc : I → Bool
  | .call .fr _ _ _ => true
  | _ => false
def apart (a b : GI) : Bool := (a.2.writes.all fun k => !(greads b).contains k && !b.2.writes.contains k) && (b.2.writes.all fun k => !(greads a).contains k)
theorem apart_spec {a b : GI} (h : apart a b = true) : (∀ k ∈ a.2.writes, k ∉ greads b) ∧ (∀ k ∈ a.2.writes, k ∉ b.2.writes) ∧ (∀ k ∈ b.2.writes, k ∉ greads a) := by
  simp only [apart, Bool.and_eq_true, List.all_eq_true, Bool.not_eq_true'] at h
  obtain ⟨h1, h2⟩ := h
  refine ⟨fun k hk hm => ?_, fun k hk hm => ?_, fun k hk hm => ?_⟩
  · have := (h1 k hk).1; simp [hm] at this
  · have := (h1 k hk).2; simp [hm] at this
  · have := h2 k hk; simp [hm] at this
def special4 (a b : GI) : Bool := apart a b && ((a.2.frc && b.2.app && b.1.isNone) || (a.2.app && b.2.frc && a.1.isNone))
def indepF (a b : GI) : Bool := indep a b || special4 a b

theorem putO_upd {t : Nat → LV} {d : Option Nat} {r v : LV} {k : Nat} (h : k ∉ d.toList) : upd (putO t d r) k v = putO (upd t k v) d r := by
  cases d with
  | none => rfl
  | some d =>
    simp only [putO]
    have hk : k ≠ d := fun e => h (by simp [e])
    funext j
    simp only [upd]
    by_cases h1 : j = k
    · subst h1; simp [hk]
    · simp [h1]
/-- a new variable on either side of a call that leaves as many variables as there were -/
theorem callcomm_app {g : GI} {d : Option Nat} {s : St} {r : LV} {h' : List Box} (hg1 : g.1 = none) (happ : g.2.app = true) (hd1 : ∀ k ∈ d.toList, k ∉ greads g) (hd2 : ∀ k ∈ d.toList, k ∉ g.2.writes) (hl : h'.length = s.h.length) :
    gstep g (putcall s d r h') = (gstep g s).map fun s1 => putcall s1 d r (h' ++ s1.h.drop s.h.length) := by
  obtain ⟨g1, i⟩ := g
  simp only at hg1 happ
  subst hg1
  have gx : ∀ x : X, (∀ k ∈ slotOf x, k ∈ i.reads) → get (putO s.t d r) x = get s.t x := fun x hx => get_congr fun k hk => putO_out (fun hk' => hd1 k hk' (by simp only [greads, List.mem_append]; exact .inr (hx k hk)))
  cases i <;> (try (simp [I.app] at happ; done))
  case box k x =>
    have hx := gx x (fun k hk => by simpa [I.reads, I.ops, slots] using hk)
    have hk : k ∉ d.toList := fun h => hd2 k h (by simp [I.writes, I.dst])
    simp only [gstep, step, putcall, hx]
    split
    · simp only [Option.map_some, St.put, St.give, List.drop_left, hl]
      congr 2
      cases x with
      | t j =>
        have hj : j ∉ d.toList := fun h => hd1 j h (by simp [greads, I.reads, I.ops, slots, slotOf])
        simp only [TL.give]
        rw [show putO s.t d r j = s.t j from putO_out hj, putO_upd hj, putO_upd hk]
      | k v => simp only [TL.give]; rw [putO_upd hk]
    · rfl
  case alloc k z =>
    have hk : k ∉ d.toList := fun h => hd2 k h (by simp [I.writes, I.dst])
    simp only [gstep, step, putcall, Option.map_some, St.put, List.drop_left, hl]
    rw [putO_upd hk]
  case mkslice k sz z x =>
    have hx := gx x (fun k hk => by simpa [I.reads, I.ops, slots] using hk)
    have hk : k ∉ d.toList := fun h => hd2 k h (by simp [I.writes, I.dst])
    simp only [gstep, step, putcall, hx]
    cases intOf (get s.t x) with
    | none => rfl
    | some n =>
      simp only
      split
      · simp only [Option.map_some, St.put, List.drop_left, hl]
        rw [putO_upd hk]
      · rfl
theorem app_grows {g : GI} {s s1 : St} (hg1 : g.1 = none) (happ : g.2.app = true) (h : gstep g s = some s1) : ∃ b, s1.h = s.h ++ [b] := by
  obtain ⟨g1, i⟩ := g
  simp only at hg1 happ
  subst hg1
  cases i <;> (try (simp [I.app] at happ; done))
  case box k x =>
    simp only [gstep, step] at h
    split at h
    · simp only [Option.some.injEq] at h; subst h; exact ⟨_, rfl⟩
    · simp at h
  case alloc k z =>
    simp only [gstep, step, Option.some.injEq] at h; subst h; exact ⟨_, rfl⟩
  case mkslice k sz z x =>
    simp only [gstep, step] at h
    split at h
    · split at h
      · simp only [Option.some.injEq] at h; subst h; exact ⟨_, rfl⟩
      · simp at h
    · simp at h
theorem set_app {α : Type} {h : List α} {l : Nat} {x : α} {t : List α} (hl : l < h.length) : (h ++ t).set l x = h.set l x ++ t := by
  rw [List.set_append_left _ _ hl]
theorem frc_call {i : I} (h : i.frc = true) : ∃ d f args, i = .call .fr d f args := by
  cases i <;> (try (simp [I.frc] at h; done))
  rename_i rw d f args
  cases rw <;> simp [I.frc] at h
  exact ⟨_, _, _, rfl⟩
theorem app_det {i : I} (h : i.app = true) : i.isCall = false := by
  cases i <;> simp [I.app] at h <;> rfl

/-- guarded calls, out of plain ones -/
theorem wpG_guardC {g : GI} {d : Option Nat} {f : X} {args : List X} {K K' : St → Prop} {s s' : St} (hgc : g.2 = .call .fr d f args) (hj : ∀ j w, g.1 = some (j, w) → s'.t j = s.t j)
    (core : wpCall P .fr d f args K s → wpCall P .fr d f args K' s') (hskip : K (putcall s d (.sc undef) s.h) → K' (putcall s' d (.sc undef) s'.h)) (h : wpG P g K s) : wpG P g K' s' := by
  rw [wpG_call hgc] at h ⊢
  cases hg1 : g.1 with
  | none => rw [hg1] at h; exact core h
  | some jw =>
    obtain ⟨j, want⟩ := jw
    rw [hg1] at h
    obtain ⟨b, hb, h1, h2⟩ := h
    rw [← hj j want hg1] at hb
    refine ⟨b, hb, fun e => core (h1 e), fun e => ?_⟩
    rw [skip_call_put]
    have := h2 e
    rw [skip_call_put] at this
    exact hskip this

/-- what a call reads speaks of variables that there are -/
def Seen (g : GI) (s : St) : Prop := g.2.isCall = true → ∀ x ∈ g.2.ops, Low s.h.length (get s.t x)

theorem low_share {k : Nat} : ∀ x : LV, Low k x → Low k (share x) := fun x h => by
  have := Low.share_go x h
  exact this
theorem swap4_left {p g : GI} {K : St → Prop} {s : St} (ha : apart p g = true) (hp : p.2.frc = true) (hg : g.2.app = true) (hg1 : g.1 = none) (h : wpG P p (wpG P g K) s) : wpG P g (wpG P p K) s := by
  obtain ⟨i1, i2, i3⟩ := apart_spec ha
  obtain ⟨d, f, args, hpc⟩ := frc_call hp
  have hdw : ∀ k ∈ d.toList, k ∈ p.2.writes := fun k hk => by rw [hpc]; simp [I.writes, I.dst] at hk ⊢; exact .inl hk
  have hd1 : ∀ k ∈ d.toList, k ∉ greads g := fun k hk => i1 k (hdw k hk)
  have hd2 : ∀ k ∈ d.toList, k ∉ g.2.writes := fun k hk => i2 k (hdw k hk)
  have hr1 : ∀ k, k ∈ p.2.reads → k ∈ greads p := fun k hk => by simp [greads, hk]
  have hgd := app_det hg
  -- the new variable can be made
  obtain ⟨s1, q3⟩ : ∃ s1, gstep g s = some s1 := by
    have key : ∀ r h', h'.length = s.h.length → wpG P g K (putcall s d r h') → ∃ s1, gstep g s = some s1 := fun r h' hl k0 => by
      rw [wpG_det hgd] at k0
      obtain ⟨s2, q1, _⟩ := k0
      rw [callcomm_app hg1 hg hd1 hd2 hl] at q1
      obtain ⟨s1, q3, _⟩ := Option.map_eq_some_iff.1 q1
      exact ⟨s1, q3⟩
    have ofCall : wpCall P .fr d f args (wpG P g K) s → ∃ s1, gstep g s = some s1 := by
      rintro ⟨fid, caps, c1, c2⟩
      rw [callWp_r] at c2
      obtain ⟨l, o, xs, Q, e0, e1, e2, e3⟩ := c2
      obtain ⟨r0, _, xs0, hq0, _⟩ := (e2 s.h e1).2.1
      exact key r0 _ (by simp) (e3 r0 xs0 hq0)
    rw [wpG_call hpc] at h
    cases hp1 : p.1 with
    | none => rw [hp1] at h; exact ofCall h
    | some jw =>
      obtain ⟨j, want⟩ := jw
      rw [hp1] at h
      obtain ⟨b, hb, h1, h2⟩ := h
      by_cases hbw : b = want
      · exact ofCall (h1 hbw)
      · have h3 := h2 hbw
        rw [skip_call_put] at h3
        exact key _ _ rfl h3
  obtain ⟨b, hb⟩ := app_grows hg1 hg q3
  have frm := gstep_frame g s s1 q3
  have same : ∀ x, (∀ k ∈ slotOf x, k ∈ greads p) → get s1.t x = get s.t x := fun x hx => get_congr fun k hk => frm.1 k (fun hkw => i3 k hkw (hx k hk))
  rw [wpG_det hgd]
  refine ⟨s1, q3, wpG_guardC hpc (fun j w hj => frm.1 j (fun hkw => i3 j hkw (by simp [greads, hj]))) ?_ ?_ h⟩
  · rintro ⟨fid, caps, c1, c2⟩
    rw [callWp_r] at c2
    obtain ⟨l, o, xs, Q, e0, e1, e2, e3⟩ := c2
    have hll : l < s.h.length := by
      rcases Nat.lt_or_ge l s.h.length with h | h
      · exact h
      · rw [List.getElem?_eq_none h] at e1; simp at e1
    refine ⟨fid, caps, ?_, ?_⟩
    · rw [same f (fun k hk => hr1 k (by rw [hpc, call_reads]; exact .inl hk)), List.map_congr_left (fun x hx => by rw [same x (fun k hk => hr1 k (by rw [hpc, call_reads]; exact .inr ⟨x, hx, hk⟩))])]
      exact c1
    · rw [callWp_r]
      refine ⟨l, o, xs, Q, e0, by rw [hb, List.getElem?_append_left hll]; exact e1, e2, fun r xs' hq => ?_⟩
      have k1 := e3 r xs' hq
      rw [wpG_det hgd] at k1
      obtain ⟨s3, q4, q5⟩ := k1
      rw [callcomm_app hg1 hg hd1 hd2 (by simp), q3] at q4
      simp only [Option.map_some, Option.some.injEq] at q4
      rw [← q4, hb, List.drop_left] at q5
      rw [hb, set_app hll]
      exact q5
  · intro k0
    rw [wpG_det hgd] at k0
    obtain ⟨s3, q4, q5⟩ := k0
    rw [callcomm_app hg1 hg hd1 hd2 rfl, q3] at q4
    simp only [Option.map_some, Option.some.injEq] at q4
    rw [← q4, hb, List.drop_left, ← hb] at q5
    exact q5
theorem ptr_low {k l o : Nat} : ∀ {xs : List LV}, LowAll k xs → LV.ptr l o ∈ xs → l < k
  | x :: xs, h, hm => by
    simp only [LowAll] at h
    rcases List.mem_cons.1 hm with e | hm
    · subst e; simpa [Low] using h.1
    · exact ptr_low h.2 hm
theorem lowAll_append {k : Nat} : ∀ {xs ys : List LV}, LowAll k xs → LowAll k ys → LowAll k (xs ++ ys)
  | [], ys, _, h => h
  | x :: xs, ys, h, h2 => by
    simp only [LowAll, List.cons_append] at h ⊢
    exact ⟨h.1, lowAll_append h.2 h2⟩
theorem lowAll_of {k : Nat} : ∀ {xs : List LV}, (∀ x ∈ xs, Low k x) → LowAll k xs
  | [], _ => by simp only [LowAll]
  | x :: xs, h => by simp only [LowAll]; exact ⟨h x (by simp), lowAll_of fun y hy => h y (by simp [hy])⟩
theorem fnArgs_low {k : Nat} {v : LV} {as vals : List LV} {fid : FuncId} (h : fnArgs v as = some (fid, vals)) (hv : Low k v) (ha : LowAll k as) : LowAll k vals := by
  unfold fnArgs at h
  split at h
  · simp only [Option.some.injEq, Prod.mk.injEq] at h
    obtain ⟨_, rfl⟩ := h
    refine lowAll_append ha (Low.shareAll_go _ ?_)
    simpa only [Low] using hv
  · simp only [Option.some.injEq, Prod.mk.injEq] at h
    obtain ⟨_, rfl⟩ := h
    refine lowAll_append (Low.shareAll_go _ ?_) ha
    simpa only [Low] using hv
  · simp at h
theorem swap4_right {p g : GI} {K : St → Prop} {s : St} (ha : apart p g = true) (hp : p.2.app = true) (hg : g.2.frc = true) (hp1 : p.1 = none) (H : Seen g s) (h : wpG P p (wpG P g K) s) : wpG P g (wpG P p K) s := by
  obtain ⟨i1, i2, i3⟩ := apart_spec ha
  obtain ⟨d, f, args, hgc⟩ := frc_call hg
  have hdw : ∀ k ∈ d.toList, k ∈ g.2.writes := fun k hk => by rw [hgc]; simp [I.writes, I.dst] at hk ⊢; exact .inl hk
  have hd1 : ∀ k ∈ d.toList, k ∉ greads p := fun k hk => i3 k (hdw k hk)
  have hd2 : ∀ k ∈ d.toList, k ∉ p.2.writes := fun k hk hk' => i2 k hk' (hdw k hk)
  have hr1 : ∀ k, k ∈ g.2.reads → k ∈ greads g := fun k hk => by simp [greads, hk]
  have hpd := app_det hp
  rw [wpG_det hpd] at h
  obtain ⟨s1, q1, q2⟩ := h
  obtain ⟨b, hb⟩ := app_grows hp1 hp q1
  have frm := gstep_frame p s s1 q1
  have same : ∀ x, (∀ k ∈ slotOf x, k ∈ greads g) → get s1.t x = get s.t x := fun x hx => get_congr fun k hk => frm.1 k (fun hkw => i1 k hkw (hx k hk))
  have H' : ∀ x ∈ g.2.ops, Low s.h.length (get s.t x) := H (by rw [hgc]; rfl)
  refine wpG_guardC hgc (fun j w hj => (frm.1 j (fun hkw => i1 j hkw (by simp [greads, hj]))).symm) ?_ ?_ q2
  · rintro ⟨fid, caps, c1, c2⟩
    rw [same f (fun k hk => hr1 k (by rw [hgc, call_reads]; exact .inl hk)), List.map_congr_left (fun x hx => by rw [same x (fun k hk => hr1 k (by rw [hgc, call_reads]; exact .inr ⟨x, hx, hk⟩))])] at c1
    refine ⟨fid, caps, c1, ?_⟩
    rw [callWp_r] at c2 ⊢
    obtain ⟨l, o, xs, Q, e0, e1, e2, e3⟩ := c2
    have hll : l < s.h.length := by
      refine ptr_low (fnArgs_low c1 (H' f (by rw [hgc]; simp [I.ops])) (lowAll_of fun y hy => ?_)) e0
      obtain ⟨x, hx, rfl⟩ := List.mem_map.1 hy
      exact low_share _ (H' x (by rw [hgc]; simp [I.ops, hx]))
    rw [hb, List.getElem?_append_left hll] at e1
    refine ⟨l, o, xs, Q, e0, e1, e2, fun r xs' hq => ?_⟩
    rw [wpG_det hpd, callcomm_app hp1 hp hd1 hd2 (by simp), q1]
    refine ⟨_, rfl, ?_⟩
    have := e3 r xs' hq
    rw [hb, set_app hll] at this
    show K (putcall s1 d r (s.h.set l (some xs') ++ List.drop s.h.length s1.h))
    rw [hb, List.drop_left]
    exact this
  · intro k0
    rw [wpG_det hpd, callcomm_app hp1 hp hd1 hd2 rfl, q1]
    refine ⟨_, rfl, ?_⟩
    show K (putcall s1 d (.sc undef) (s.h ++ List.drop s.h.length s1.h))
    rw [hb, List.drop_left, ← hb]
    exact k0

theorem swapF {p g : GI} {K : St → Prop} {s : St} (hi : indepF p g = true) (H : Seen g s) (h : wpG P p (wpG P g K) s) : wpG P g (wpG P p K) s := by
  simp only [indepF, Bool.or_eq_true] at hi
  rcases hi with hi | hi
  · exact swap hi h
  · simp only [special4, Bool.and_eq_true, Bool.or_eq_true, Option.isNone_iff_eq_none] at hi
    obtain ⟨ha, ⟨⟨h1, h2⟩, h3⟩ | ⟨⟨h1, h2⟩, h3⟩⟩ := hi
    · exact swap4_left ha h1 h2 h3 h
    · exact swap4_right ha h1 h2 h3 H h
/-- variables do not become fewer -/
theorem step_more {i : I} {s s' : St} (h : step i s = some s') : s.h.length ≤ s'.h.length := by
  by_cases hw : i.hw = true
  · cases i <;> simp only [I.hw] at hw <;> (try (simp at hw; done))
    case mv d m x =>
      cases m <;> simp [I.hw] at hw
      simp only [step] at h
      repeat' split at h
      all_goals first | (simp only [Option.some.injEq] at h; subst h; simp [St.put]; done) | (simp at h; done)
    case load d m ag sz x =>
      cases m <;> simp [I.hw] at hw
      simp only [step] at h
      repeat' split at h
      all_goals first | (simp only [Option.some.injEq] at h; subst h; simp [St.put]; done) | (simp at h; done)
    all_goals
      simp only [step] at h
      repeat' split at h
      all_goals first | (simp only [Option.some.injEq] at h; subst h; simp [St.put, St.give]; done) | (simp at h; done)
  · rw [(step_frame i s s' h).2 (by simpa using hw)]; exact Nat.le_refl _
theorem gstep_more {g : GI} {s s' : St} (h : gstep g s = some s') : s.h.length ≤ s'.h.length := by
  unfold gstep at h
  split at h
  · exact step_more h
  · split at h
    · split at h
      · exact step_more h
      · simp only [Option.some.injEq] at h
        subst h
        unfold skip
        split <;> exact Nat.le_refl _
    · simp at h
/-- an instruction that is apart from all ahead of it may come first -/
theorem pull {g : GI} {Q : St → Prop} {post : List GI} : ∀ {pre : List GI} {s : St}, (∀ p ∈ pre, indepF p g = true) → Seen g s → wpL P (pre ++ g :: post) Q s → wpG P g (wpL P (pre ++ post) Q) s
  | [], s, _, _, h => h
  | p :: pre, s, hi, H, h => by
    have hip := hi p (by simp)
    refine swapF hip H ?_
    by_cases hg : g.2.isCall = true
    · -- what is ahead of a call is none
      have hp : p.2.isCall = false := by
        simp only [indepF, Bool.or_eq_true] at hip
        rcases hip with hip | hip
        · cases hh : p.2.isCall with
          | false => rfl
          | true => exact absurd ⟨hh, hg⟩ (indep_spec hip (.inr hg)).2.2.2.2.2
        · simp only [special4, Bool.and_eq_true, Bool.or_eq_true] at hip
          rcases hip.2 with ⟨⟨_, h2⟩, _⟩ | ⟨⟨h1, _⟩, _⟩
          · rw [app_det h2] at hg; simp at hg
          · exact app_det h1
      have hw : ∀ k ∈ p.2.writes, k ∉ greads g := by
        simp only [indepF, Bool.or_eq_true] at hip
        rcases hip with hip | hip
        · exact (indep_spec hip (.inr hg)).1
        · simp only [special4, Bool.and_eq_true] at hip
          exact (apart_spec hip.1).1
      simp only [List.cons_append, wpL] at h
      rw [wpG_det hp] at h ⊢
      obtain ⟨s1, q1, q2⟩ := h
      refine ⟨s1, q1, pull (fun q hq => hi q (by simp [hq])) (fun hc x hx => ?_) q2⟩
      have hs : get s1.t x = get s.t x := get_congr fun k hk => (gstep_frame p s s1 q1).1 k (fun hkw => hw k hkw (by
        simp only [greads, List.mem_append]; right
        simp only [I.reads, slots, List.mem_flatMap]; exact ⟨x, hx, hk⟩))
      rw [hs]
      exact Low.mono_go (gstep_more q1) _ (H hc x hx)
    · exact wpG_mono h fun s' hs' => pull (fun q hq => hi q (by simp [hq])) (fun hc => absurd hc hg) hs'
end

end Go.TL
