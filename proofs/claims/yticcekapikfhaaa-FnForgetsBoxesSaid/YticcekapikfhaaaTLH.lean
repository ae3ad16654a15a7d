/- Whole functions over trees: code, loops, entry, results. No program, no conditions. -/
import Derived.Test.YticcekapikfhaaaTLG
import Derived.Scope
namespace Go.TL

/-- code over trees -/
inductive C where
  | skip
  | reg (gs : List GI)
  | par (its : List (It GI))
  | frz (k : Nat)
  | seq (a b : C)
  | cond (x : X) (a b : C)
  | block (id : Nat) (b : C)
  | loop (b : C)
  | exit (id : Nat)
  | ret
  deriving Inhabited

def Exit.flow : Exit → Bool
  | .normal => true
  | .exit _ => true
  | .ret => true
  | _ => false

def thenL (next : St → Prop) (Q : Exit → St → Prop) : Exit → St → Prop
  | .normal, s => next s
  | e, s => Q e s
def inBlockL (id : Nat) (Q : Exit → St → Prop) : Exit → St → Prop
  | .exit id', s => if id' = id then Q .normal s else Q (.exit id') s
  | e, s => Q e s

/-- a variable is settled, if it is not yet -/
def frzStep (k : Nat) (s : St) : Option St := match s.t k with
  | .rp _ => some s
  | .sl _ _ _ _ => some s
  | _ => step (.mv k .frz (.t k)) s
theorem frzStep_sim {x : Cx} {n k : Nat} {s s' : St} {a : Act} {w : World} (hk : k < n) (hs : frzStep k s = some s') (sim : Sim x n s a w) : Sim x n s' a w := by
  unfold frzStep at hs
  split at hs
  · simp only [Option.some.injEq] at hs; subst hs; exact sim
  · simp only [Option.some.injEq] at hs; subst hs; exact sim
  · exact ghost_frz hk hs sim
theorem frzStep_frame {k : Nat} {s s' : St} (h : frzStep k s = some s') : ∀ j, j ≠ k → s'.t j = s.t j := by
  unfold frzStep at h
  split at h
  · simp only [Option.some.injEq] at h; subst h; exact fun _ _ => rfl
  · simp only [Option.some.injEq] at h; subst h; exact fun _ _ => rfl
  · exact fun j hj => (step_frame _ s s' h).1 j (by simpa [I.writes, I.dst, I.gives, slots] using hj)

/-- what code leads to -/
def wpC (P : Program) : C → (Exit → St → Prop) → St → Prop
  | .skip, Q, s => Q .normal s
  | .reg gs, Q, s => wpL P gs (Q .normal) s
  | .par its, Q, s => wpIts P its (Q .normal) s
  | .frz k, Q, s => ∃ s', frzStep k s = some s' ∧ Q .normal s'
  | .seq a b, Q, s => wpC P a (thenL (wpC P b Q) Q) s
  | .cond x a b, Q, s => ∃ v, boolOf (get s.t x) = some v ∧ (v = true → wpC P a Q s) ∧ (v = false → wpC P b Q s)
  | .block id b, Q, s => wpC P b (inBlockL id Q) s
  | .loop b, Q, s => ∃ (I : Nat → St → Prop) (k : Nat), I k s ∧ ∀ k s, I k s → wpC P b (thenL (fun s' => ∃ k' < k, I k' s') Q) s
  | .exit id, Q, s => Q (.exit id) s
  | .ret, Q, s => Q .ret s

section
variable (P : Program) (n : Nat) (md : Nat → List Md)
/-- variables that are settled ahead of a region -/
def frzs : List Md → Nat → C → Option C
  | [], _, c => some c
  | .frz :: ms, k, c => if k < n then (frzs ms (k + 1) c).map fun r => .seq (.frz k) r else none
  | _ :: ms, k, c => frzs ms (k + 1) c
/-- and behind it -/
def frzsE : List Md → Nat → C → Option C
  | [], _, c => some c
  | .frz :: ms, k, c => if k < n then frzsE ms (k + 1) (.seq c (.frz k)) else none
  | _ :: ms, k, c => frzsE ms (k + 1) c
def cC : Code → Option C
  | .skip => some .skip
  | .label _ => some .skip
  | .region id ops draw => (cOps P n ops ops.toList (md id)).bind fun gs =>
      (if draw = true then (if okRegion ops gs = true then some (.reg gs) else if okItems ops gs = true then some (.par ((toItems (number 0 gs) []).map It.gi)) else none) else some (.reg gs)).bind fun c => (frzsE n (md (2000000 + id)) 0 c).bind fun c => frzs n (md (1000000 + id)) 0 c
  | .seq a b => (cC a).bind fun x => (cC b).map fun y => .seq x y
  | .cond c a b => (cX P n 0 c).bind fun z => (cC a).bind fun x => (cC b).map fun y => .cond z x y
  | .block id b => (cC b).map fun x => .block id x
  | .loop b => (cC b).map fun x => .loop x
  | .scope b => cC b
  | .exit id => some (.exit id)
  | .ret => some .ret
  | _ => none
end

section
variable {P : Program} {x : Cx} {n : Nat} {md : Nat → List Md}

/-- an end over trees, as one of the machine -/
def QR (x : Cx) (n : Nat) (Q : Exit → St → Prop) : Exit → Act → World → Prop := fun e a w => Exit.flow e = true ∧ ∃ s, Sim x n s a w ∧ Q e s

theorem wp_loop_rel {c : Code} {Q : Exit → Act → World → Prop} (I : Nat → Act → World → Prop) (round : ∀ k a w, I k a w → c.wp P (Exit.then (fun a' w' => ∃ k' < k, I k' a' w') Q) a w) :
    ∀ (k : Nat) (a : Act) (w : World), I k a w → (Code.loop c).wp P Q a w := by
  intro k a w h b kk cs
  have key : ∀ k a w, I k a w → ∃ e a' w', Q e a' w' ∧ Arrives P (lone (b.at a (.code c :: .inLoop c :: kk)) cs w) b kk cs e a' w' := by
    intro k
    induction k using Nat.strongRecOn with
    | _ k ih =>
      intro a w hI
      obtain ⟨e, a₁, w₁, hq, harr⟩ := round k a w hI b (.inLoop c :: kk) cs
      cases e with
      | normal =>
        obtain ⟨k', hlt, hI₁⟩ := hq
        obtain ⟨e₂, a₂, w₂, hq₂, harr₂⟩ := ih k' hlt a₁ w₁ hI₁
        exact ⟨e₂, a₂, w₂, hq₂, .of_steps (Steps.trans harr (.one step_inLoop)) harr₂⟩
      | exit id => exact ⟨_, a₁, w₁, hq, .pass (x := .inLoop c) rfl (fun _ _ => .inl (by simp)) harr⟩
      | goto l => exact ⟨_, a₁, w₁, hq, .pass (x := .inLoop c) rfl (fun _ _ => .inl (by simp)) harr⟩
      | ret => exact ⟨_, a₁, w₁, hq, .pass (x := .inLoop c) rfl (fun _ _ => .inl (by simp)) harr⟩
      | panic ch => exact ⟨_, a₁, w₁, hq, .pass (x := .inLoop c) rfl (fun _ _ => .inl (by simp)) harr⟩
      | outgrown => exact ⟨_, a₁, w₁, hq, .pass (x := .inLoop c) rfl (fun _ _ => .inl (by simp)) harr⟩
  obtain ⟨e, a', w', hq, harr⟩ := key k a w h
  exact ⟨e, a', w', hq, .of_steps (.one step_loop) harr⟩

theorem then_QR {next : St → Prop} {R : Act → World → Prop} {Q : Exit → St → Prop} (h : ∀ a w s, Sim x n s a w → next s → R a w) (e : Exit) (a : Act) (w : World)
    (hq : QR x n (thenL next Q) e a w) : Exit.then R (QR x n Q) e a w := by
  obtain ⟨hf, s, hs, hk⟩ := hq
  cases e with
  | normal => exact h a w s hs hk
  | exit id => exact ⟨rfl, s, hs, hk⟩
  | ret => exact ⟨rfl, s, hs, hk⟩
  | _ => simp [Exit.flow] at hf

theorem frzs_sound {code : Code} : ∀ (ms : List Md) (j : Nat) (c k : C) (Q : Exit → St → Prop) (s : St) (a : Act) (w : World), frzs n ms j c = some k → wpC P k Q s → Sim x n s a w →
    (∀ s a w, wpC P c Q s → Sim x n s a w → code.wp P (QR x n Q) a w) → code.wp P (QR x n Q) a w
  | [], j, c, k, Q, s, a, w, hz, hw, sim, hk => by
    simp only [frzs, Option.some.injEq] at hz
    subst hz
    exact hk s a w hw sim
  | .frz :: ms, j, c, k, Q, s, a, w, hz, hw, sim, hk => by
    simp only [frzs] at hz
    split at hz
    · rename_i hj
      simp only [Option.map_eq_some_iff] at hz
      obtain ⟨r, hr, rfl⟩ := hz
      obtain ⟨s', h1, h2⟩ := hw
      exact frzs_sound ms (j + 1) c r Q s' a w hr h2 (frzStep_sim hj h1 sim) hk
    · simp at hz
  | .copy :: ms, j, c, k, Q, s, a, w, hz, hw, sim, hk => frzs_sound ms (j + 1) c k Q s a w (by simpa [frzs] using hz) hw sim hk
  | .take :: ms, j, c, k, Q, s, a, w, hz, hw, sim, hk => frzs_sound ms (j + 1) c k Q s a w (by simpa [frzs] using hz) hw sim hk

theorem frzsE_sound {code : Code} : ∀ (ms : List Md) (j : Nat) (c k : C) (Q : Exit → St → Prop) (s : St) (a : Act) (w : World), frzsE n ms j c = some k → wpC P k Q s → Sim x n s a w →
    (∀ Q s a w, wpC P c Q s → Sim x n s a w → code.wp P (QR x n Q) a w) → code.wp P (QR x n Q) a w
  | [], j, c, k, Q, s, a, w, hz, hw, sim, hk => by
    simp only [frzsE, Option.some.injEq] at hz
    subst hz
    exact hk Q s a w hw sim
  | .frz :: ms, j, c, k, Q, s, a, w, hz, hw, sim, hk => by
    simp only [frzsE] at hz
    split at hz
    · rename_i hj
      refine frzsE_sound ms (j + 1) _ k Q s a w hz hw sim fun Q s a w hw sim => ?_
      refine wp_mono (hk _ s a w hw sim) fun e a' w' he => ?_
      obtain ⟨hf, s1, hs1, hq⟩ := he
      cases e with
      | normal =>
        obtain ⟨s2, h1, h2⟩ := hq
        exact ⟨rfl, s2, frzStep_sim hj h1 hs1, h2⟩
      | exit id => exact ⟨rfl, s1, hs1, hq⟩
      | ret => exact ⟨rfl, s1, hs1, hq⟩
      | _ => simp [Exit.flow] at hf
    · simp at hz
  | .copy :: ms, j, c, k, Q, s, a, w, hz, hw, sim, hk => frzsE_sound ms (j + 1) c k Q s a w (by simpa [frzsE] using hz) hw sim hk
  | .take :: ms, j, c, k, Q, s, a, w, hz, hw, sim, hk => frzsE_sound ms (j + 1) c k Q s a w (by simpa [frzsE] using hz) hw sim hk

theorem code_sound (hm : P.follows .mixedOrders = true) : ∀ (c : Code) (k : C) (Q : Exit → St → Prop) (s : St) (a : Act) (w : World), cC P n md c = some k → wpC P k Q s → Sim x n s a w → c.wp P (QR x n Q) a w
  | .skip, k, Q, s, a, w, hc, hw, sim => by
    simp only [cC, Option.some.injEq] at hc
    subst hc
    exact wp_skip ⟨rfl, s, sim, hw⟩
  | .label l, k, Q, s, a, w, hc, hw, sim => by
    simp only [cC, Option.some.injEq] at hc
    subst hc
    exact wp_label ⟨rfl, s, sim, hw⟩
  | .region id ops draw, k, Q, s, a, w, hc, hw, sim => by
    simp only [cC, Option.bind_eq_some_iff] at hc
    obtain ⟨gs, hgs, c, hc, c2, hz2, hz⟩ := hc
    refine frzs_sound (md (1000000 + id)) 0 c2 k Q s a w hz hw sim fun s a w hw sim => ?_
    refine frzsE_sound (md (2000000 + id)) 0 c c2 Q s a w hz2 hw sim fun Q s a w hw sim => ?_
    cases draw with
    | true =>
      rw [if_pos rfl] at hc
      split at hc
      · rename_i hok
        simp only [Option.some.injEq] at hc
        subst hc
        exact region_any hm hgs hok hw sim fun s' a' w' hs hk => ⟨rfl, s', hs, hk⟩
      · split at hc
        · rename_i hok
          simp only [Option.some.injEq] at hc
          subst hc
          exact region_items hm hgs hok hw sim fun s' a' w' hs hk => ⟨rfl, s', hs, hk⟩
        · simp at hc
    | false =>
      rw [if_neg (by simp)] at hc
      simp only [Option.some.injEq] at hc
      subst hc
      exact region_sound hgs hw sim fun s' a' w' hs hk => ⟨rfl, s', hs, hk⟩
  | .seq c d, k, Q, s, a, w, hc, hw, sim => by
    simp only [cC, Option.bind_eq_some_iff, Option.map_eq_some_iff] at hc
    obtain ⟨p, hp, q, hq, rfl⟩ := hc
    exact wp_seq (wp_mono (code_sound hm c p _ s a w hp hw sim) (then_QR fun a' w' s' hs hk => code_sound hm d q Q s' a' w' hq hk hs))
  | .cond z c d, k, Q, s, a, w, hc, hw, sim => by
    simp only [cC, Option.bind_eq_some_iff, Option.map_eq_some_iff] at hc
    obtain ⟨y, hy, p, hp, q, hq, rfl⟩ := hc
    obtain ⟨v, hv, h1, h2⟩ := hw
    have sim' := sim
    obtain ⟨A, μ, OH, Ot, ht, h0, hr, st⟩ := sim
    refine wp_cond_split (boolOf_rep hv (get_rep (cX_ok hy) hr)) (fun e => code_sound hm c p Q s a w hp (h1 e) sim') (fun e => code_sound hm d q Q s a w hq (h2 e) sim')
  | .block id c, k, Q, s, a, w, hc, hw, sim => by
    simp only [cC, Option.map_eq_some_iff] at hc
    obtain ⟨p, hp, rfl⟩ := hc
    refine wp_block (wp_mono (code_sound hm c p _ s a w hp hw sim) fun e a' w' he => ?_)
    obtain ⟨hf, s', hs, hk⟩ := he
    cases e with
    | normal => exact ⟨rfl, s', hs, hk⟩
    | ret => exact ⟨rfl, s', hs, hk⟩
    | exit id' =>
      simp only [inBlockL] at hk
      simp only [Exit.inBlock]
      by_cases hid : id' = id
      · rw [if_pos hid] at hk ⊢; exact ⟨rfl, s', hs, hk⟩
      · rw [if_neg hid] at hk ⊢; exact ⟨rfl, s', hs, hk⟩
    | _ => simp [Exit.flow] at hf
  | .loop c, k, Q, s, a, w, hc, hw, sim => by
    simp only [cC, Option.map_eq_some_iff] at hc
    obtain ⟨p, hp, rfl⟩ := hc
    obtain ⟨I, k0, h0, hround⟩ := hw
    refine wp_loop_rel (fun k a w => ∃ s, Sim x n s a w ∧ I k s) (fun k a w hI => ?_) k0 a w ⟨s, sim, h0⟩
    obtain ⟨s', hs, hk⟩ := hI
    exact wp_mono (code_sound hm c p _ s' a w hp (hround k s' hk) hs) (then_QR fun a' w' s2 hs2 hk2 => by
      obtain ⟨k', hlt, hk'⟩ := hk2
      exact ⟨k', hlt, s2, hs2, hk'⟩)
  | .scope c, k, Q, s, a, w, hc, hw, sim => by
    simp only [cC] at hc
    refine wp_scope_straight (wp_mono (code_sound hm c k Q s a w hc hw sim) fun e a' w' he => ?_)
    obtain ⟨hf, s', hs, hk⟩ := he
    cases e with
    | goto l => simp [Exit.flow] at hf
    | _ => exact ⟨hf, s', hs, hk⟩
  | .exit id, k, Q, s, a, w, hc, hw, sim => by
    simp only [cC, Option.some.injEq] at hc
    subst hc
    exact wp_exit ⟨rfl, s, sim, hw⟩
  | .ret, k, Q, s, a, w, hc, hw, sim => by
    simp only [cC, Option.some.injEq] at hc
    subst hc
    exact wp_ret ⟨rfl, s, sim, hw⟩
  | .rangeFunc _ _ _ _, k, Q, s, a, w, hc, hw, sim => by simp [cC] at hc
  | .goto _, k, Q, s, a, w, hc, hw, sim => by simp [cC] at hc
  | .refuse _, k, Q, s, a, w, hc, hw, sim => by simp [cC] at hc
end

/-! results -/

/-- where a result lies: in a slot, or in a variable that a slot leads to -/
inductive RV where
  | tmp (t : Nat)
  | cell (t : Nat) (agg : Bool) (sz : Nat)
def rvVal (s : St) : RV → Option (LV × St)
  | .tmp t => some (s.t t, { s with t := upd s.t t (share (s.t t)) })
  | .cell t agg sz => match s.t t with
    | .ptr l 0 => match s.h[l]? with
      | some (some xs) => if sz = xs.length then match ofCells agg xs with
        | some v => some (v, { s with h := s.h.set l (some (shareAll xs)) })
        | none => none
        else none
      | _ => none
    | _ => none
def rvVals (s : St) : List RV → Option (List LV × St)
  | [] => some ([], s)
  | r :: rs => match rvVal s r with
    | some (v, s') => match rvVals s' rs with
      | some (vs, s'') => some (v :: vs, s'')
      | none => none
    | none => none
def pack : List LV → LV
  | [v] => v
  | vs => .tup vs
section
variable (P : Program) (n : Nat)
def rvOf : List ResultVar → Option (List RV)
  | [] => some []
  | .tmp t :: rs => if t < n then (rvOf rs).map fun l => .tmp t :: l else none
  | .cell t ty :: rs => if t < n then (isAggB P ty).bind fun a => (sz? P ty).bind fun s => (rvOf rs).map fun l => .cell t a s :: l else none
end

section
variable {P : Program} {x : Cx} {n : Nat}

def readRV (tmps : Array Value) : ResultVar → Sem Value
  | .tmp t => pure (tmps.getD t undef)
  | .cell a t => do loadVar t (← asAddr (tmps.getD a undef))

theorem rvVals_sound {a : Act} {w : World} {A : GM} {μ : List Nat} : ∀ (rs : List ResultVar) (rvs : List RV) (s s' : St) (vs : List LV) (OH : List (List Own)) (Ot : Nat → List Own), rvOf P n rs = some rvs → rvVals s rvs = some (vs, s') →
    (∀ i, i < n → Rep A μ (s.t i) (a.tmps.getD i undef) (Ot i)) → ∀ (O E : List Own), St' x w A μ s.h OH O → (∀ p : Own → Bool, (allO n Ot).countP p + E.countP p ≤ O.countP p) →
    ∃ vals OH' Ov O', (rs.mapM (readRV a.tmps)).run P w = .ok vals w ∧ RepVals A μ vs vals Ov ∧ St' x w A μ s'.h OH' O' ∧ (∀ p : Own → Bool, Ov.countP p + E.countP p ≤ O'.countP p)
  | [], rvs, s, s', vs, OH, Ot, h1, h2, hr, O, E, st, hf => by
    simp only [rvOf, Option.some.injEq] at h1
    subst h1
    simp only [rvVals, Option.some.injEq, Prod.mk.injEq] at h2
    obtain ⟨rfl, rfl⟩ := h2
    exact ⟨[], OH, [], O, by simp, by simp [RepVals], st, fun p => by have := hf p; simp; omega⟩
  | .tmp t :: rs, rvs, s, s', vs, OH, Ot, h1, h2, hr, O, E, st, hf => by
    simp only [rvOf] at h1
    split at h1
    · rename_i ht
      simp only [Option.map_eq_some_iff] at h1
      obtain ⟨l, hl, rfl⟩ := h1
      simp only [rvVals, rvVal] at h2
      split at h2
      · rename_i vs2 s2 hrest
        simp only [Option.some.injEq, Prod.mk.injEq] at h2
        obtain ⟨rfl, rfl⟩ := h2
        obtain ⟨vals, OH', Ov, O', g1, g2, g3, g4⟩ := rvVals_sound rs l { s with t := upd s.t t (share (s.t t)) } s2 vs2 OH (upd Ot t []) hl hrest (fun i hi => by
          by_cases e : i = t
          · subst e; simp only [upd_same]; exact Rep.share _ _ _ (hr i hi)
          · simp only [upd_other _ _ _ e]; exact hr i hi) O (Ot t ++ E) st (fun p => by
          have k1 := count_upd p Ot t [] n ht
          have k2 := hf p
          simp only [List.countP_append, List.countP_nil] at k1 ⊢
          omega)
        refine ⟨a.tmps.getD t undef :: vals, OH', Ot t ++ Ov, O', ?_, ?_, g3, fun p => ?_⟩
        · simp only [List.mapM_cons, readRV, pure_bind, Sem.run_bind, g1]; rfl
        · simp only [RepVals]; exact ⟨_, vals, Ot t, Ov, rfl, rfl, hr t ht, g2⟩
        · have := g4 p
          simp only [List.countP_append] at this ⊢
          omega
      · simp at h2
    · simp at h1
  | .cell t ty :: rs, rvs, s, s', vs, OH, Ot, h1, h2, hr, O, E, st, hf => by
    simp only [rvOf] at h1
    split at h1
    · rename_i ht
      simp only [Option.bind_eq_some_iff, Option.map_eq_some_iff] at h1
      obtain ⟨agg, hagg, sz, hsz, l, hl, rfl⟩ := h1
      simp only [rvVals, rvVal] at h2
      split at h2
      · rename_i v s1 hv
        split at hv
        · rename_i lb hptr
          split at hv
          · rename_i xs hxs
            split at hv
            · rename_i hlen
              split at hv
              · rename_i v' hof
                simp only [Option.some.injEq, Prod.mk.injEq] at hv
                obtain ⟨rfl, rfl⟩ := hv
                split at h2
                · rename_i vs2 s2 hrest
                  simp only [Option.some.injEq, Prod.mk.injEq] at h2
                  obtain ⟨rfl, rfl⟩ := h2
                  have hp := hr t ht
                  rw [hptr] at hp
                  simp only [Rep] at hp
                  obtain ⟨c, e, hc, hrep, hone⟩ := st.inv.box lb xs hxs
                  have hcl := hrep.length
                  obtain ⟨u, hu, hue, hu1⟩ := ofCells_rep hof hrep hone
                  have hrun := load_run (P := P) (w := w) (b := μ.getD lb 0) (off := 0) (vs := c.toList) hagg hsz (by rw [hcl, hlen]) (fun j v hj => by
                    rw [cell_of_block hc, ← Array.getElem?_toList, Nat.zero_add]; exact hj) (fun h => ⟨u, hu1 h⟩)
                  rw [← hue] at hrun
                  have hll : lb < s.h.length := by
                    rcases Nat.lt_or_ge lb s.h.length with g | g
                    · exact g
                    · rw [List.getElem?_eq_none g] at hxs; simp at hxs
                  have st2 := st.setBox hxs c e (shareAll xs) [] (O ++ OH.getD lb []) (RepVals.share _ _ _ hrep) hone (fun p => by simp [List.countP_append])
                  rw [heap_set_self hc] at st2
                  obtain ⟨vals, OH', Ov, O', g1, g2, g3, g4⟩ := rvVals_sound rs l { s with h := s.h.set lb (some (shareAll xs)) } s2 vs2 (OH.set lb []) Ot hl hrest hr (O ++ OH.getD lb []) (OH.getD lb [] ++ E) st2 (fun p => by
                    have k2 := hf p
                    simp only [List.countP_append]
                    omega)
                  refine ⟨u :: vals, OH', OH.getD lb [] ++ Ov, O', ?_, ?_, g3, fun p => ?_⟩
                  · simp only [List.mapM_cons, readRV, Sem.run_bind, hp.2.2, asAddr, Sem.run_pure, Result.andThen_ok, hrun, g1]
                  · simp only [RepVals]; exact ⟨u, vals, _, Ov, rfl, rfl, hu, g2⟩
                  · have := g4 p
                    simp only [List.countP_append] at this ⊢
                    omega
                · simp at h2
              · simp at hv
            · simp at hv
          · simp at hv
        · simp at hv
      · simp at h2
    · simp at h1

def packV : List Value → Value
  | [v] => v
  | vs => .tuple vs.toArray

theorem results_run {fn : Func} {tmps : Array Value} {w : World} {vals : List Value} (h : (fn.results.toList.mapM (readRV tmps)).run P w = .ok vals w) :
    (results fn tmps).run P w = .ok (packV vals) w := by
  have e : (fn.results.mapM (readRV tmps)).run P w = .ok vals.toArray w := by
    rw [Array.mapM_eq_mapM_toList]
    simp [h]
  have e2 : results fn tmps = (do let vs ← fn.results.mapM (readRV tmps); pure (if h : vs.size = 1 then vs[0] else .tuple vs)) := by
    unfold results
    congr 1
  rw [e2, Sem.run_bind, e]
  simp only [Result.andThen_ok, Sem.run_pure]
  congr 1
  match vals with
  | [] => simp [packV]
  | [v] => simp [packV]
  | v :: u :: vs => simp [packV]

theorem pack_rep {A : GM} {μ : List Nat} {vs : List LV} {vals : List Value} {O : List Own} (h : RepVals A μ vs vals O) : Rep A μ (pack vs) (packV vals) O := by
  have hl := h.length
  match vs, vals, hl with
  | [], [], _ => simp only [pack, packV, Rep]; exact ⟨[], rfl, h⟩
  | [x], [v], _ =>
    simp only [RepVals] at h
    obtain ⟨v', ws, O1, O2, he, rfl, h1, h2, rfl⟩ := h
    simp only [List.cons.injEq] at he
    obtain ⟨rfl, rfl⟩ := he
    simpa [pack, packV] using h1
  | x :: y :: xs, v :: u :: ws, _ => simp only [pack, packV, Rep]; exact ⟨_, rfl, h⟩

/-- arguments as slots -/
def env (args : List LV) : Nat → LV := fun i => args.getD i .dead

theorem env_rep {A : GM} {μ : List Nat} : ∀ (args : List LV) (vals : List Value) (Oa : List Own) (m : Nat), RepVals A μ args vals Oa → args.length ≤ m →
    ∃ Ot : Nat → List Own, (∀ i, Rep A μ (env args i) (vals.getD i undef) (Ot i)) ∧ allO m Ot = Oa
  | [], vals, Oa, m, h, _ => by
    simp only [RepVals] at h
    obtain ⟨rfl, rfl⟩ := h
    exact ⟨fun _ => [], fun i => by simp [env, Rep], allO_nil m⟩
  | x :: xs, vals, Oa, 0, h, hm => by simp at hm
  | x :: xs, vals, Oa, m + 1, h, hm => by
    simp only [RepVals] at h
    obtain ⟨v, ws, O1, O2, rfl, rfl, h1, h2⟩ := h
    obtain ⟨Ot, g1, g2⟩ := env_rep xs ws O2 m h2 (by simpa using hm)
    refine ⟨fun i => match i with | 0 => O1 | i + 1 => Ot i, fun i => ?_, ?_⟩
    · cases i with
      | zero => simpa [env] using h1
      | succ i => simpa [env] using g1 i
    · simp only [allO, List.range_succ_eq_map, List.flatMap_cons, List.flatMap_map]
      rw [← g2]; rfl

/-- what holds at a function's end -/
def Post (rvs : List RV) (m : Nat) (R : LV → List Box → Prop) : Exit → St → Prop := fun e s => (e = .normal ∨ e = .ret) ∧
  ∃ vs s' k, rvVals s rvs = some (vs, s') ∧ m ≤ k ∧ k ≤ s'.h.length ∧ (k = s'.h.length ∨ (Low k (pack vs) ∧ ∀ l xs, l < k → s'.h[l]? = some (some xs) → LowAll k xs)) ∧ R (pack vs) (s'.h.take k)

theorem rvVals_len : ∀ (rvs : List RV) (s s' : St) (vs : List LV), rvVals s rvs = some (vs, s') → s'.h.length = s.h.length
  | [], s, s', vs, h => by simp only [rvVals, Option.some.injEq, Prod.mk.injEq] at h; rw [← h.2]
  | r :: rs, s, s', vs, h => by
    simp only [rvVals] at h
    split at h
    · rename_i v s1 hv
      split at h
      · rename_i vs2 s2 hrest
        simp only [Option.some.injEq, Prod.mk.injEq] at h
        rw [← h.2, rvVals_len rs s1 s2 vs2 hrest]
        cases r with
        | tmp t => simp only [rvVal, Option.some.injEq, Prod.mk.injEq] at hv; rw [← hv.2]
        | cell t agg sz =>
          simp only [rvVal] at hv
          split at hv
          · split at hv
            · split at hv
              · split at hv
                · simp only [Option.some.injEq, Prod.mk.injEq] at hv; rw [← hv.2]; simp
                · simp at hv
              · simp at hv
            · simp at hv
          · simp at hv
      · simp at h
    · simp at h

/-- a function's contract, out of its code -/
theorem LCalls.of_code {f : FuncId} {fn : Func} {c : Code} {k : C} {md : Nat → List Md} {rvs : List RV} {args : List LV} {h : List Box} {R : LV → List Box → Prop} (hm : P.follows .mixedOrders = true)
    (hcal : callable P f = true) (hf : P.funcs[f]? = some fn) (hb : fn.body = some c) (hc : cC P fn.ntmps md c = some k) (hrv : rvOf P fn.ntmps fn.results.toList = some rvs) (hlen : args.length ≤ fn.ntmps)
    (hex : ∃ r h', R r h') (hw : wpC P k (Post rvs h.length R) { t := env args, h := h }) : LCalls P f args h R := by
  refine ⟨hcal, hex, fun w A μ OH vals Oa hv hi => ?_⟩
  refine calls_of_wp hf hb ?_
  have hvl := hv.length
  obtain ⟨Ot, hot, hall⟩ := env_rep args vals Oa fn.ntmps hv hlen
  have sim : Sim (CallCx w A μ h OH Oa) fn.ntmps { t := env args, h := h } { tmps := vals.toArray ++ Array.replicate (fn.ntmps - vals.toArray.size) undef, defers := [] } w := by
    refine ⟨A, μ, OH, Ot, by simp; omega, rfl, fun i hi' => ?_, ?_⟩
    · have : (vals.toArray ++ Array.replicate (fn.ntmps - vals.toArray.size) undef).getD i undef = vals.getD i undef := by
        rw [Array.getD_eq_getD_getElem?, List.getD_eq_getElem?_getD, Array.getElem?_append]
        by_cases hlt : i < vals.length
        · simp [hlt]
        · rw [if_neg (by simpa using hlt)]
          simp at hlt ⊢
          simp [List.getElem?_eq_none hlt, Array.getElem?_replicate]
          split <;> rfl
      rw [this]
      exact hot i
    · rw [hall]
      exact ⟨hi, ⟨Nat.le_refl _, fun b _ _ => ⟨rfl, fun _ => rfl⟩, fun b m c' hm' => .inr (.inr ⟨m, c', hm'⟩), fun b hl => .inr (.inl hl), fun _ _ _ h => h, ⟨[], by simp [CallCx]⟩, ⟨rfl, rfl, rfl⟩⟩⟩
  refine wp_mono (code_sound hm c k _ _ _ w hc hw sim) fun e a' w' he => ?_
  obtain ⟨_, s, hs, hp⟩ := he
  have core : a'.defers = [] ∧ ∃ v, (results fn a'.tmps).run P w' = .ok v w' ∧ Ends w A μ h OH Oa R (.returned v) w' := by
    obtain ⟨_, vs, s', kk, hrvs, hk1, hk2, hlow, hR⟩ := hp
    obtain ⟨B, μ', OH', Ot', ht', h0', hr', st'⟩ := hs
    obtain ⟨vals', OH2, Ov, O', g1, g2, g3, g4⟩ := rvVals_sound (P := P) (x := CallCx w A μ h OH Oa) fn.results.toList rvs s s' vs OH' Ot' hrv hrvs hr' (allO fn.ntmps Ot') [] st' (fun p => by simp)
    refine ⟨h0', _, results_run g1, ?_⟩
    obtain ⟨ν, hν⟩ := g3.since.ext
    have hμl : μ.length = h.length := hi.len
    have hμ0 : (CallCx w A μ h OH Oa).μ0 = μ := rfl
    have st1 := g3.fewer (O' := Ov) (fun p => by have := g4 p; simp at this; omega)
    have st2 : St' (CallCx w A μ h OH Oa) w' B (μ'.take kk) (s'.h.take kk) (OH2.take kk) Ov := by
      rcases hlow with e | ⟨_, hlowh⟩
      · rw [List.take_of_length_le (by have := g3.inv.len; omega), List.take_of_length_le (by omega), List.take_of_length_le (by have := g3.inv.lenO; omega)]
        exact st1
      · exact st1.cut kk (by rw [hμ0]; omega) hlowh hk2
    have hμk : μ'.take kk = μ ++ ν.take (kk - μ.length) := by
      rw [hν, hμ0, List.take_append, List.take_of_length_le (by omega)]
    have hl' := g3.inv.len
    refine ⟨_, pack vs, s'.h.take kk, B, ν.take (kk - μ.length), OH2.take kk, Ov, rfl, hR, ?_, ?_⟩
    · rw [← hμk]
      rcases hlow with e | ⟨hlow, _⟩
      · rw [List.take_of_length_le (by omega)]
        exact pack_rep g2
      · exact Rep.low (k := kk) (by simp; omega) (fun l hl => by rw [List.getD_eq_getElem?_getD, List.getElem?_take, if_pos hl, ← List.getD_eq_getElem?_getD]) _ _ _ hlow (pack_rep g2)
    · rw [← hμk]; exact st2
  rcases hp.1 with rfl | rfl
  · exact core
  · exact core
end

end Go.TL
