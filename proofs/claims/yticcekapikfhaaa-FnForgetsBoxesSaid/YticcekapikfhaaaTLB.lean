/- What instructions read and write, and that those that are apart may change places. No program, no conditions. -/
import Derived.Test.YticcekapikfhaaaTLA
namespace Go.TL

/-- what an instruction turns: slots, one after the other, and the variables, if any -/
structure Ef where
  us : List (Nat × LV)
  h : Option (List Box)

def updAll (t : Nat → LV) : List (Nat × LV) → (Nat → LV)
  | [] => t
  | (d, v) :: us => updAll (upd t d v) us
def Ef.app (e : Ef) (s : St) : St := { t := updAll s.t e.us, h := e.h.getD s.h }

def slotOf : X → List Nat
  | .t i => [i]
  | .k _ => []
def giveU (t : Nat → LV) : X → List (Nat × LV)
  | .t i => [(i, share (t i))]
  | .k _ => []
def giveUs (t : Nat → LV) : List X → List (Nat × LV)
  | [] => []
  | x :: xs => giveU t x ++ giveUs (give t x) xs
def slots (xs : List X) : List Nat := xs.flatMap slotOf
def optX : Option X → List X
  | none => []
  | some x => [x]

def I.ops : I → List X
  | .mv _ _ x => [x]
  | .box _ x => [x]
  | .alloc _ _ => []
  | .load _ _ _ _ x => [x]
  | .store _ x y => [x, y]
  | .bin _ _ _ x y => [x, y]
  | .un _ _ x => [x]
  | .build _ _ ps => ps.map fun p => p.2.2
  | .bslice _ _ _ _ ps => ps.map fun p => p.2.2
  | .slice _ _ x lo hi mx => x :: (optX lo ++ optX hi ++ optX mx)
  | .sliceS _ x lo hi => x :: (optX lo ++ optX hi)
  | .fieldA _ _ x => [x]
  | .field _ _ _ _ x => [x]
  | .indexA _ _ x i => [x, i]
  | .indexS _ x i => [x, i]
  | .extract _ _ x => [x]
  | .len _ x => [x]
  | .lenS _ x => [x]
  | .append _ _ x y => [x, y]
  | .mkslice _ _ _ n => [n]
  | .minmax _ _ x y => [x, y]
  | .mkfn _ _ _ cs => cs
  | .nilchk _ x => [x]
  | .conv _ _ x => [x]
  | .call _ _ f ys => f :: ys
  | .pick _ c x y => [c, x, y]
  | .bad _ => []
  | .cap _ x => [x]
  | .growz _ _ x n => [x, n]
  | .cut0 _ _ x hi => [x, hi]
def I.dst : I → Option Nat
  | .mv d _ _ | .box d _ | .alloc d _ | .load d _ _ _ _ | .bin d _ _ _ _ | .un d _ _ | .build d _ _ | .bslice d _ _ _ _ | .slice d _ _ _ _ _ | .sliceS d _ _ _ | .fieldA d _ _ | .field d _ _ _ _
  | .indexA d _ _ _ | .indexS d _ _ | .extract d _ _ | .len d _ | .lenS d _ | .append d _ _ _ | .mkslice d _ _ _ | .minmax d _ _ _ | .mkfn d _ _ _ | .nilchk d _ | .conv d _ _ => some d
  | .store _ _ _ => none
  | .call _ d _ _ => d
  | .pick d _ _ _ => some d
  | .bad d => d
  | .cap d _ => some d
  | .growz d _ _ _ => some d
  | .cut0 d _ _ _ => some d
/-- operands that hand away what they own -/
def I.gives : I → List X
  | .mv _ .take x => [x]
  | .box _ x => [x]
  | .store _ _ y => [y]
  | .build _ _ ps => ps.map fun p => p.2.2
  | .bslice _ _ _ _ ps => ps.map fun p => p.2.2
  | .extract _ _ x => [x]
  | .append _ _ x y => [x, y]
  | .cut0 _ _ x _ => [x]
  | _ => []
/-- does it read the variables? does it turn them? -/
def I.hr : I → Bool
  | .mv _ .frz _ | .box _ _ | .alloc _ _ | .store _ _ _ | .mkslice _ _ _ _ => true
  | .load _ m _ _ _ => !m.settled
  | .call rw _ _ _ => rw.mem
  | _ => false
def I.hw : I → Bool
  | .mv _ .frz _ | .box _ _ | .alloc _ _ | .store _ _ _ | .mkslice _ _ _ _ => true
  | .load _ .frz _ _ _ => true
  | .call rw _ _ _ => rw.mem
  | _ => false
def I.isCall : I → Bool
  | .call _ _ _ _ => true
  | _ => false
def I.reads (i : I) : List Nat := slots i.ops
def I.writes (i : I) : List Nat := i.dst.toList ++ slots i.gives

theorem updAll_app (t : Nat → LV) : ∀ us vs : List (Nat × LV), updAll t (us ++ vs) = updAll (updAll t us) vs
  | [], vs => rfl
  | (d, v) :: us, vs => by simp only [List.cons_append, updAll]; exact updAll_app (upd t d v) us vs

theorem updAll_out {k : Nat} : ∀ {us : List (Nat × LV)} {t : Nat → LV}, (∀ p ∈ us, p.1 ≠ k) → updAll t us k = t k
  | [], t, _ => rfl
  | (d, v) :: us, t, h => by
    simp only [updAll]
    rw [updAll_out (fun p hp => h p (by simp [hp])), upd_other _ _ _ (fun e => h (d, v) (by simp) e.symm)]

theorem updAll_in {k : Nat} : ∀ {us : List (Nat × LV)} {t t' : Nat → LV}, (∃ p ∈ us, p.1 = k) → updAll t us k = updAll t' us k
  | [], t, t', h => by simp at h
  | (d, v) :: us, t, t', h => by
    simp only [updAll]
    by_cases hk : ∃ p ∈ us, p.1 = k
    · exact updAll_in hk
    · have hout : ∀ p ∈ us, p.1 ≠ k := fun p hp e => hk ⟨p, hp, e⟩
      obtain ⟨p, hp, rfl⟩ := h
      simp only [List.mem_cons] at hp
      rcases hp with rfl | hp
      · rw [updAll_out hout, updAll_out hout, upd_same, upd_same]
      · exact absurd rfl (hout p hp)

theorem updAll_comm {us vs : List (Nat × LV)} (h : ∀ p ∈ us, ∀ q ∈ vs, p.1 ≠ q.1) (t : Nat → LV) : updAll (updAll t us) vs = updAll (updAll t vs) us := by
  funext k
  by_cases hu : ∃ p ∈ us, p.1 = k
  · obtain ⟨p, hp, rfl⟩ := hu
    have hv : ∀ q ∈ vs, q.1 ≠ p.1 := fun q hq e => h p hp q hq e.symm
    rw [updAll_out hv]
    exact updAll_in ⟨p, hp, rfl⟩
  · have hu' : ∀ p ∈ us, p.1 ≠ k := fun p hp e => hu ⟨p, hp, e⟩
    rw [updAll_out hu']
    by_cases hv : ∃ q ∈ vs, q.1 = k
    · exact updAll_in hv
    · have hv' : ∀ q ∈ vs, q.1 ≠ k := fun q hq e => hv ⟨q, hq, e⟩
      rw [updAll_out hv', updAll_out hv', updAll_out hu']

theorem give_eq (t : Nat → LV) (x : X) : give t x = updAll t (giveU t x) := by cases x <;> rfl
theorem giveAll_eq : ∀ (xs : List X) (t : Nat → LV), giveAll t xs = updAll t (giveUs t xs)
  | [], _ => rfl
  | x :: xs, t => by
    simp only [giveAll, giveUs]
    rw [updAll_app, ← give_eq, giveAll_eq xs (give t x)]

theorem get_congr {t t' : Nat → LV} {x : X} (h : ∀ k ∈ slotOf x, t k = t' k) : get t x = get t' x := by
  cases x with
  | t i => exact h i (by simp [slotOf])
  | k v => rfl

theorem give_congr {t t' : Nat → LV} {x : X} {k : Nat} (h : ∀ k ∈ slotOf x, t k = t' k) (hk : t k = t' k) : give t x k = give t' x k := by
  cases x with
  | t i =>
    have hi := h i (by simp [slotOf])
    simp only [give]
    by_cases e : k = i
    · subst e; rw [upd_same, upd_same, hi]
    · rw [upd_other _ _ _ e, upd_other _ _ _ e]; exact hk
  | k v => exact hk

theorem give_out {t : Nat → LV} {x : X} {k : Nat} (h : k ∉ slotOf x) : give t x k = t k := by
  cases x with
  | t i => exact upd_other _ _ _ (fun e => h (by simp [slotOf, e]))
  | k v => rfl

theorem giveAll_congr : ∀ {xs : List X} {t t' : Nat → LV} {k : Nat}, (∀ k ∈ slots xs, t k = t' k) → t k = t' k → giveAll t xs k = giveAll t' xs k
  | [], t, t', k, _, hk => hk
  | x :: xs, t, t', k, h, hk => by
    simp only [giveAll]
    refine giveAll_congr (fun j hj => ?_) ?_
    · exact give_congr (fun i hi => h i (by simp [slots, hi])) (h j (by simp [slots] at hj ⊢; exact .inr hj))
    · exact give_congr (fun i hi => h i (by simp [slots, hi])) hk

theorem giveAll_out : ∀ {xs : List X} {t : Nat → LV} {k : Nat}, k ∉ slots xs → giveAll t xs k = t k
  | [], t, k, _ => rfl
  | x :: xs, t, k, h => by
    simp only [giveAll]
    rw [giveAll_out (fun g => h (by simp [slots] at g ⊢; exact .inr g)), give_out (fun g => h (by simp [slots, g]))]

theorem fillLV_congr : ∀ {ps : List (Nat × Nat × X)} {t t' : Nat → LV} {zs : List LV}, (∀ k ∈ slots (ps.map fun p => p.2.2), t k = t' k) → fillLV t zs ps = fillLV t' zs ps
  | [], t, t', zs, _ => rfl
  | (off, sz, x) :: ps, t, t', zs, h => by
    have hx : ∀ k ∈ slotOf x, t k = t' k := fun i hi => h i (by simp [slots, hi])
    simp only [fillLV, get_congr hx]
    split
    · exact fillLV_congr fun j hj => give_congr hx (h j (by simp [slots] at hj ⊢; exact .inr hj))
    · rfl

theorem bound_congr {t t' : Nat → LV} {d : Int} {x : Option X} (h : ∀ k ∈ slots (optX x), t k = t' k) : bound t d x = bound t' d x := by
  cases x with
  | none => rfl
  | some x => simp only [bound]; rw [get_congr (fun k hk => h k (by simp [optX, slots, hk]))]

/-- two runs of one step agree on what it writes -/
def Agree (i : I) : Option St → Option St → Prop
  | some a, some b => (∀ k ∈ i.writes, a.t k = b.t k) ∧ (i.hw = true → a.h = b.h)
  | none, none => True
  | _, _ => False

theorem put_agree {s1 s2 : St} {d k : Nat} {v : LV} (h : k ≠ d → s1.t k = s2.t k) : (s1.put d v).t k = (s2.put d v).t k := by
  simp only [St.put]
  by_cases e : k = d
  · subst e; rw [upd_same, upd_same]
  · rw [upd_other _ _ _ e, upd_other _ _ _ e]; exact h e

theorem step_local (i : I) (t t' : Nat → LV) (h h' : List Box) (ht : ∀ k ∈ i.reads, t k = t' k) (hh : i.hr = true → h = h') : Agree i (step i ⟨t, h⟩) (step i ⟨t', h'⟩) := by
  have one : ∀ {x : X}, x ∈ i.ops → ∀ k ∈ slotOf x, t k = t' k := fun hx k hk => ht k (by simp only [I.reads, slots, List.mem_flatMap]; exact ⟨_, hx, hk⟩)
  have gx : ∀ {x : X}, x ∈ i.ops → get t x = get t' x := fun hx => get_congr (one hx)
  cases i with
  | mv d m x =>
    have e := gx (x := x) (by simp [I.ops])
    cases m with
    | copy => simp only [step, e, Agree, I.writes, I.dst, I.gives, I.hw]; simp [St.put, slots, upd_same]
    | take =>
      simp only [step, e, Agree, I.writes, I.dst, I.gives, I.hw]
      refine ⟨fun k hk => put_agree fun hne => ?_, by simp⟩
      simp [slots] at hk
      exact give_congr (one (by simp [I.ops])) (one (x := x) (by simp [I.ops]) k (hk.resolve_left hne))
    | frz =>
      have e2 := hh rfl
      subst e2
      simp only [step, e]
      split
      · split
        · simp [Agree, I.writes, I.dst, I.gives, slots, St.put, upd_same]
        · trivial
      · split
        · split
          · simp [Agree, I.writes, I.dst, I.gives, slots, St.put, upd_same]
          · trivial
        · trivial
      · trivial
  | box d x =>
    have e := gx (x := x) (by simp [I.ops])
    have e2 := hh rfl
    subst e2
    simp only [step, e]
    split
    · refine ⟨fun k hk => put_agree fun hne => ?_, fun _ => rfl⟩
      simp [I.writes, I.dst, I.gives, slots] at hk
      exact give_congr (one (by simp [I.ops])) (one (x := x) (by simp [I.ops]) k (hk.resolve_left hne))
    · trivial
  | alloc d z =>
    have e2 := hh rfl
    subst e2
    simp [step, Agree, I.writes, I.dst, I.gives, slots, St.put, upd_same]
  | load d m agg sz x =>
    have e := gx (x := x) (by simp [I.ops])
    simp only [step, e]
    split
    · cases hm : m.settled with
      | true => simp [Agree]
      | false =>
        have e2 := hh (by simp [I.hr, hm])
        subst e2
        simp only [Bool.false_eq_true, if_false]
        split
        · split
          · split
            · cases m <;> simp [Agree, I.writes, I.dst, I.gives, slots, St.put, upd_same]
            · trivial
          · trivial
        · trivial
    · split
      · split
        · cases m <;> simp [Agree, I.writes, I.dst, I.gives, slots, St.put, upd_same, I.hw]
          exact hh rfl
        · trivial
      · trivial
    · trivial
  | store sz x y =>
    have e := gx (x := x) (by simp [I.ops])
    have e' := gx (x := y) (by simp [I.ops])
    have e2 := hh rfl
    subst e2
    simp only [step, e, e']
    split
    · split
      · split
        · refine ⟨fun k hk => ?_, fun _ => rfl⟩
          simp [I.writes, I.dst, I.gives, slots] at hk
          exact give_congr (one (by simp [I.ops])) (one (x := y) (by simp [I.ops]) k hk)
        · trivial
      · trivial
    · trivial
  | bin d c op x y =>
    simp only [step, gx (x := x) (by simp [I.ops]), gx (x := y) (by simp [I.ops])]
    cases binLV c op (get t' x) (get t' y) <;> simp [Agree, I.writes, I.dst, I.gives, slots, St.put, upd_same, I.hw]
  | un d op x =>
    simp only [step, gx (x := x) (by simp [I.ops])]
    cases unLV op (get t' x) <;> simp [Agree, I.writes, I.dst, I.gives, slots, St.put, upd_same, I.hw]
  | build d z ps =>
    have hs : ∀ k ∈ slots (ps.map fun p => p.2.2), t k = t' k := fun k hk => ht k hk
    simp only [step, fillLV_congr hs]
    cases fillLV t' z ps with
    | none => trivial
    | some zs =>
      refine ⟨fun k hk => put_agree fun hne => ?_, by simp [I.hw]⟩
      simp only [I.writes, I.dst, I.gives, Option.toList, List.singleton_append, List.mem_cons] at hk
      exact giveAll_congr hs (hs k (hk.resolve_left hne))
  | bslice d sz len z ps =>
    have hs : ∀ k ∈ slots (ps.map fun p => p.2.2), t k = t' k := fun k hk => ht k hk
    simp only [step, fillLV_congr hs]
    cases fillLV t' z ps with
    | none => trivial
    | some zs =>
      refine ⟨fun k hk => put_agree fun hne => ?_, by simp [I.hw]⟩
      simp only [I.writes, I.dst, I.gives, Option.toList, List.singleton_append, List.mem_cons] at hk
      exact giveAll_congr hs (hs k (hk.resolve_left hne))
  | slice d sz x lo hi mx =>
    have b1 : ∀ d, bound t d lo = bound t' d lo := fun d => bound_congr fun k hk => ht k (by simp [I.reads, I.ops, slots] at hk ⊢; exact .inr (.inl hk))
    have b2 : ∀ d, bound t d hi = bound t' d hi := fun d => bound_congr fun k hk => ht k (by simp [I.reads, I.ops, slots] at hk ⊢; exact .inr (.inr (.inl hk)))
    have b3 : ∀ d, bound t d mx = bound t' d mx := fun d => bound_congr fun k hk => ht k (by simp [I.reads, I.ops, slots] at hk ⊢; exact .inr (.inr (.inr hk)))
    simp only [step, gx (x := x) (by simp [I.ops]), b1, b2, b3]
    split
    · split
      · split
        · simp [Agree, I.writes, I.dst, I.gives, slots, St.put, upd_same, I.hw]
        · trivial
      · trivial
    · split
      · split
        · simp [Agree, I.writes, I.dst, I.gives, slots, St.put, upd_same, I.hw]
        · trivial
      · trivial
    · trivial
  | sliceS d x lo hi =>
    have b1 : ∀ d, bound t d lo = bound t' d lo := fun d => bound_congr fun k hk => ht k (by simp [I.reads, I.ops, slots] at hk ⊢; exact .inr (.inl hk))
    have b2 : ∀ d, bound t d hi = bound t' d hi := fun d => bound_congr fun k hk => ht k (by simp [I.reads, I.ops, slots] at hk ⊢; exact .inr (.inr hk))
    simp only [step, gx (x := x) (by simp [I.ops]), b1, b2]
    split
    · split
      · split
        · simp [Agree, I.writes, I.dst, I.gives, slots, St.put, upd_same, I.hw]
        · trivial
      · trivial
    · trivial
  | fieldA d off x =>
    simp only [step, gx (x := x) (by simp [I.ops])]
    split
    · simp [Agree, I.writes, I.dst, I.gives, slots, St.put, upd_same, I.hw]
    · split
      · simp [Agree, I.writes, I.dst, I.gives, slots, St.put, upd_same, I.hw]
      · trivial
    · trivial
  | field d agg off sz x =>
    simp only [step, gx (x := x) (by simp [I.ops])]
    split
    · split
      · split
        · simp [Agree, I.writes, I.dst, I.gives, slots, St.put, upd_same, I.hw]
        · trivial
      · trivial
    · trivial
  | indexA d sz x i =>
    simp only [step, gx (x := x) (by simp [I.ops]), gx (x := i) (by simp [I.ops])]
    split
    · split
      · simp [Agree, I.writes, I.dst, I.gives, slots, St.put, upd_same, I.hw]
      · trivial
    · split
      · simp [Agree, I.writes, I.dst, I.gives, slots, St.put, upd_same, I.hw]
      · trivial
    · trivial
  | indexS d x i =>
    simp only [step, gx (x := x) (by simp [I.ops]), gx (x := i) (by simp [I.ops])]
    split
    · split
      · simp [Agree, I.writes, I.dst, I.gives, slots, St.put, upd_same, I.hw]
      · trivial
    · trivial
  | extract d k x =>
    simp only [step, gx (x := x) (by simp [I.ops])]
    split
    · split
      · split
        · rename_i j _ _ _
          refine ⟨fun k hk => put_agree fun hne => ?_, by simp [I.hw]⟩
          simp [I.writes, I.dst, I.gives, slots, slotOf, hne] at hk
          subst hk
          simp [upd_same]
        · trivial
      · trivial
    · trivial
  | len d x =>
    simp only [step, gx (x := x) (by simp [I.ops])]
    cases lenLV (get t' x) <;> simp [Agree, I.writes, I.dst, I.gives, slots, St.put, upd_same, I.hw]
  | lenS d x =>
    simp only [step, gx (x := x) (by simp [I.ops])]
    cases lenStr (get t' x) <;> simp [Agree, I.writes, I.dst, I.gives, slots, St.put, upd_same, I.hw]
  | append d sz x y =>
    have ey : get (give t x) y = get (give t' x) y := get_congr fun k hk => give_congr (one (by simp [I.ops])) (one (x := y) (by simp [I.ops]) k hk)
    simp only [step, gx (x := x) (by simp [I.ops]), ey]
    split
    · split
      · refine ⟨fun k hk => put_agree fun hne => ?_, by simp [I.hw]⟩
        simp [I.writes, I.dst, I.gives, slots] at hk
        have hk' := hk.resolve_left hne
        refine give_congr (fun j hj => give_congr (one (by simp [I.ops])) (one (x := y) (by simp [I.ops]) j hj)) (give_congr (one (by simp [I.ops])) ?_)
        rcases hk' with h1 | h1
        · exact one (x := x) (by simp [I.ops]) k h1
        · exact one (x := y) (by simp [I.ops]) k h1
      · trivial
    · trivial
  | mkslice d sz z n =>
    have e2 := hh rfl
    subst e2
    simp only [step, gx (x := n) (by simp [I.ops])]
    split
    · split
      · simp [Agree, I.writes, I.dst, I.gives, slots, St.put, upd_same]
      · trivial
    · trivial
  | minmax d mx x y =>
    simp only [step, gx (x := x) (by simp [I.ops]), gx (x := y) (by simp [I.ops])]
    split
    · simp [Agree, I.writes, I.dst, I.gives, slots, St.put, upd_same, I.hw]
    · trivial
  | mkfn d f m caps =>
    have e : caps.map (fun c => share (get t c)) = caps.map (fun c => share (get t' c)) := List.map_congr_left fun c hc => by rw [gx (x := c) hc]
    simp only [step, e]
    simp [Agree, I.writes, I.dst, I.gives, slots, St.put, upd_same, I.hw]
  | nilchk d x =>
    simp only [step, gx (x := x) (by simp [I.ops])]
    split
    · simp [Agree, I.writes, I.dst, I.gives, slots, St.put, upd_same, I.hw]
    · simp [Agree, I.writes, I.dst, I.gives, slots, St.put, upd_same, I.hw]
    · simp [Agree, I.writes, I.dst, I.gives, slots, St.put, upd_same, I.hw]
    · simp [Agree, I.writes, I.dst, I.gives, slots, St.put, upd_same, I.hw]
    · trivial
  | conv d k x =>
    simp only [step, gx (x := x) (by simp [I.ops])]
    cases TL.intOf (get t' x) <;> simp [Agree, I.writes, I.dst, I.gives, slots, St.put, upd_same, I.hw]
  | call rw d f ys => trivial
  | pick d c x y =>
    simp only [step, gx (x := c) (by simp [I.ops])]
    split
    · rename_i b _
      cases b with
      | true => simp [gx (x := x) (by simp [I.ops]), Agree, I.writes, I.dst, I.gives, slots, St.put, upd_same, I.hw]
      | false => simp [gx (x := y) (by simp [I.ops]), Agree, I.writes, I.dst, I.gives, slots, St.put, upd_same, I.hw]
    · trivial
  | bad d => trivial
  | cap d x =>
    simp only [step, gx (x := x) (by simp [I.ops])]
    split
    · simp [Agree, I.writes, I.dst, I.gives, slots, St.put, upd_same, I.hw]
    · trivial
  | growz d sz x m =>
    simp only [step, gx (x := x) (by simp [I.ops]), gx (x := m) (by simp [I.ops])]
    split
    · split
      · simp [Agree, I.writes, I.dst, I.gives, slots, St.put, upd_same, I.hw]
      · trivial
    · trivial
  | cut0 d sz x m =>
    simp only [step, gx (x := x) (by simp [I.ops]), gx (x := m) (by simp [I.ops])]
    split
    · split
      · refine ⟨fun k hk => put_agree fun hne => ?_, by simp [I.hw]⟩
        simp [I.writes, I.dst, I.gives, slots] at hk
        exact give_congr (one (by simp [I.ops])) (one (x := x) (by simp [I.ops]) k (hk.resolve_left hne))
      · trivial
    · trivial

end Go.TL
