/- What code does not write stays; loops of which only what they turn is said. No program, no conditions. -/
import Derived.Test.YticcekapikfhaaaTLL
namespace Go.TL

theorem onBool_split {b w : Bool} {p q : Prop} (h1 : b = w → p) (h2 : b = (!w) → q) : @onBool (some b) w ⟨p⟩ ⟨q⟩ := by
  refine ⟨b, rfl, h1, fun h => h2 ?_⟩
  cases b <;> cases w <;> simp at h ⊢
theorem onBoolT {b : Bool} {p q : Prop} (h1 : b = true → p) (h2 : b = false → q) : @onBool (some b) true ⟨p⟩ ⟨q⟩ := onBool_split h1 h2
theorem onBoolF {b : Bool} {p q : Prop} (h1 : b = true → q) (h2 : b = false → p) : @onBool (some b) false ⟨p⟩ ⟨q⟩ := onBool_split h2 h1
@[simp] theorem bin_beql {a b : Bool} : binLV .bool .eql (.sc (.bool a)) (.sc (.bool b)) = some (.sc (.bool (a == b))) := by
  cases a <;> cases b <;> rfl
@[simp] theorem bin_bneq {a b : Bool} : binLV .bool .neq (.sc (.bool a)) (.sc (.bool b)) = some (.sc (.bool (!(a == b)))) := by
  cases a <;> cases b <;> rfl
/-! results that lie in variables -/
def cellAt (b : Option Box) (agg : Bool) (sz l : Nat) (h : List Box) : Option (LV × List Box) := match b with
  | some (some xs) => if sz = xs.length then (ofCells agg xs).map fun v => (v, h.set l (some (shareAll xs))) else none
  | _ => none
def cellLV (v : LV) (h : List Box) (agg : Bool) (sz : Nat) : Option (LV × List Box) := match v with
  | .ptr l 0 => cellAt h[l]? agg sz l h
  | _ => none
@[simp] theorem cellAt_some {xs : List LV} {agg : Bool} {sz l : Nat} {h : List Box} : cellAt (some (some xs)) agg sz l h = if sz = xs.length then (ofCells agg xs).map fun v => (v, h.set l (some (shareAll xs))) else none := rfl
@[simp] theorem cellLV_ptr {h : List Box} {agg : Bool} {sz l : Nat} : cellLV (.ptr l 0) h agg sz = cellAt h[l]? agg sz l h := rfl
@[simp] theorem rvVals_cell {s : St} {t : Nat} {agg : Bool} {sz : Nat} {rs : List RV} : rvVals s (.cell t agg sz :: rs) = (cellLV (s.t t) s.h agg sz).bind fun q => (rvVals { t := s.t, h := q.2 } rs).map fun p => (q.1 :: p.1, p.2) := by
  simp only [rvVals, rvVal, cellLV]
  cases h : s.t t <;> try rfl
  rename_i l o
  cases o with
  | succ o => rfl
  | zero =>
    simp only [cellAt]
    cases h2 : s.h[l]? with
    | none => rfl
    | some b => cases b with
      | none => rfl
      | some xs =>
        by_cases hc : sz = xs.length
        · simp only [if_pos hc]
          cases ofCells agg xs with
          | none => rfl
          | some v =>
            simp only [Option.map_some, Option.bind_some]
            cases rvVals { s with h := s.h.set l (some (shareAll xs)) } rs <;> rfl
        · simp only [if_neg hc]; rfl
def writesG (gs : List GI) : List Nat := gs.flatMap fun g => g.2.writes
def writesC : C → List Nat
  | .skip => []
  | .reg gs => writesG gs
  | .par its => its.flatMap fun it => writesG it.list
  | .frz k => [k]
  | .seq a b => writesC a ++ writesC b
  | .cond _ a b => writesC a ++ writesC b
  | .block _ b => writesC b
  | .loop b => writesC b
  | .exit _ => []
  | .ret => []
def Fr (W : List Nat) (t t' : Nat → LV) : Prop := ∀ k, k ∉ W → t' k = t k
theorem Fr.refl (W : List Nat) (t : Nat → LV) : Fr W t t := fun _ _ => rfl
theorem Fr.trans {W : List Nat} {a b c : Nat → LV} (h : Fr W a b) (g : Fr W b c) : Fr W a c := fun k hk => (g k hk).trans (h k hk)

section
variable {P : Program}
theorem wpG_fr {g : GI} {K : St → Prop} {s : St} {W : List Nat} (hw : ∀ k ∈ g.2.writes, k ∈ W) (h : wpG P g K s) : wpG P g (fun s' => K s' ∧ Fr W s.t s'.t) s := by
  cases hc : g.2.isCall with
  | false =>
    rw [wpG_det hc] at h ⊢
    obtain ⟨s', h1, h2⟩ := h
    exact ⟨s', h1, h2, fun k hk => (gstep_frame g s s' h1).1 k (fun hk' => hk (hw k hk'))⟩
  | true =>
    cases hg : g.2 <;> (try (simp [hg, I.isCall] at hc; done))
    rename_i rw_ d f args
    have hd : ∀ k ∈ d.toList, k ∈ W := fun k hk => hw k (by rw [hg]; simp [I.writes, I.dst] at hk ⊢; exact .inl hk)
    have put : ∀ r h', Fr W s.t (putcall s d r h').t := fun r h' k hk => by
      simp only [putcall]
      exact putO_out (fun hk' => hk (hd k hk'))
    have core : wpCall P rw_ d f args K s → wpCall P rw_ d f args (fun s' => K s' ∧ Fr W s.t s'.t) s := by
      rintro ⟨fid, caps, c1, c2⟩
      exact ⟨fid, caps, c1, callWp_mono c2 fun r h' hr => ⟨hr, put r h'⟩⟩
    rw [wpG_call hg] at h ⊢
    cases hg1 : g.1 with
    | none => rw [hg1] at h; exact core h
    | some jw =>
      obtain ⟨j, want⟩ := jw
      rw [hg1] at h
      obtain ⟨b, hb, h1, h2⟩ := h
      refine ⟨b, hb, fun e => core (h1 e), fun e => ⟨h2 e, ?_⟩⟩
      rw [skip_call_put]; exact put _ _
theorem wpL_fr {W : List Nat} : ∀ (gs : List GI) {K : St → Prop} {s : St}, (∀ k ∈ writesG gs, k ∈ W) → wpL P gs K s → wpL P gs (fun s' => K s' ∧ Fr W s.t s'.t) s
  | [], K, s, _, h => ⟨h, Fr.refl W _⟩
  | g :: gs, K, s, hw, h => by
    simp only [writesG, List.flatMap_cons, List.mem_append] at hw
    refine wpG_mono (wpG_fr (W := W) (fun k hk => hw k (.inl hk)) h) fun s1 ⟨h1, f1⟩ => ?_
    refine Gives.of_code.wpL_mono gs (wpL_fr gs (fun k hk => hw k (.inr hk)) h1) fun s2 ⟨h2, f2⟩ => ⟨h2, f1.trans f2⟩
theorem wpIts_fr {W : List Nat} : ∀ (its : List (It GI)) {K : St → Prop} {s : St}, (∀ k ∈ its.flatMap fun it => writesG it.list, k ∈ W) → wpIts P its K s → wpIts P its (fun s' => K s' ∧ Fr W s.t s'.t) s
  | [], K, s, _, h => ⟨h, Fr.refl W _⟩
  | it :: its, K, s, hw, h => by
    simp only [List.flatMap_cons, List.mem_append] at hw
    have rest : ∀ s1, Fr W s.t s1.t → wpIts P its K s1 → wpIts P its (fun s' => K s' ∧ Fr W s.t s'.t) s1 := fun s1 f1 h1 =>
      wpIts_mono its (wpIts_fr its (fun k hk => hw k (.inr hk)) h1) fun s2 ⟨h2, f2⟩ => ⟨h2, f1.trans f2⟩
    cases it with
    | one g =>
      have hg : ∀ k ∈ g.2.writes, k ∈ W := fun k hk => hw k (.inl (by simp [It.list, writesG]; exact hk))
      exact wpG_mono (wpG_fr hg h) fun s1 ⟨h1, f1⟩ => rest s1 f1 h1
    | two g g' =>
      have hg : ∀ k ∈ g.2.writes, k ∈ W := fun k hk => hw k (.inl (by simp [It.list, writesG]; exact .inl hk))
      have hg' : ∀ k ∈ g'.2.writes, k ∈ W := fun k hk => hw k (.inl (by simp [It.list, writesG]; exact .inr hk))
      refine ⟨wpG_mono (wpG_fr hg h.1) fun s1 ⟨h1, f1⟩ => wpG_mono (wpG_fr hg' h1) fun s2 ⟨h2, f2⟩ => rest s2 (f1.trans f2) h2,
        wpG_mono (wpG_fr hg' h.2) fun s1 ⟨h1, f1⟩ => wpG_mono (wpG_fr hg h1) fun s2 ⟨h2, f2⟩ => rest s2 (f1.trans f2) h2⟩
theorem wpC_fr {W : List Nat} : ∀ (c : C) {Q : Exit → St → Prop} {s : St}, (∀ k ∈ writesC c, k ∈ W) → wpC P c Q s → wpC P c (fun e s' => Q e s' ∧ Fr W s.t s'.t) s
  | .skip, Q, s, _, h => ⟨h, Fr.refl W _⟩
  | .reg gs, Q, s, hw, h => wpL_fr gs hw h
  | .par its, Q, s, hw, h => wpIts_fr its hw h
  | .frz k, Q, s, hw, h => by
    obtain ⟨s', h1, h2⟩ := h
    refine ⟨s', h1, h2, fun j hj => frzStep_frame h1 j fun e => hj (hw j (by simp [writesC, e]))⟩
  | .seq a b, Q, s, hw, h => by
    simp only [writesC, List.mem_append] at hw
    refine Gives.of_code.wpC_mono a (wpC_fr a (fun k hk => hw k (.inl hk)) h) fun e s1 ⟨h1, f1⟩ => ?_
    cases e <;> first | exact ⟨h1, f1⟩ | skip
    exact Gives.of_code.wpC_mono b (wpC_fr b (fun k hk => hw k (.inr hk)) h1) fun e s2 ⟨h2, f2⟩ => ⟨h2, f1.trans f2⟩
  | .cond x a b, Q, s, hw, h => by
    simp only [writesC, List.mem_append] at hw
    obtain ⟨v, h1, h2, h3⟩ := h
    exact ⟨v, h1, fun e => wpC_fr a (fun k hk => hw k (.inl hk)) (h2 e), fun e => wpC_fr b (fun k hk => hw k (.inr hk)) (h3 e)⟩
  | .block id b, Q, s, hw, h => by
    refine Gives.of_code.wpC_mono b (wpC_fr b hw h) fun e s1 ⟨h1, f1⟩ => ?_
    cases e <;> first | exact ⟨h1, f1⟩ | skip
    simp only [inBlockL] at h1 ⊢
    split
    · rename_i hid; rw [if_pos hid] at h1; exact ⟨h1, f1⟩
    · rename_i hid; rw [if_neg hid] at h1; exact ⟨h1, f1⟩
  | .loop b, Q, s, hw, h => by
    obtain ⟨I, k0, h0, hr⟩ := h
    refine ⟨fun k s' => I k s' ∧ Fr W s.t s'.t, k0, ⟨h0, Fr.refl W _⟩, fun k s1 ⟨hI, f1⟩ => ?_⟩
    refine Gives.of_code.wpC_mono b (wpC_fr b hw (hr k s1 hI)) fun e s2 ⟨h2, f2⟩ => ?_
    cases e <;> first | exact ⟨h2, f1.trans f2⟩ | skip
    obtain ⟨k', hlt, h3⟩ := h2
    exact ⟨k', hlt, h3, f1.trans f2⟩
  | .exit id, Q, s, _, h => ⟨h, Fr.refl W _⟩
  | .ret, Q, s, _, h => ⟨h, Fr.refl W _⟩

/-- a loop: of what it does not write nothing need be said -/
theorem wpC_loopW {b : C} {Q : Exit → St → Prop} {s : St} (J : Nat → (Nat → LV) → List Box → Prop) (k0 : Nat) (h0 : J k0 s.t s.h)
    (hr : ∀ k t h, (∀ j, ((writesC b).contains j) = false → t j = s.t j) → J k t h → wpC P b (thenL (fun s' => ∃ k', k' < k ∧ J k' s'.t s'.h) Q) ⟨t, h⟩) : wpC P (.loop b) Q s := by
  refine ⟨fun k s' => J k s'.t s'.h ∧ Fr (writesC b) s.t s'.t, k0, ⟨h0, Fr.refl _ _⟩, fun k s1 ⟨hJ, f1⟩ => ?_⟩
  have h1 := hr k s1.t s1.h (fun j hj => f1 j (by simpa using hj)) hJ
  refine Gives.of_code.wpC_mono b (wpC_fr b (fun k hk => hk) h1) fun e s2 ⟨h2, f2⟩ => ?_
  cases e <;> first | exact h2 | skip
  obtain ⟨k', hlt, h3⟩ := h2
  exact ⟨k', hlt, h3, f1.trans f2⟩

/-- a row of instructions, cut: what it leads to is said of the slots that count -/
theorem wpL_mid {gs : List GI} {K : St → Prop} {s : St} (M : (Nat → LV) → List Box → Prop) (h : wpL P gs (fun s' => M s'.t s'.h) s)
    (hk : ∀ t h, (∀ j, ((writesG gs).contains j) = false → t j = s.t j) → M t h → K ⟨t, h⟩) : wpL P gs K s :=
  Gives.of_code.wpL_mono gs (wpL_fr (W := writesG gs) gs (fun k hk => hk) h) fun s' ⟨h1, f1⟩ => hk s'.t s'.h (fun j hj => f1 j (by simpa using hj)) h1
/-- code, cut -/
theorem wpC_mid {c : C} {Q : Exit → St → Prop} {s : St} (M : (Nat → LV) → List Box → Prop) (h : wpC P c (fun e s' => match e with | .normal => M s'.t s'.h | e => Q e s') s)
    (hk : ∀ t h, (∀ j, ((writesC c).contains j) = false → t j = s.t j) → M t h → Q .normal ⟨t, h⟩) : wpC P c Q s := by
  refine Gives.of_code.wpC_mono c (wpC_fr (W := writesC c) c (fun k hk => hk) h) fun e s' ⟨h1, f1⟩ => ?_
  cases e <;> first | exact h1 | skip
  exact hk s'.t s'.h (fun j hj => f1 j (by simpa using hj)) h1
/-- a loop in its block: what it leads to where it is left is said of the slots that count -/
theorem wpC_loopM {b : C} {id : Nat} {Q : Exit → St → Prop} {s : St} (J : Nat → (Nat → LV) → List Box → Prop) (M : (Nat → LV) → List Box → Prop) (k0 : Nat) (h0 : J k0 s.t s.h)
    (hr : ∀ k t h, (∀ j, ((writesC b).contains j) = false → t j = s.t j) → J k t h → wpC P b (thenL (fun s' => ∃ k', k' < k ∧ J k' s'.t s'.h) (inBlockL id (thenL (fun s' => M s'.t s'.h) Q))) ⟨t, h⟩)
    (hk : ∀ t h, (∀ j, ((writesC b).contains j) = false → t j = s.t j) → M t h → Q .normal ⟨t, h⟩) : wpC P (.loop b) (inBlockL id Q) s := by
  have h1 := wpC_loopW (Q := inBlockL id (thenL (fun s' => M s'.t s'.h) Q)) J k0 h0 hr
  have h2 := wpC_fr (W := writesC b) (.loop b) (fun k hk => hk) h1
  refine Gives.of_code.wpC_mono (.loop b) h2 fun e s' ⟨h3, f1⟩ => ?_
  have hf : ∀ j, ((writesC b).contains j) = false → s'.t j = s.t j := fun j hj => f1 j (by simpa using hj)
  cases e <;> first | exact hk _ _ hf h3 | exact h3 | skip
  · simp only [inBlockL] at h3 ⊢
    split
    · rename_i hid; rw [if_pos hid] at h3; exact hk _ _ hf h3
    · rename_i hid; rw [if_neg hid] at h3; exact h3
/-- a loop that counts up to n -/
theorem wpC_for {b : C} {Q : Exit → St → Prop} {s : St} (n i0 : Nat) (J : Nat → (Nat → LV) → List Box → Prop) (h0 : J i0 s.t s.h) (hi0 : i0 ≤ n)
    (hr : ∀ i t h, (∀ j, ((writesC b).contains j) = false → t j = s.t j) → i ≤ n → J i t h → wpC P b (thenL (fun s' => i < n ∧ J (i + 1) s'.t s'.h) Q) ⟨t, h⟩) : wpC P (.loop b) Q s := by
  refine wpC_loopW (fun k t h => ∃ i, k = n - i ∧ i ≤ n ∧ J i t h) (n - i0) ⟨i0, rfl, hi0, h0⟩ ?_
  rintro k t h hf ⟨i, rfl, hi, hJ⟩
  refine Gives.of_code.wpC_mono b (hr i t h hf hi hJ) fun e s' hs => ?_
  cases e <;> first | exact hs | skip
  exact ⟨n - (i + 1), by have := hs.1; omega, i + 1, rfl, hs.1, hs.2⟩
theorem wpC_forM {b : C} {id : Nat} {Q : Exit → St → Prop} {s : St} (n i0 : Nat) (J : Nat → (Nat → LV) → List Box → Prop) (M : (Nat → LV) → List Box → Prop) (h0 : J i0 s.t s.h) (hi0 : i0 ≤ n)
    (hr : ∀ i t h, (∀ j, ((writesC b).contains j) = false → t j = s.t j) → i ≤ n → J i t h → wpC P b (thenL (fun s' => i < n ∧ J (i + 1) s'.t s'.h) (inBlockL id (thenL (fun s' => M s'.t s'.h) Q))) ⟨t, h⟩)
    (hk : ∀ t h, (∀ j, ((writesC b).contains j) = false → t j = s.t j) → M t h → Q .normal ⟨t, h⟩) : wpC P (.loop b) (inBlockL id Q) s := by
  refine wpC_loopM (fun k t h => ∃ i, k = n - i ∧ i ≤ n ∧ J i t h) M (n - i0) ⟨i0, rfl, hi0, h0⟩ ?_ hk
  rintro k t h hf ⟨i, rfl, hi, hJ⟩
  refine Gives.of_code.wpC_mono b (hr i t h hf hi hJ) fun e s' hs => ?_
  cases e <;> first | exact hs | skip
  exact ⟨n - (i + 1), by have := hs.1; omega, i + 1, rfl, hs.1, hs.2⟩
/-- two pieces of code, cut between them -/
theorem wpC_cut {a b : C} {Q : Exit → St → Prop} {s : St} (M : (Nat → LV) → List Box → Prop) (h : wpC P a (thenL (fun s' => M s'.t s'.h) Q) s)
    (hk : ∀ t h, (∀ j, ((writesC a).contains j) = false → t j = s.t j) → M t h → wpC P b Q ⟨t, h⟩) : wpC P (.seq a b) Q s := by
  show wpC P a (thenL (wpC P b Q) Q) s
  refine wpC_mid M (Gives.of_code.wpC_mono a h fun e s' hs => ?_) hk
  cases e <;> exact hs
end
end Go.TL
