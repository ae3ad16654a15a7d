/- Variables settled at the end of a call, and results of any call taken as variables. No program, no conditions. -/
import Derived.Test.YticcekapikfhaaaTLM
namespace Go.TL

mutual
/-- t is what y becomes when all variables that are y's own are settled: h before, h1 behind it -/
def Fz : LV → LV → List Box → List Box → Prop
  | .sl u nl sz rows, y, h, h1 => (y = .sl u nl sz rows ∧ h1 = h) ∨
      (u = true ∧ nl = false ∧ ∃ l cap cells rest, y = .ha l sz 0 rows.length cap ∧ h[l]? = some (some (cells ++ rest)) ∧ rows.length ≤ cap ∧ (cells ++ rest).length = cap * sz ∧ FzRow rows sz cells (h.set l none) h1)
  | .rp ys, y, h, h1 => (y = .rp ys ∧ h1 = h) ∨ ∃ l xs, y = .ptr l 0 ∧ h[l]? = some (some xs) ∧ FzAll ys xs (h.set l none) h1
  | .agg ys, y, h, h1 => ∃ xs, y = .agg xs ∧ FzAll ys xs h h1
  | .tup ys, y, h, h1 => ∃ xs, y = .tup xs ∧ FzAll ys xs h h1
  | t, y, h, h1 => y = t ∧ h1 = h
def FzRow : List (List LV) → Nat → List LV → List Box → List Box → Prop
  | [], _, cells, h, h1 => cells = [] ∧ h1 = h
  | row :: rows, sz, cells, h, h1 => ∃ c1 c2 h', cells = c1 ++ c2 ∧ row.length = sz ∧ FzAll row c1 h h' ∧ FzRow rows sz c2 h' h1
def FzAll : List LV → List LV → List Box → List Box → Prop
  | [], xs, h, h1 => xs = [] ∧ h1 = h
  | y :: ys, xs, h, h1 => ∃ x xs' h', xs = x :: xs' ∧ Fz y x h h' ∧ FzAll ys xs' h' h1
end

theorem fzAll_length : ∀ (ys xs : List LV) (h h1 : List Box), FzAll ys xs h h1 → xs.length = ys.length
  | [], xs, h, h1, hz => by simp only [FzAll] at hz; rw [hz.1]
  | y :: ys, xs, h, h1, hz => by
    simp only [FzAll] at hz
    obtain ⟨u, us, h', rfl, _, z2⟩ := hz
    simp [fzAll_length ys us h' h1 z2]
theorem fzRow_length : ∀ (rows : List (List LV)) (sz : Nat) (cells : List LV) (h h1 : List Box), FzRow rows sz cells h h1 → cells.length = rows.length * sz
  | [], sz, cells, h, h1, hz => by simp only [FzRow] at hz; rw [hz.1]; simp
  | row :: rows, sz, cells, h, h1, hz => by
    simp only [FzRow] at hz
    obtain ⟨c1, c2, h', rfl, hs, z1, z2⟩ := hz
    have e1 := fzAll_length row c1 h h' z1
    have e2 := fzRow_length rows sz c2 h' h1 z2
    rw [List.length_append, List.length_cons, Nat.add_mul, e1, e2, hs]; omega
section
variable {x : Cx} {w : World} {μ : List Nat}

/-- what has become of a value whose variables were settled -/
def Frozen (x : Cx) (w : World) (μ : List Nat) (B : GM) (h1 : List Box) (E : List Own) (Rv : GM → List Own → Prop) : Prop :=
  ∃ B' OH' O', St' x w B' μ h1 OH' (O' ++ E) ∧ B.Le B' ∧ Rv B' O'

theorem fz_box {B : GM} {h : List Box} {OH : List (List Own)} {O : List Own} (s : St' x w B μ h OH O) {l : Nat} {xs : List LV} (hl : h[l]? = some (some xs)) (m : Nat) (hm : m ≤ xs.length) :
    ∃ (c : Array Value) (e : TypeId) (Oc : List Own) (vs : List Value), w.heap[μ.getD l 0]? = some (.cells c e (0, 0)) ∧ c.size = xs.length ∧ (∀ p : Own → Bool, Oc.countP p ≤ (OH.getD l []).countP p) ∧
      RepVals (B.put (μ.getD l 0) 0 m c) μ (xs.take m) vs Oc ∧ (∀ j v, vs[j]? = some v → B.put (μ.getD l 0) 0 m c (μ.getD l 0) j = some v ∧ v.oneCell' = true) ∧ vs.length = m ∧ B.Le (B.put (μ.getD l 0) 0 m c) := by
  obtain ⟨c, e, hc, hxs, hone⟩ := s.inv.box l xs hl
  have hcl : c.size = xs.length := by rw [← hxs.length, Array.length_toList]
  have hlv : Live μ h (μ.getD l 0) := ⟨l, xs, hl, rfl⟩
  have hle : B.Le (B.put (μ.getD l 0) 0 m c) := GM.put_le (fun i _ => s.inv.loose _ hlv i)
  have h2 := RepVals.mono (ν := []) hle xs c.toList _ hxs
  rw [List.append_nil, ← List.take_append_drop m xs] at h2
  obtain ⟨v1, v2, Oc, Or, e1, e2, k1, k2⟩ := h2.split
  have l1 := k1.length
  rw [List.length_take, Nat.min_eq_left hm] at l1
  refine ⟨c, e, Oc, v1, hc, hcl, fun p => by rw [e2, List.countP_append]; omega, k1, fun j v hj => ?_, l1, hle⟩
  have hjl : j < v1.length := by
    rcases Nat.lt_or_ge j v1.length with g | g
    · exact g
    · rw [List.getElem?_eq_none (by simpa using g)] at hj; simp at hj
  have hj' : c[j]? = some v := by
    rw [← Array.getElem?_toList, e1, List.getElem?_append_left hjl]; exact hj
  refine ⟨?_, hone v (List.mem_of_getElem? (by rw [Array.getElem?_toList]; exact hj'))⟩
  unfold GM.put
  rw [if_pos (by omega)]
  exact hj'
theorem St'.le {B : GM} {h : List Box} {OH : List (List Own)} {O O2 : List Own} (s : St' x w B μ h OH O) (hf : Fewer O2 O) : St' x w B μ h OH O2 := s.fewer hf

mutual
theorem freeze_val : ∀ (t y : LV) (h h1 : List Box) (B : GM) (OH : List (List Own)) (O : List Own) (v : Value) (Ov E : List Own), Fz t y h h1 → St' x w B μ h OH O → Rep B μ y v Ov →
    (∀ p : Own → Bool, Ov.countP p + E.countP p ≤ O.countP p) → Frozen x w μ B h1 E fun B' O' => Rep B' μ t v O'
  | .sl u nl sz rows, y, h, h1, B, OH, O, v, Ov, E, hz, s, hr, hf => by
    simp only [Fz] at hz
    rcases hz with ⟨rfl, rfl⟩ | ⟨rfl, rfl, l, cap, cells, rest, rfl, hl, hcap, hlen, hz⟩
    · exact ⟨B, OH, Ov, s.le (fun p => by have := hf p; simp only [List.countP_append]; omega), fun _ _ _ h => h, hr⟩
    · simp only [Rep] at hr
      obtain ⟨rfl, hlμ, rfl⟩ := hr
      have hclen := fzRow_length rows sz cells _ _ hz
      obtain ⟨c, e, Oc, vs, hc, hcs, hOc, hvs, hAt, hvl, hle⟩ := fz_box s hl (rows.length * sz) (by rw [List.length_append]; omega)
      rw [List.take_append_of_le_length (by omega), List.take_of_length_le (by omega)] at hvs
      have s1 := s.settle hl (Oc ++ ((μ.getD l 0, rows.length * sz, c.size) :: E)) hc (rows.length * sz) (fun p => by
        have h1 := hf p
        have h2 := hOc p
        simp only [List.countP_append, List.countP_cons, List.countP_nil] at h1 ⊢
        omega)
      obtain ⟨B', OH', O', s2, hle2, hr2, hrows⟩ := freeze_row rows sz cells (h.set l none) h1 _ _ _ vs Oc ((μ.getD l 0, rows.length * sz, c.size) :: E) hz s1 hvs (fun p => by simp only [List.countP_append]; omega)
      refine ⟨B', OH', (μ.getD l 0, rows.length * sz, c.size) :: O', s2.le (fun p => by simp only [List.countP_append, List.countP_cons]; omega), fun b i v hv => hle2 b i v (hle b i v hv), ?_⟩
      simp only [Rep]
      refine .inr ⟨trivial, _, 0, none, cap, O', by rw [Nat.zero_mul], .inl rfl, hcap, RepRow.of_vals hrows hr2 (fun j u hj => ?_), .inl ⟨trivial, rfl, by rw [hcs, hlen]⟩⟩
      obtain ⟨q1, q2⟩ := hAt j u hj
      exact ⟨by rw [Nat.zero_add]; exact hle2 _ _ _ q1, q2⟩
  | .rp ys, y, h, h1, B, OH, O, v, Ov, E, hz, s, hr, hf => by
    simp only [Fz] at hz
    rcases hz with ⟨rfl, rfl⟩ | ⟨l, xs, rfl, hl, hz⟩
    · exact ⟨B, OH, Ov, s.le (fun p => by have := hf p; simp only [List.countP_append]; omega), fun _ _ _ h => h, hr⟩
    · simp only [Rep] at hr
      obtain ⟨rfl, hlμ, rfl⟩ := hr
      obtain ⟨c, e, Oc, vs, hc, hcs, hOc, hvs, hAt, hvl, hle⟩ := fz_box s hl xs.length (Nat.le_refl _)
      rw [List.take_of_length_le (Nat.le_refl _)] at hvs
      have s1 := s.settle hl (Oc ++ E) hc xs.length (fun p => by
        have h1 := hf p
        have h2 := hOc p
        simp only [List.countP_append, List.countP_nil] at h1 ⊢
        omega)
      obtain ⟨B', OH', O', s2, hle2, hr2⟩ := freeze_all ys xs (h.set l none) h1 _ _ _ vs Oc E hz s1 hvs (fun p => by simp only [List.countP_append]; omega)
      refine ⟨B', OH', O', s2, fun b i v hv => hle2 b i v (hle b i v hv), ?_⟩
      simp only [Rep]
      refine ⟨_, 0, rfl, RepCells.of hr2 fun j u hj => ?_⟩
      obtain ⟨q1, q2⟩ := hAt j u hj
      exact ⟨by rw [Nat.zero_add]; exact hle2 _ _ _ q1, q2⟩
  | .agg ys, y, h, h1, B, OH, O, v, Ov, E, hz, s, hr, hf => by
    simp only [Fz] at hz
    obtain ⟨xs, rfl, hz⟩ := hz
    simp only [Rep] at hr
    obtain ⟨vs, rfl, h0, h2⟩ := hr
    obtain ⟨B', OH', O', s2, hle2, hr2⟩ := freeze_all ys xs h h1 B OH O vs Ov E hz s h2 hf
    exact ⟨B', OH', O', s2, hle2, by simp only [Rep]; exact ⟨vs, rfl, h0, hr2⟩⟩
  | .tup ys, y, h, h1, B, OH, O, v, Ov, E, hz, s, hr, hf => by
    simp only [Fz] at hz
    obtain ⟨xs, rfl, hz⟩ := hz
    simp only [Rep] at hr
    obtain ⟨vs, rfl, h2⟩ := hr
    obtain ⟨B', OH', O', s2, hle2, hr2⟩ := freeze_all ys xs h h1 B OH O vs Ov E hz s h2 hf
    exact ⟨B', OH', O', s2, hle2, by simp only [Rep]; exact ⟨vs, rfl, hr2⟩⟩
  | .sc u, y, h, h1, B, OH, O, v, Ov, E, hz, s, hr, hf => by
    simp only [Fz] at hz; obtain ⟨rfl, rfl⟩ := hz
    exact ⟨B, OH, Ov, s.le (fun p => by have := hf p; simp only [List.countP_append]; omega), fun _ _ _ h => h, hr⟩
  | .ha _ _ _ _ _, y, h, h1, B, OH, O, v, Ov, E, hz, s, hr, hf => by
    simp only [Fz] at hz; obtain ⟨rfl, rfl⟩ := hz
    exact ⟨B, OH, Ov, s.le (fun p => by have := hf p; simp only [List.countP_append]; omega), fun _ _ _ h => h, hr⟩
  | .ptr _ _, y, h, h1, B, OH, O, v, Ov, E, hz, s, hr, hf => by
    simp only [Fz] at hz; obtain ⟨rfl, rfl⟩ := hz
    exact ⟨B, OH, Ov, s.le (fun p => by have := hf p; simp only [List.countP_append]; omega), fun _ _ _ h => h, hr⟩
  | .fn _ _, y, h, h1, B, OH, O, v, Ov, E, hz, s, hr, hf => by
    simp only [Fz] at hz; obtain ⟨rfl, rfl⟩ := hz
    exact ⟨B, OH, Ov, s.le (fun p => by have := hf p; simp only [List.countP_append]; omega), fun _ _ _ h => h, hr⟩
  | .fnm _ _, y, h, h1, B, OH, O, v, Ov, E, hz, s, hr, hf => by
    simp only [Fz] at hz; obtain ⟨rfl, rfl⟩ := hz
    exact ⟨B, OH, Ov, s.le (fun p => by have := hf p; simp only [List.countP_append]; omega), fun _ _ _ h => h, hr⟩
  | .raw _, y, h, h1, B, OH, O, v, Ov, E, hz, s, hr, hf => by
    simp only [Fz] at hz; obtain ⟨rfl, rfl⟩ := hz
    exact ⟨B, OH, Ov, s.le (fun p => by have := hf p; simp only [List.countP_append]; omega), fun _ _ _ h => h, hr⟩
  | .dead, y, h, h1, B, OH, O, v, Ov, E, hz, s, hr, hf => by
    simp only [Fz] at hz; obtain ⟨rfl, rfl⟩ := hz
    exact ⟨B, OH, Ov, s.le (fun p => by have := hf p; simp only [List.countP_append]; omega), fun _ _ _ h => h, hr⟩
  | .both _ _, y, h, h1, B, OH, O, v, Ov, E, hz, s, hr, hf => by
    simp only [Fz] at hz; obtain ⟨rfl, rfl⟩ := hz
    exact ⟨B, OH, Ov, s.le (fun p => by have := hf p; simp only [List.countP_append]; omega), fun _ _ _ h => h, hr⟩
theorem freeze_all : ∀ (ys xs : List LV) (h h1 : List Box) (B : GM) (OH : List (List Own)) (O : List Own) (vs : List Value) (Ov E : List Own), FzAll ys xs h h1 → St' x w B μ h OH O → RepVals B μ xs vs Ov →
    (∀ p : Own → Bool, Ov.countP p + E.countP p ≤ O.countP p) → Frozen x w μ B h1 E fun B' O' => RepVals B' μ ys vs O'
  | [], xs, h, h1, B, OH, O, vs, Ov, E, hz, s, hr, hf => by
    simp only [FzAll] at hz
    obtain ⟨rfl, rfl⟩ := hz
    exact ⟨B, OH, Ov, s.le (fun p => by have := hf p; simp only [List.countP_append]; omega), fun _ _ _ h => h, hr⟩
  | y :: ys, xs, h, h1, B, OH, O, vs, Ov, E, hz, s, hr, hf => by
    simp only [FzAll] at hz
    obtain ⟨u, us, h', rfl, z1, z2⟩ := hz
    simp only [RepVals] at hr
    obtain ⟨v, ws, O1, O2, rfl, rfl, k1, k2⟩ := hr
    obtain ⟨B1, OH1, O1', s1, hle1, r1⟩ := freeze_val y u h h' B OH O v O1 (O2 ++ E) z1 s k1 (fun p => by have := hf p; simp only [List.countP_append] at this ⊢; omega)
    have k2' := RepVals.mono (ν := []) hle1 us ws O2 k2
    rw [List.append_nil] at k2'
    obtain ⟨B2, OH2, O2', s2, hle2, r2⟩ := freeze_all ys us h' h1 B1 OH1 _ ws O2 (O1' ++ E) z2 s1 k2' (fun p => by simp only [List.countP_append]; omega)
    have r1' := Rep.mono (ν := []) hle2 y v O1' r1
    rw [List.append_nil] at r1'
    exact ⟨B2, OH2, O1' ++ O2', s2.le (fun p => by simp only [List.countP_append]; omega), fun b i v hv => hle2 b i v (hle1 b i v hv), by simp only [RepVals]; exact ⟨v, ws, O1', O2', rfl, rfl, r1', r2⟩⟩
theorem freeze_row : ∀ (rows : List (List LV)) (sz : Nat) (cells : List LV) (h h1 : List Box) (B : GM) (OH : List (List Own)) (O : List Own) (vs : List Value) (Ov E : List Own), FzRow rows sz cells h h1 → St' x w B μ h OH O → RepVals B μ cells vs Ov →
    (∀ p : Own → Bool, Ov.countP p + E.countP p ≤ O.countP p) → Frozen x w μ B h1 E fun B' O' => RepVals B' μ rows.flatten vs O' ∧ ∀ r ∈ rows, r.length = sz
  | [], sz, cells, h, h1, B, OH, O, vs, Ov, E, hz, s, hr, hf => by
    simp only [FzRow] at hz
    obtain ⟨rfl, rfl⟩ := hz
    exact ⟨B, OH, Ov, s.le (fun p => by have := hf p; simp only [List.countP_append]; omega), fun _ _ _ h => h, by simpa using hr, by simp⟩
  | row :: rows, sz, cells, h, h1, B, OH, O, vs, Ov, E, hz, s, hr, hf => by
    simp only [FzRow] at hz
    obtain ⟨c1, c2, h', rfl, hlen, z1, z2⟩ := hz
    obtain ⟨v1, v2, O1, O2, rfl, rfl, k1, k2⟩ := hr.split
    obtain ⟨B1, OH1, O1', s1, hle1, r1⟩ := freeze_all row c1 h h' B OH O v1 O1 (O2 ++ E) z1 s k1 (fun p => by have := hf p; simp only [List.countP_append] at this ⊢; omega)
    have k2' := RepVals.mono (ν := []) hle1 c2 v2 O2 k2
    rw [List.append_nil] at k2'
    obtain ⟨B2, OH2, O2', s2, hle2, r2, r3⟩ := freeze_row rows sz c2 h' h1 B1 OH1 _ v2 O2 (O1' ++ E) z2 s1 k2' (fun p => by simp only [List.countP_append]; omega)
    have r1' := RepVals.mono (ν := []) hle2 row v1 O1' r1
    rw [List.append_nil] at r1'
    refine ⟨B2, OH2, O1' ++ O2', s2.le (fun p => by simp only [List.countP_append]; omega), fun b i v hv => hle2 b i v (hle1 b i v hv), ?_, ?_⟩
    · rw [List.flatten_cons]; exact RepVals.app r1' r2
    · intro r hr
      rcases List.mem_cons.1 hr with rfl | hr
      · exact hlen
      · exact r3 r hr
end
end

/-- a call at whose end variables are settled, and forgotten from the m-th on -/
theorem LCalls.freeze {P : Program} {f : FuncId} {args : List LV} {h : List Box} {R : LV → List Box → Prop}
    (c : LCalls P f args h fun r h' => ∃ t h1 m, Fz t r h' h1 ∧ h.length ≤ m ∧ m ≤ h1.length ∧ Low m t ∧ (∀ l xs, l < m → h1[l]? = some (some xs) → LowAll m xs) ∧ R t (h1.take m)) : LCalls P f args h R := by
  obtain ⟨h1, ⟨r0, h0', t0, h01, m0, _, _, _, _, _, hR0⟩, h2⟩ := c
  refine ⟨h1, ⟨_, _, hR0⟩, fun w A μ OH vals Oa hv hi => (h2 w A μ OH vals Oa hv hi).mono fun e w' he => ?_⟩
  obtain ⟨v, r, h', B, ν, OH', O', g1, ⟨t, h1', m, z, m1, m2, lo, lb, hR⟩, g3, g4⟩ := he
  obtain ⟨B', OH2, O2, s2, hle, r2⟩ := freeze_val t r h' h1' B OH' (O' ++ []) v O' [] z (by rw [List.append_nil]; exact g4) g3 (fun p => by simp)
  rw [List.append_nil] at s2
  have hlen := s2.inv.len
  have hμ := hi.len
  have s3 := s2.cut m (by simp only [CallCx]; omega) lb m2
  have htk : (μ ++ ν).take m = μ ++ ν.take (m - μ.length) := by
    rw [List.take_append, List.take_of_length_le (by omega)]
  rw [htk] at s3
  refine ⟨v, t, h1'.take m, B', ν.take (m - μ.length), _, O2, g1, hR, ?_, s3⟩
  rw [← htk]
  exact Rep.low (k := m) (by simp only [List.length_take]; omega) (fun l hl => by
    rw [List.getD_eq_getElem?_getD, List.getElem?_take, if_pos hl, ← List.getD_eq_getElem?_getD]) t v O2 lo r2

/-- the same variables, the values in place of trees that one of them holds -/
def Tag (h : List Box) (l : Nat) (xs xt : List LV) (ht : List Box) : Prop := h[l]? = some (some xs) ∧ ht = h.set l (some xt)
mutual
/-- what says nothing of memory that is settled -/
def Hard : LV → Bool
  | .sc _ => true
  | .ha _ _ _ _ _ => true
  | .ptr _ _ => true
  | .dead => true
  | .both _ _ => true
  | _ => false
end
/-- x, or a value that is told of by x -/
def TagOf (x y : LV) : Prop := y = x ∨ ∃ u, y = .both u x
/-- a variable's trees told of by its values -/
theorem WInv.tag {w : World} {A : GM} {μ : List Nat} {h : List Box} {OH : List (List Own)} {O : List Own} (i : WInv w A μ h OH O) {l : Nat} {x : LV} {xs : List LV} (hl : h[l]? = some (some (x :: xs))) (hx : share x = x) :
    ∃ u, WInv w A μ (h.set l (some (.both u x :: xs))) OH O ∧ Rep A μ x u [] := by
  obtain ⟨c, e, h1, h2, h3⟩ := i.box l _ hl
  simp only [RepVals] at h2
  obtain ⟨v, ws, O1, O2, e1, e2, k1, k2⟩ := h2
  have hO1 : O1 = [] := by rw [← hx] at k1; exact Rep.shd _ _ _ k1
  subst hO1
  have hll : l < h.length := by
    rcases Nat.lt_or_ge l h.length with g | g
    · exact g
    · rw [List.getElem?_eq_none g] at hl; simp at hl
  have hlive : ∀ b, Live μ (h.set l (some (.both v x :: xs))) b ↔ Live μ h b := by
    intro b
    constructor
    · rintro ⟨k, ys, hk, hb⟩
      by_cases e : k = l
      · subst e; exact ⟨k, _, hl, hb⟩
      · rw [List.getElem?_set_ne (fun g => e g.symm)] at hk; exact ⟨k, ys, hk, hb⟩
    · rintro ⟨k, ys, hk, hb⟩
      by_cases e : k = l
      · subst e; exact ⟨k, _, List.getElem?_set_self hll, hb⟩
      · exact ⟨k, ys, by rw [List.getElem?_set_ne (fun g => e g.symm)]; exact hk, hb⟩
  have hsome : ∀ (k : Nat) (ys : List LV), (h.set l (some (.both v x :: xs)))[k]? = some (some ys) → ∃ zs : List LV, h[k]? = some (some zs) := by
    intro k ys hk
    by_cases e : k = l
    · subst e; exact ⟨_, hl⟩
    · rw [List.getElem?_set_ne (fun g => e g.symm)] at hk; exact ⟨ys, hk⟩
  refine ⟨v, ⟨by simp [i.len], by simp [i.lenO], i.cells, ?_, fun b hb => i.loose b ((hlive b).1 hb), ?_, fun b n c' hm => ?_, i.once⟩, k1⟩
  · intro k ys hk
    by_cases e' : k = l
    · subst e'
      rw [List.getElem?_set_self hll] at hk
      simp only [Option.some.injEq] at hk
      subst hk
      refine ⟨c, e, h1, ?_, h3⟩
      simp only [RepVals, Rep]
      exact ⟨v, ws, [], O2, e1, e2, ⟨rfl, rfl, k1⟩, k2⟩
    · rw [List.getElem?_set_ne (fun g => e' g.symm)] at hk
      exact i.box k ys hk
  · intro k k' ys ys' hk hk' heq
    obtain ⟨zs, hz⟩ := hsome k ys hk
    obtain ⟨zs', hz'⟩ := hsome k' ys' hk'
    exact i.apart k k' zs zs' hz hz' heq
  · obtain ⟨q1, q2, q3⟩ := i.own b n c' hm
    exact ⟨q1, q2, fun hb => q3 ((hlive b).1 hb)⟩

theorem Hard.rep {A B : GM} {μ : List Nat} : ∀ (y : LV) (v : Value) (O : List Own), Hard y = true → (∀ u x, y = .both u x → Rep A μ x u []) → Rep B μ y v O → Rep A μ y v O ∧ O = []
  | .sc _, v, O, _, _, h => by simp only [Rep] at h ⊢; exact ⟨h, h.2⟩
  | .ha _ _ _ _ _, v, O, _, _, h => by simp only [Rep] at h ⊢; exact ⟨h, h.1⟩
  | .ptr _ _, v, O, _, _, h => by simp only [Rep] at h ⊢; exact ⟨h, h.1⟩
  | .dead, v, O, _, _, h => by simp only [Rep] at h ⊢; exact ⟨h, h⟩
  | .both u x, v, O, _, hx, h => by simp only [Rep] at h ⊢; obtain ⟨h1, rfl, _⟩ := h; exact ⟨⟨h1, rfl, hx _ x rfl⟩, h1⟩
  | .sl _ _ _ _, _, _, h, _, _ => by simp [Hard] at h
  | .rp _, _, _, h, _, _ => by simp [Hard] at h
  | .fn _ _, _, _, h, _, _ => by simp [Hard] at h
  | .fnm _ _, _, _, h, _, _ => by simp [Hard] at h
  | .agg _, _, _, h, _, _ => by simp [Hard] at h
  | .tup _, _, _, h, _, _ => by simp [Hard] at h
  | .raw _, _, _, h, _, _ => by simp [Hard] at h
theorem Hard.reps {A B : GM} {μ : List Nat} : ∀ (ys : List LV) (vs : List Value) (O : List Own), ys.all Hard = true → (∀ u x, .both u x ∈ ys → Rep A μ x u []) → RepVals B μ ys vs O → RepVals A μ ys vs O ∧ O = []
  | [], vs, O, _, _, h => by simp only [RepVals] at h ⊢; exact ⟨h, h.2⟩
  | y :: ys, vs, O, hh, hx, h => by
    simp only [List.all_cons, Bool.and_eq_true] at hh
    simp only [RepVals] at h ⊢
    obtain ⟨v, ws, O1, O2, rfl, rfl, k1, k2⟩ := h
    obtain ⟨q1, rfl⟩ := Hard.rep y v O1 hh.1 (fun u x e => hx u x (by simp [e])) k1
    obtain ⟨q2, rfl⟩ := Hard.reps ys ws O2 hh.2 (fun u x e => hx u x (by simp [e])) k2
    exact ⟨⟨v, ws, [], [], rfl, rfl, q1, q2⟩, rfl⟩

theorem live_swap {μ : List Nat} {h : List Box} {l : Nat} {xs ys : List LV} (hl : h[l]? = some (some xs)) (b : Nat) : Live μ (h.set l (some ys)) b ↔ Live μ h b := by
  have hll : l < h.length := by
    rcases Nat.lt_or_ge l h.length with g | g
    · exact g
    · rw [List.getElem?_eq_none g] at hl; simp at hl
  constructor
  · rintro ⟨k, zs, hk, hb⟩
    by_cases e : k = l
    · subst e; exact ⟨k, _, hl, hb⟩
    · rw [List.getElem?_set_ne (fun g => e g.symm)] at hk; exact ⟨k, zs, hk, hb⟩
  · rintro ⟨k, zs, hk, hb⟩
    by_cases e : k = l
    · subst e; exact ⟨k, _, List.getElem?_set_self hll, hb⟩
    · exact ⟨k, zs, by rw [List.getElem?_set_ne (fun g => e g.symm)]; exact hk, hb⟩
/-- a variable's trees told of anew -/
theorem St'.retell {x : Cx} {w : World} {A : GM} {μ : List Nat} {h : List Box} {OH : List (List Own)} {O : List Own} (s : St' x w A μ h OH O) {l : Nat} {xs ys : List LV} (hl : h[l]? = some (some xs))
    (hr : ∀ vs O, RepVals A μ xs vs O → RepVals A μ ys vs O) : St' x w A μ (h.set l (some ys)) OH O := by
  have hll : l < h.length := by
    rcases Nat.lt_or_ge l h.length with g | g
    · exact g
    · rw [List.getElem?_eq_none g] at hl; simp at hl
  have hsome : ∀ (k : Nat) (zs : List LV), (h.set l (some ys))[k]? = some (some zs) → ∃ zs' : List LV, h[k]? = some (some zs') := by
    intro k zs hk
    by_cases e : k = l
    · subst e; exact ⟨_, hl⟩
    · rw [List.getElem?_set_ne (fun g => e g.symm)] at hk; exact ⟨zs, hk⟩
  refine ⟨⟨by simp [s.inv.len], by simp [s.inv.lenO], s.inv.cells, ?_, fun b hb => s.inv.loose b ((live_swap hl b).1 hb), ?_, fun b n c' hm => ?_, s.inv.once⟩, ⟨s.since.size, s.since.kept, s.since.ownT, fun b hb => s.since.liveT b ((live_swap hl b).1 hb), s.since.le, s.since.ext, s.since.still⟩⟩
  · intro k zs hk
    by_cases e' : k = l
    · subst e'
      rw [List.getElem?_set_self hll] at hk
      simp only [Option.some.injEq] at hk
      subst hk
      obtain ⟨c, e, q1, q2, q3⟩ := s.inv.box k _ hl
      exact ⟨c, e, q1, hr _ _ q2, q3⟩
    · rw [List.getElem?_set_ne (fun g => e' g.symm)] at hk
      exact s.inv.box k zs hk
  · intro k k' zs zs' hk hk' heq
    obtain ⟨us, hz⟩ := hsome k zs hk
    obtain ⟨us', hz'⟩ := hsome k' zs' hk'
    exact s.inv.apart k k' us us' hz hz' heq
  · obtain ⟨q1, q2, q3⟩ := s.inv.own b n c' hm
    exact ⟨q1, q2, fun hb => q3 ((live_swap hl b).1 hb)⟩
/-- more old blocks may be turned -/
theorem St'.wider {x y : Cx} {w : World} {A : GM} {μ : List Nat} {h : List Box} {OH : List (List Own)} {O : List Own} (s : St' x w A μ h OH O) (h1 : y.w0 = x.w0) (h2 : y.A0 = x.A0) (h3 : y.μ0 = x.μ0) (h4 : ∀ b, x.T0 b → y.T0 b) : St' y w A μ h OH O :=
  ⟨s.inv, ⟨by rw [h1]; exact s.since.size, fun b hb ht => by rw [h1] at hb ⊢; rw [h2]; exact s.since.kept b hb (fun h => ht (h4 b h)), fun b n c hm => by rw [h1]; exact (s.since.ownT b n c hm).imp id (h4 b), fun b hb => by rw [h1]; exact (s.since.liveT b hb).imp id (h4 b),
    by rw [h2]; exact s.since.le, by rw [h3]; exact s.since.ext, by rw [h1]; exact s.since.still⟩⟩
/-- what is owned by variables that are no more is let go -/
theorem WInv.letgo {w : World} {A : GM} {μ : List Nat} {h : List Box} {OH : List (List Own)} {O : List Own} (i : WInv w A μ h OH O) (hO : ∀ (k : Nat) (ys : List LV), h[k]? = some (some ys) → OH.getD k [] = []) : WInv w A μ h (List.replicate h.length []) O := by
  have hf : (List.replicate h.length ([] : List Own)).flatten = [] := by simp
  refine ⟨i.len, by simp, i.cells, fun l xs hl => ?_, i.loose, i.apart, fun b n c hm => ?_, fun b => ?_⟩
  · obtain ⟨c, e, q1, q2, q3⟩ := i.box l xs hl
    rw [hO l xs hl] at q2
    refine ⟨c, e, q1, ?_, q3⟩
    have : (List.replicate h.length ([] : List Own)).getD l [] = [] := by
      rw [List.getD_eq_getElem?_getD, List.getElem?_replicate]
      split <;> rfl
    rw [this]; exact q2
  · rw [hf, List.append_nil] at hm
    exact i.own b n c (List.mem_append.2 (.inl hm))
  · rw [hf, List.append_nil]
    have := i.once b
    simp only [List.countP_append] at this
    omega
/-- a call that turns one variable alone, and whose result is taken as variables of one's own: that variable's first cell is a value that is told of, all else that variables hold is scalar or variables -/
theorem LCalls.thawB {P : Program} {f : FuncId} {args : List LV} {h : List Box} {l : Nat} {u : Value} {x : LV} {xs : List LV} {Q : LV → List LV → Prop}
    (c : LCalls P f args h fun r h' => ∃ xs', Q r xs' ∧ h' = h.set l (some (.both u x :: xs')))
    (ha : shareAll args = args) (hl : h[l]? = some (some (.both u x :: xs))) (hard : ∀ (k : Nat) (ys : List LV), k ≠ l → h[k]? = some (some ys) → ys.all Hard = true ∧ ∀ u z, LV.both u z ∉ ys) (hxs : xs.all Hard = true ∧ ∀ u z, LV.both u z ∉ xs)
    (hQ : ∀ r xs', Q r xs' → Whole r ∧ xs'.all Hard = true ∧ ∀ u z, LV.both u z ∉ xs') :
    LCalls P f args h (fun y h' => ∃ t xs' bs, Q t xs' ∧ Th t h.length y bs ∧ h' = h.set l (some (.both u x :: xs')) ++ bs) := by
  have hll : l < h.length := by
    rcases Nat.lt_or_ge l h.length with g | g
    · exact g
    · rw [List.getElem?_eq_none g] at hl; simp at hl
  have c' := c
  obtain ⟨h1, ⟨r0, _, xs0, hq0, _⟩, _⟩ := c'
  refine ⟨h1, ?_, fun w A μ OH vals Oa hr hi => ?_⟩
  · obtain ⟨y, bs, hy⟩ := th_ex r0 (hQ r0 xs0 hq0).1 h.length
    exact ⟨y, _, r0, xs0, bs, hq0, hy, rfl⟩
  have hOa : Oa = [] := by rw [← ha] at hr; exact RepVals.shd _ _ _ hr
  subst hOa
  have hu : Rep A μ x u [] := by
    obtain ⟨c0, e0, _, q2, _⟩ := hi.box l _ hl
    simp only [RepVals, Rep] at q2
    obtain ⟨v, ws, O1, O2, _, _, ⟨_, e, k⟩, _⟩ := q2
    rw [e] at k; exact k
  have hbothL : ∀ (xs : List LV), (xs.all Hard = true ∧ ∀ u z, LV.both u z ∉ xs) → (LV.both u x :: xs).all Hard = true ∧ ∀ u' x', LV.both u' x' ∈ LV.both u x :: xs → Rep A μ x' u' [] := fun xs hxs => by
    refine ⟨by simp [Hard, hxs.1], fun u' x' hm => ?_⟩
    rcases List.mem_cons.1 hm with e | hm
    · simp only [LV.both.injEq] at e; obtain ⟨rfl, rfl⟩ := e; exact hu
    · exact absurd hm (hxs.2 u' x')
  -- all that variables hold owns nothing
  have hO : ∀ (k : Nat) (ys : List LV), h[k]? = some (some ys) → OH.getD k [] = [] := by
    intro k ys hk
    obtain ⟨c0, e0, _, q2, _⟩ := hi.box k ys hk
    by_cases e : k = l
    · subst e
      rw [hl] at hk
      simp only [Option.some.injEq] at hk
      subst hk
      obtain ⟨b1, b2⟩ := hbothL xs hxs
      exact (Hard.reps (A := A) _ _ _ b1 b2 q2).2
    · obtain ⟨b1, b2⟩ := hard k ys e hk
      exact (Hard.reps (A := A) _ _ _ b1 (fun u' x' hm => absurd hm (b2 u' x')) q2).2
  have hi2 := hi.letgo hO
  have cc := c.2.2 w A μ _ vals [] hr hi2
  refine cc.mono fun e w' he => ?_
  obtain ⟨v, r, h', B, ν, OH', O', g1, ⟨xs', hq, rfl⟩, g3, g4⟩ := he
  obtain ⟨hw, hxs', hnb'⟩ := hQ r xs' hq
  have hν : ν = [] := by
    have h5 := g4.inv.len
    have h6 := hi.len
    simp only [List.length_append, List.length_set] at h5
    exact List.eq_nil_of_length_eq_zero (by omega)
  subst hν
  rw [List.append_nil] at g3 g4
  have hnew : ∀ b, Owns O' b → w.heap.size ≤ b := by
    rintro b ⟨m, k, hm⟩
    rcases g4.since.ownT b m k (List.mem_append.2 (.inl hm)) with g | g
    · exact g
    · rcases g with g | ⟨m', k', g⟩
      · exact absurd ((live_swap hl b).2 g) (g4.inv.own b m k (List.mem_append.2 (.inl hm))).2.2
      · simp at g
  have hboth : ∀ (k : Nat) (ys : List LV), (h.set l (some (.both u x :: xs')))[k]? = some (some ys) → ys.all Hard = true ∧ ∀ u' x', LV.both u' x' ∈ ys → Rep A μ x' u' [] := by
    intro k ys hk
    by_cases e : k = l
    · subst e
      rw [List.getElem?_set_self hll] at hk
      simp only [Option.some.injEq] at hk
      subst hk
      exact hbothL xs' ⟨hxs', hnb'⟩
    · rw [List.getElem?_set_ne (fun g => e g.symm)] at hk
      obtain ⟨b1, b2⟩ := hard k ys e hk
      exact ⟨b1, fun u' x' hm => absurd hm (b2 u' x')⟩
  have hbx : BoxIn w' A μ (h.set l (some (.both u x :: xs'))) OH' := by
    intro k ys hk
    obtain ⟨c0, e0, q1, q2, q3⟩ := g4.inv.box k ys hk
    obtain ⟨b1, b2⟩ := hboth k ys hk
    exact ⟨c0, e0, q1, (Hard.reps _ _ _ b1 b2 q2).1, q3⟩
  obtain ⟨B', ν2, bs, s2, _, _, _, y, hth, hy⟩ := thaw_val (A1 := A) r B μ _ OH' O' v O' [] hw g4 g4.since.le hbx g3 (fun p => by simp) (fun b hb => ⟨hnew b hb, fun i => hi.unsettled (hnew b hb) i, fun i => hi.unsettled (hnew b hb) i⟩)
  have hyB := Rep.mono (ν := []) (show A.Le B' by assumption) y v [] hy
  rw [List.append_nil] at hyB
  refine ⟨v, y, _, B', ν2, _, [], g1, ⟨r, xs', bs, hq, by simpa using hth, rfl⟩, hyB, s2.wider rfl rfl rfl fun b hb => ?_⟩
  rcases hb with hb | ⟨m, k, hb⟩
  · exact .inl hb
  · simp at hb
/-- a call before which a value is told of by a tree: behind it the tree stands again -/
theorem LCalls.untag {P : Program} {f : FuncId} {args : List LV} {h : List Box} {l : Nat} {x : LV} {xs : List LV} {R : LV → List Box → Prop} (hl : h[l]? = some (some (x :: xs))) (hx : share x = x)
    (c : ∀ u, LCalls P f args (h.set l (some (.both u x :: xs))) (fun r h' => ∃ xs', h'[l]? = some (some (.both u x :: xs')) ∧ R r (h'.set l (some (x :: xs'))))) : LCalls P f args h R := by
  obtain ⟨h1, ⟨r0, h0, xs0, _, hR0⟩, _⟩ := c default
  refine ⟨h1, ⟨_, _, hR0⟩, fun w A μ OH vals Oa hr hi => ?_⟩
  obtain ⟨u, hi1, hu⟩ := hi.tag hl hx
  refine ((c u).2.2 w A μ OH vals Oa hr hi1).mono fun e w' he => ?_
  obtain ⟨v, r, h', B, ν, OH', O', g1, ⟨xs', hl', hR⟩, g3, g4⟩ := he
  have s3 := g4.retell (ys := x :: xs') hl' (fun vs O hv => by
    simp only [RepVals, Rep] at hv ⊢
    obtain ⟨v0, ws, O1, O2, e1, e2, ⟨k0, k1, k2⟩, k3⟩ := hv
    subst k0
    subst k1
    exact ⟨_, ws, [], O2, e1, e2, k2, k3⟩)
  refine ⟨v, r, _, B, ν, OH', O', g1, hR, g3, s3.wider rfl rfl rfl fun b hb => ?_⟩
  exact hb.imp (live_swap hl b).1 id
end Go.TL
