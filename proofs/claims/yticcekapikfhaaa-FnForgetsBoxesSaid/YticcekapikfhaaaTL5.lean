/- The instructions say what the operations do: variables, loads and stores. No program, no conditions. -/
import Derived.Test.YticcekapikfhaaaTL4
namespace Go.TL

theorem RepVals.dead {A : GM} {μ : List Nat} : ∀ vs : List Value, RepVals A μ (List.replicate vs.length .dead) vs []
  | [] => by simp [RepVals]
  | v :: vs => by
    simp only [List.length_cons, List.replicate_succ, RepVals]
    exact ⟨v, vs, [], [], rfl, rfl, by simp [Rep], RepVals.dead vs⟩


mutual
theorem shareShare : ∀ x : LV, share (share x) = share x
  | .sc v => by simp only [share]
  | .sl u nl sz xs => by simp only [share]; rw [shareShareRow xs]
  | .ha l sz off n cap => by simp only [share]
  | .raw sz => by simp only [share]
  | .ptr l o => by simp only [share]
  | .rp xs => by simp only [share]; rw [shareShareAll xs]
  | .fn f xs => by simp only [share]; rw [shareShareAll xs]
  | .fnm f xs => by simp only [share]; rw [shareShareAll xs]
  | .agg xs => by simp only [share]; rw [shareShareAll xs]
  | .tup xs => by simp only [share]; rw [shareShareAll xs]
  | .dead => by simp only [share]
  | .both _ t => by simp only [share]; exact shareShare t
theorem shareShareAll : ∀ xs : List LV, shareAll (shareAll xs) = shareAll xs
  | [] => by simp only [shareAll]
  | x :: xs => by simp only [shareAll]; rw [shareShare x, shareShareAll xs]
theorem shareShareRow : ∀ xs : List (List LV), shareRow (shareRow xs) = shareRow xs
  | [] => by simp only [shareRow]
  | x :: xs => by simp only [shareRow]; rw [shareShareAll x, shareShareRow xs]
end

section
variable {A : GM} {μ : List Nat}

theorem RepVals.length : ∀ {xs : List LV} {vs : List Value} {O : List Own}, RepVals A μ xs vs O → vs.length = xs.length
  | [], vs, O, h => by simp only [RepVals] at h; simp [h.1]
  | x :: xs, vs, O, h => by
    simp only [RepVals] at h
    obtain ⟨v, ws, O1, O2, rfl, _, _, h4⟩ := h
    simp [RepVals.length h4]

theorem RepVals.app : ∀ {xs ys : List LV} {vs ws : List Value} {O1 O2 : List Own}, RepVals A μ xs vs O1 → RepVals A μ ys ws O2 → RepVals A μ (xs ++ ys) (vs ++ ws) (O1 ++ O2)
  | [], _, _, _, _, _, h, k => by simp only [RepVals] at h; simpa [h.1, h.2] using k
  | x :: xs, _, _, _, _, _, h, k => by
    simp only [RepVals] at h
    obtain ⟨v, ws, P1, P2, rfl, rfl, h3, h4⟩ := h
    simp only [List.cons_append, RepVals]
    exact ⟨v, _, P1, P2 ++ _, rfl, by rw [List.append_assoc], h3, RepVals.app h4 k⟩

theorem RepVals.split : ∀ {xs ys : List LV} {vs : List Value} {O : List Own}, RepVals A μ (xs ++ ys) vs O →
    ∃ vs1 vs2 O1 O2, vs = vs1 ++ vs2 ∧ O = O1 ++ O2 ∧ RepVals A μ xs vs1 O1 ∧ RepVals A μ ys vs2 O2
  | [], _, vs, O, h => ⟨[], vs, [], O, rfl, rfl, by simp [RepVals], h⟩
  | x :: xs, ys, vs, O, h => by
    simp only [List.cons_append, RepVals] at h
    obtain ⟨v, ws, P1, P2, rfl, rfl, h3, h4⟩ := h
    obtain ⟨vs1, vs2, O1, O2, rfl, rfl, h5, h6⟩ := RepVals.split h4
    exact ⟨v :: vs1, vs2, P1 ++ O1, O2, rfl, by rw [List.append_assoc], ⟨v, vs1, P1, O1, rfl, rfl, h3, h5⟩, h6⟩

/-- a part in the middle -/
theorem RepVals.mid {xs : List LV} {vs : List Value} {O : List Own} (h : RepVals A μ xs vs O) (o m : Nat) (hl : o + m ≤ xs.length) :
    ∃ O1 O2 O3, O = O1 ++ O2 ++ O3 ∧ RepVals A μ (xs.take o) (vs.take o) O1 ∧ RepVals A μ ((xs.drop o).take m) ((vs.drop o).take m) O2 ∧ RepVals A μ (xs.drop (o + m)) (vs.drop (o + m)) O3 := by
  have e : xs = xs.take o ++ ((xs.drop o).take m ++ xs.drop (o + m)) := by
    rw [← List.drop_drop, List.take_append_drop, List.take_append_drop]
  rw [e] at h
  obtain ⟨v1, v2, O1, Or, rfl, rfl, h1, h2⟩ := RepVals.split h
  obtain ⟨v3, v4, O2, O3, rfl, rfl, h3, h4⟩ := RepVals.split h2
  have l1 := h1.length
  have l3 := h3.length
  simp only [List.length_take, List.length_drop] at l1 l3
  have l1' : v1.length = o := by omega
  have l3' : v3.length = m := by omega
  have e1 : (v1 ++ (v3 ++ v4)).take o = v1 := List.take_left' l1'
  have e2 : ((v1 ++ (v3 ++ v4)).drop o).take m = v3 := by rw [List.drop_left' l1', List.take_left' l3']
  have e3 : (v1 ++ (v3 ++ v4)).drop (o + m) = v4 := by rw [← List.drop_drop, List.drop_left' l1', List.drop_left' l3']
  exact ⟨O1, O2, O3, by rw [List.append_assoc], by rw [e1]; exact h1, by rw [e2]; exact h3, by rw [e3]; exact h4⟩

theorem RepVals.splice {xs ys : List LV} {vs ws : List Value} {O Oy : List Own} (h : RepVals A μ xs vs O) (k : RepVals A μ ys ws Oy) (o : Nat) (hl : o + ys.length ≤ xs.length) :
    ∃ O', RepVals A μ (TL.splice xs o ys) (vs.take o ++ ws ++ vs.drop (o + ys.length)) O' ∧ (∀ p : Own → Bool, O'.countP p ≤ O.countP p + Oy.countP p) ∧
      ∃ O1 O2 O3, O = O1 ++ O2 ++ O3 ∧ O' = O1 ++ Oy ++ O3 ∧ RepVals A μ ((xs.drop o).take ys.length) ((vs.drop o).take ys.length) O2 := by
  obtain ⟨O1, O2, O3, rfl, h1, h2, h3⟩ := h.mid o ys.length hl
  refine ⟨O1 ++ Oy ++ O3, RepVals.app (RepVals.app h1 k) h3, fun p => ?_, O1, O2, O3, rfl, rfl, h2⟩
  simp only [List.countP_append]; omega

theorem RepCells.vals : ∀ {ys : List LV} {b off : Nat} {O : List Own}, RepCells A μ ys b off O →
    ∃ vs, RepVals A μ ys vs O ∧ ∀ j v, vs[j]? = some v → A b (off + j) = some v ∧ v.oneCell' = true
  | [], b, off, O, h => ⟨[], by simp only [RepCells] at h; simp [RepVals, h], by simp⟩
  | y :: ys, b, off, O, h => by
    simp only [RepCells] at h
    obtain ⟨v, O1, O2, rfl, h1, h2, h3, h4⟩ := h
    obtain ⟨vs, h5, h6⟩ := RepCells.vals h4
    refine ⟨v :: vs, ⟨v, vs, O1, O2, rfl, rfl, h3, h5⟩, fun j u hj => ?_⟩
    cases j with
    | zero => simp at hj; subst hj; exact ⟨h1, h2⟩
    | succ j =>
      simp at hj
      have := h6 j u hj
      rwa [show off + 1 + j = off + (j + 1) by omega] at this

theorem RepCells.of : ∀ {ys : List LV} {vs : List Value} {b off : Nat} {O : List Own}, RepVals A μ ys vs O → (∀ j v, vs[j]? = some v → A b (off + j) = some v ∧ v.oneCell' = true) → RepCells A μ ys b off O
  | [], vs, b, off, O, h, _ => by simp only [RepVals] at h; simp [RepCells, h]
  | y :: ys, vs, b, off, O, h, k => by
    simp only [RepVals] at h
    obtain ⟨v, ws, O1, O2, rfl, rfl, h3, h4⟩ := h
    simp only [RepCells]
    have h0 := k 0 v (by simp)
    refine ⟨v, O1, O2, rfl, h0.1, h0.2, h3, RepCells.of h4 fun j u hj => ?_⟩
    have := k (j + 1) u (by simpa using hj)
    rwa [show off + (j + 1) = off + 1 + j by omega] at this

/-- a value's cells -/
theorem cells_rep {x : LV} {v : Value} {O : List Own} (hf : x.flat = true) (h : Rep A μ x v O) :
    RepVals A μ x.cells v.cells.toList O ∧ ∀ c ∈ v.cells.toList, c.oneCell' = true := by
  have one : ∀ {x : LV}, x.cells = [x] → Rep A μ x v O → v.oneCell' = true → v.cells = #[v] → RepVals A μ x.cells v.cells.toList O ∧ ∀ c ∈ v.cells.toList, c.oneCell' = true := by
    intro x hx hr h1 hc
    rw [hx, hc]
    exact ⟨by simp only [RepVals]; exact ⟨v, [], O, [], rfl, by simp, hr, by simp⟩, by simpa using h1⟩
  cases x with
  | agg xs =>
    simp only [Rep] at h
    obtain ⟨vs, rfl, h0, h2⟩ := h
    exact ⟨by simpa [LV.cells, Value.cells] using h2, by simpa [Value.cells] using h0⟩
  | tup xs => simp [LV.flat] at hf
  | dead => simp [LV.flat] at hf
  | both u t => simp [LV.flat] at hf
  | raw sz => simp [LV.flat] at hf
  | sc u =>
    have h' := h
    simp only [Rep] at h
    obtain ⟨rfl, _⟩ := h
    refine one rfl h' hf ?_
    cases v <;> first | rfl | simp [LV.flat, Value.oneCell'] at hf
  | sl u nil sz xs =>
    have h' := h
    simp only [Rep] at h
    rcases h with ⟨_, rfl, _⟩ | ⟨_, b, off, sp, cap, O', rfl, _⟩ <;> exact one rfl h' rfl rfl
  | ha l sz off len cap =>
    have h' := h
    simp only [Rep] at h
    obtain ⟨_, _, rfl⟩ := h
    exact one rfl h' rfl rfl
  | ptr l o =>
    have h' := h
    simp only [Rep] at h
    obtain ⟨_, _, rfl⟩ := h
    exact one rfl h' rfl rfl
  | rp ys =>
    have h' := h
    simp only [Rep] at h
    obtain ⟨b, off, rfl, _⟩ := h
    exact one rfl h' rfl rfl
  | fn f caps =>
    have h' := h
    simp only [Rep] at h
    obtain ⟨vs, rfl, _⟩ := h
    exact one rfl h' rfl rfl
  | fnm f caps =>
    have h' := h
    simp only [Rep] at h
    obtain ⟨vs, rfl, _⟩ := h
    exact one rfl h' rfl rfl
end

section
variable {P : Program} {w : World}

/-- cells of a block, one after the other -/
def putAll (c : Array Value) : Nat → List Value → Array Value
  | _, [] => c
  | o, v :: vs => putAll (c.setIfInBounds o v) (o + 1) vs

theorem putAll_size : ∀ (vs : List Value) (c : Array Value) (o : Nat), (putAll c o vs).size = c.size
  | [], _, _ => rfl
  | v :: vs, c, o => by simp [putAll, putAll_size vs]

theorem putAll_one : ∀ (vs : List Value) (c : Array Value) (o : Nat), (∀ v ∈ c.toList, v.oneCell' = true) → (∀ v ∈ vs, v.oneCell' = true) → ∀ v ∈ (putAll c o vs).toList, v.oneCell' = true
  | [], _, _, h, _ => h
  | u :: vs, c, o, h, g => by
    refine putAll_one vs _ _ (fun v hv => ?_) (fun v hv => g v (List.mem_cons_of_mem _ hv))
    rw [Array.toList_setIfInBounds] at hv
    rcases List.mem_or_eq_of_mem_set hv with hv | rfl
    · exact h v hv
    · exact g _ (List.mem_cons_self ..)

theorem putAll_get : ∀ (vs : List Value) (c : Array Value) (o i : Nat), o + vs.length ≤ c.size →
    (putAll c o vs)[i]? = if o ≤ i ∧ i < o + vs.length then vs[i - o]? else c[i]?
  | [], c, o, i, _ => by simp [putAll]; omega
  | v :: vs, c, o, i, h => by
    simp only [List.length_cons] at h
    rw [putAll, putAll_get vs _ _ _ (by simp; omega)]
    by_cases h1 : o + 1 ≤ i ∧ i < o + 1 + vs.length
    · rw [if_pos h1, if_pos (by simp; omega), show i - o = (i - (o + 1)) + 1 by omega]; simp
    · rw [if_neg h1]
      by_cases h2 : i = o
      · subst h2
        rw [if_pos (by simp), Nat.sub_self, List.getElem?_cons_zero, Array.getElem?_setIfInBounds_self_of_lt (by omega)]
      · rw [if_neg (by simp; omega), Array.getElem?_setIfInBounds_ne (fun e => h2 e.symm)]

theorem putAll_toList (vs : List Value) (c : Array Value) (o : Nat) (h : o + vs.length ≤ c.size) :
    (putAll c o vs).toList = c.toList.take o ++ vs ++ c.toList.drop (o + vs.length) := by
  apply List.ext_getElem?
  intro i
  rw [Array.getElem?_toList, putAll_get vs c o i h]
  have hs : c.toList.length = c.size := rfl
  by_cases h1 : o ≤ i ∧ i < o + vs.length
  · rw [if_pos h1, List.getElem?_append_left (by simp; omega), List.getElem?_append_right (by simp; omega)]
    simp; congr 1; omega
  · rw [if_neg h1]
    by_cases h2 : i < o
    · rw [List.getElem?_append_left (by simp; omega), List.getElem?_append_left (by simp; omega), List.getElem?_take, if_pos h2]; simp
    · rw [List.getElem?_append_right (by simp; omega), List.getElem?_drop]
      simp only [List.length_append, List.length_take]
      rw [Array.getElem?_toList]
      congr 1; omega

theorem heap_set_self {w : World} {b : Nat} {o : Obj} (h : w.heap[b]? = some o) : ({ w with heap := w.heap.setIfInBounds b o } : World) = w := by
  have : w.heap.setIfInBounds b o = w.heap := by
    apply Array.ext_getElem?
    intro i
    by_cases hi : i = b
    · subst hi; rw [heap_set_same (lt_of_block h)]; exact h.symm
    · exact heap_set_other hi
  rw [this]

theorem setCell_block {b o : Nat} {c : Array Value} {e : TypeId} {v : Value} (h : w.heap[b]? = some (.cells c e (0, 0))) :
    w.setCell ⟨b, o, none⟩ v = { w with heap := w.heap.setIfInBounds b (.cells (c.setIfInBounds o v) e (0, 0)) } := by
  unfold World.setCell
  congr 1
  apply Array.ext_getElem?
  intro i
  rw [Array.getElem?_modify]
  by_cases hi : i = b
  · subst hi
    rw [heap_set_same (lt_of_block h), h]; simp
  · rw [heap_set_other hi]
    rw [if_neg (fun e => hi e.symm)]

theorem run_store_block {b off e : Nat} : ∀ (vs : List Value) (i : Nat) (c : Array Value) (w : World), w.heap[b]? = some (.cells c e (0, 0)) → (∀ v ∈ vs, v.oneCell' = true) → off + i + vs.length ≤ c.size →
    (storeCells ⟨b, off, none⟩ vs i).run P w = .ok () { w with heap := w.heap.setIfInBounds b (.cells (putAll c (off + i) vs) e (0, 0)) }
  | [], i, c, w, hb, _, _ => by
    simp only [storeCells, putAll]
    rw [heap_set_self hb]; rfl
  | v :: vs, i, c, w, hb, h1, hl => by
    simp only [List.length_cons] at hl
    have ha : (⟨b, off, none⟩ : Addr).add i = ⟨b, off + i, none⟩ := by
      unfold Addr.add; split <;> simp_all
    have hcell : w.cell? ⟨b, off + i, none⟩ = some c[off + i] := by
      rw [cell_of_block hb]; exact Array.getElem?_eq_getElem (by omega)
    have hfr : w.frozen? ⟨b, off + i, none⟩ = false := by simp [World.frozen?, hb]
    simp only [storeCells, Sem.run_bind, ha]
    rw [run_store _ _ _ _ _ (h1 v (by simp)), hcell]
    simp only [hfr, Bool.false_eq_true, if_false, Result.andThen_ok]
    rw [setCell_block hb]
    have hb2 : (w.heap.setIfInBounds b (.cells (c.setIfInBounds (off + i) v) e (0, 0)))[b]? = some (.cells (c.setIfInBounds (off + i) v) e (0, 0)) := heap_set_same (lt_of_block hb)
    have := run_store_block (off := off) vs (i + 1) (c.setIfInBounds (off + i) v) { w with heap := w.heap.setIfInBounds b (.cells (c.setIfInBounds (off + i) v) e (0, 0)) } hb2 (fun u hu => h1 u (by simp [hu])) (by simp; omega)
    rw [this]
    simp only [putAll, Array.setIfInBounds_setIfInBounds]
    rfl
end

end Go.TL
