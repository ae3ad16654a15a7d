/- What holds between a world, the ghost memory of settled cells, the variables' blocks, and the blocks that trees own. No program, no conditions. -/
import Derived.Test.YticcekapikfhaaaTL0
namespace Go.TL

/-- a variable's cells; none: it was settled, or is no more -/
abbrev Box := Option (List LV)

def Live (μ : List Nat) (h : List Box) (b : Nat) : Prop := ∃ (l : Nat) (xs : List LV), h[l]? = some (some xs) ∧ μ.getD l 0 = b
def Owns (O : List Own) (b : Nat) : Prop := ∃ n c, (b, n, c) ∈ O
def isAt (b : Nat) (o : Own) : Bool := o.1 == b

theorem owns_count {O : List Own} {b : Nat} : Owns O b ↔ 0 < O.countP (isAt b) := by
  constructor
  · rintro ⟨n, c, h⟩
    exact List.countP_pos_iff.2 ⟨_, h, by simp [isAt]⟩
  · intro h
    obtain ⟨⟨b', n, c⟩, h1, h2⟩ := List.countP_pos_iff.1 h
    simp [isAt] at h2
    exact ⟨n, c, h2 ▸ h1⟩

structure WInv (w : World) (A : GM) (μ : List Nat) (h : List Box) (OH : List (List Own)) (O : List Own) : Prop where
  len : μ.length = h.length
  lenO : OH.length = h.length
  cells : ∀ b i v, A b i = some v → w.cell? ⟨b, i, none⟩ = some v
  box : ∀ l xs, h[l]? = some (some xs) → ∃ c e, w.heap[μ.getD l 0]? = some (.cells c e (0, 0)) ∧ RepVals A μ xs c.toList (OH.getD l []) ∧ (∀ v ∈ c.toList, v.oneCell' = true)
  loose : ∀ b, Live μ h b → ∀ i, A b i = none
  apart : ∀ l l' xs xs', h[l]? = some (some xs) → h[l']? = some (some xs') → μ.getD l 0 = μ.getD l' 0 → l = l'
  own : ∀ b n c, (b, n, c) ∈ O ++ OH.flatten → (∃ cs e, w.heap[b]? = some (.cells cs e (0, 0)) ∧ cs.size = c ∧ ∀ v ∈ cs.toList, v.oneCell' = true) ∧ (∀ i, n ≤ i → A b i = none) ∧ ¬ Live μ h b
  once : ∀ b, (O ++ OH.flatten).countP (isAt b) ≤ 1

/-- fewer are owned, entry by entry -/
def Fewer (O' O : List Own) : Prop := ∀ p : Own → Bool, O'.countP p ≤ O.countP p

theorem Fewer.refl (O : List Own) : Fewer O O := fun _ => Nat.le_refl _
theorem Fewer.nil (O : List Own) : Fewer [] O := fun _ => by simp
theorem Fewer.trans {a b c : List Own} (h : Fewer a b) (k : Fewer b c) : Fewer a c := fun p => Nat.le_trans (h p) (k p)
theorem Fewer.app {a b c d : List Own} (h : Fewer a b) (k : Fewer c d) : Fewer (a ++ c) (b ++ d) := fun p => by
  simp only [List.countP_append]; exact Nat.add_le_add (h p) (k p)
theorem Fewer.mem {O' O : List Own} (h : Fewer O' O) {e : Own} (he : e ∈ O') : e ∈ O := by
  have h1 : 0 < O'.countP (· == e) := List.countP_pos_iff.2 ⟨e, he, by simp⟩
  obtain ⟨x, hx, hxe⟩ := List.countP_pos_iff.1 (Nat.lt_of_lt_of_le h1 (h (· == e)))
  simp at hxe
  exact hxe ▸ hx

def isE (e z : Own) : Bool := z.1 == e.1 && (z.2.1 == e.2.1 && z.2.2 == e.2.2)
theorem isE_iff (e z : Own) : isE e z = true ↔ z = e := by
  obtain ⟨a, b, c⟩ := e
  obtain ⟨a', b', c'⟩ := z
  simp [isE]

/-- at most one entry more -/
theorem more_mem {O' O : List Own} {y : Own} (hf : ∀ p : Own → Bool, O'.countP p ≤ O.countP p + (if p y then 1 else 0)) {e : Own} (he : e ∈ O') : e ∈ O ∨ e = y := by
  by_cases hy : e = y
  · exact .inr hy
  · have h1 : 0 < O'.countP (isE e) := List.countP_pos_iff.2 ⟨e, he, (isE_iff e e).2 rfl⟩
    have h2 := hf (isE e)
    rw [if_neg (fun h => hy ((isE_iff e y).1 h).symm)] at h2
    obtain ⟨z, hz, hze⟩ := List.countP_pos_iff.1 (Nat.lt_of_lt_of_le h1 h2)
    exact .inl ((isE_iff e z).1 hze ▸ hz)

/-- where one entry alone is at a block, it and the others -/
theorem once_split {O : List Own} {b n c : Nat} (h1 : O.countP (isAt b) ≤ 1) (hm : (b, n, c) ∈ O) (p : Own → Bool) :
    O.countP p = (if p (b, n, c) then 1 else 0) + (O.filter fun z => !isAt b z).countP p := by
  rw [List.countP_eq_countP_filter_add O p (isAt b)]
  congr 1
  have hm' : (b, n, c) ∈ O.filter (isAt b) := List.mem_filter.2 ⟨hm, by simp [isAt]⟩
  have hl : (O.filter (isAt b)).length ≤ 1 := by rw [← List.countP_eq_length_filter]; exact h1
  match hx : O.filter (isAt b), hl, hm' with
  | [y], _, hm' =>
    simp at hm'
    subst hm'
    simp [List.countP_cons]

section
variable {w : World} {A : GM} {μ : List Nat} {h : List Box} {OH : List (List Own)} {O O' : List Own}

theorem WInv.fewer (i : WInv w A μ h OH O) (f : Fewer O' O) : WInv w A μ h OH O' where
  len := i.len
  lenO := i.lenO
  cells := i.cells
  box := i.box
  loose := i.loose
  apart := i.apart
  own := fun b n c hm => i.own b n c ((f.app (.refl _)).mem hm)
  once := fun b => Nat.le_trans ((f.app (.refl _)) (isAt b)) (i.once b)

theorem cell_of_block {b : Nat} {cs : Array Value} {e : TypeId} (hb : w.heap[b]? = some (.cells cs e (0, 0))) (i : Nat) : w.cell? ⟨b, i, none⟩ = cs[i]? := by
  simp [World.cell?, hb]

theorem lt_of_block {b : Nat} {o : Obj} (hb : w.heap[b]? = some o) : b < w.heap.size := by
  rcases Nat.lt_or_ge b w.heap.size with h | h
  · exact h
  · rw [Array.getElem?_eq_none h] at hb; simp at hb

theorem lt_of_cell {b i : Nat} {v : Value} (hc : w.cell? ⟨b, i, none⟩ = some v) : b < w.heap.size := by
  cases hb : w.heap[b]? with
  | none => simp [World.cell?, hb] at hc
  | some o => exact lt_of_block hb

theorem WInv.settled_lt (i : WInv w A μ h OH O) {b j : Nat} {v : Value} (ha : A b j = some v) : b < w.heap.size := lt_of_cell (i.cells b j v ha)

theorem WInv.unsettled (i : WInv w A μ h OH O) {b : Nat} (hb : w.heap.size ≤ b) (j : Nat) : A b j = none := by
  cases hv : A b j with
  | none => rfl
  | some v => have := i.settled_lt hv; omega

theorem WInv.live_lt (i : WInv w A μ h OH O) {b : Nat} (hb : Live μ h b) : b < w.heap.size := by
  obtain ⟨l, xs, hl, rfl⟩ := hb
  obtain ⟨c, e, hc, _⟩ := i.box l xs hl
  exact lt_of_block hc

theorem WInv.own_lt (i : WInv w A μ h OH O) {b n c : Nat} (hb : (b, n, c) ∈ O ++ OH.flatten) : b < w.heap.size := by
  obtain ⟨⟨cs, e, hc, _⟩, _⟩ := i.own b n c hb
  exact lt_of_block hc
end

/-- a slot's tree put in its place -/
def upd {α : Type} (t : Nat → α) (d : Nat) (x : α) : Nat → α := fun i => if i = d then x else t i
theorem upd_same {α : Type} (t : Nat → α) (d : Nat) (x : α) : upd t d x d = x := by simp [upd]
theorem upd_other {α : Type} (t : Nat → α) (d : Nat) (x : α) {i : Nat} (h : i ≠ d) : upd t d x i = t i := by simp [upd, h]

/-- all that the slots own -/
def allO (n : Nat) (Ot : Nat → List Own) : List Own := (List.range n).flatMap Ot

theorem allO_succ (n : Nat) (Ot : Nat → List Own) : allO (n + 1) Ot = allO n Ot ++ Ot n := by simp [allO, List.range_succ]

theorem allO_upd_ge (Ot : Nat → List Own) (d : Nat) (X : List Own) : ∀ m, m ≤ d → allO m (upd Ot d X) = allO m Ot
  | 0, _ => rfl
  | m + 1, h => by rw [allO_succ, allO_succ, allO_upd_ge Ot d X m (by omega), upd_other _ _ _ (by omega)]

theorem count_upd (p : Own → Bool) (Ot : Nat → List Own) (d : Nat) (X : List Own) : ∀ n, d < n →
    (allO n (upd Ot d X)).countP p + (Ot d).countP p = (allO n Ot).countP p + X.countP p
  | 0, h => by omega
  | n + 1, h => by
    simp only [allO_succ, List.countP_append]
    by_cases hd : d = n
    · subst hd
      rw [allO_upd_ge Ot d X d (Nat.le_refl _), upd_same]; omega
    · have := count_upd p Ot d X n (by omega)
      rw [upd_other _ _ _ (fun e => hd e.symm)]; omega

theorem allO_nil (n : Nat) : allO n (fun _ => []) = [] := by simp [allO]

theorem mem_allO {n : Nat} {Ot : Nat → List Own} {e : Own} : e ∈ allO n Ot ↔ ∃ i, i < n ∧ e ∈ Ot i := by
  simp [allO]

theorem fewer_drop {n d : Nat} {Ot : Nat → List Own} (hd : d < n) (X : List Own) (hx : Fewer X (Ot d)) : Fewer (allO n (upd Ot d X)) (allO n Ot) := by
  intro p
  have := count_upd p Ot d X n hd
  have := hx p
  omega

/-- what a run has done since its function began: T0 are the old blocks that it may have turned -/
structure Cx where
  w0 : World
  A0 : GM
  μ0 : List Nat
  T0 : Nat → Prop

/-- nothing but memory has turned -/
def Still (w0 w : World) : Prop := w.os = w0.os ∧ w.tape = w0.tape ∧ w.output = w0.output
theorem Still.trans {a b c : World} (h : Still a b) (k : Still b c) : Still a c := ⟨k.1.trans h.1, k.2.1.trans h.2.1, k.2.2.trans h.2.2⟩

structure Since (x : Cx) (w : World) (A : GM) (μ : List Nat) (h : List Box) (OH : List (List Own)) (O : List Own) : Prop where
  size : x.w0.heap.size ≤ w.heap.size
  kept : ∀ b, b < x.w0.heap.size → ¬ x.T0 b → w.heap[b]? = x.w0.heap[b]? ∧ ∀ i, A b i = x.A0 b i
  ownT : ∀ b n c, (b, n, c) ∈ O ++ OH.flatten → x.w0.heap.size ≤ b ∨ x.T0 b
  liveT : ∀ b, Live μ h b → x.w0.heap.size ≤ b ∨ x.T0 b
  le : x.A0.Le A
  ext : ∃ ν, μ = x.μ0 ++ ν
  still : Still x.w0 w

theorem Since.fewer {x : Cx} {w : World} {A : GM} {μ : List Nat} {h : List Box} {OH : List (List Own)} {O O' : List Own} (s : Since x w A μ h OH O) (f : Fewer O' O) : Since x w A μ h OH O' :=
  { s with ownT := fun b n c hm => s.ownT b n c ((f.app (.refl _)).mem hm) }

/-- both, of one state -/
structure St' (x : Cx) (w : World) (A : GM) (μ : List Nat) (h : List Box) (OH : List (List Own)) (O : List Own) : Prop where
  inv : WInv w A μ h OH O
  since : Since x w A μ h OH O

section
variable {x : Cx} {w : World} {A : GM} {μ : List Nat} {h : List Box} {OH : List (List Own)} {O : List Own}

theorem St'.fewer {O' : List Own} (s : St' x w A μ h OH O) (f : Fewer O' O) : St' x w A μ h OH O' := ⟨s.inv.fewer f, s.since.fewer f⟩

theorem St'.heap {w' : World} (s : St' x w A μ h OH O) (e : w'.heap = w.heap) (hs : Still w w') : St' x w' A μ h OH O := by
  have hc : ∀ a, w'.cell? a = w.cell? a := fun a => by simp [World.cell?, e]
  exact ⟨{ s.inv with
      cells := fun b i v hv => by rw [hc]; exact s.inv.cells b i v hv
      box := fun l xs hl => by rw [e]; exact s.inv.box l xs hl
      own := fun b n c hm => by rw [e]; exact s.inv.own b n c hm },
    { s.since with
      size := by rw [e]; exact s.since.size
      kept := fun b h1 h2 => by rw [e]; exact s.since.kept b h1 h2
      still := s.since.still.trans hs }⟩

/-- cells lo to hi of a block, settled as an array has them -/
def GM.put (A : GM) (b lo hi : Nat) (cs : Array Value) : GM := fun b' i => if b' = b ∧ lo ≤ i ∧ i < hi then cs[i]? else A b' i

theorem GM.put_le {A : GM} {b lo hi : Nat} {cs : Array Value} (hA : ∀ i, lo ≤ i → A b i = none) : A.Le (A.put b lo hi cs) := by
  intro b' i v hv
  unfold GM.put
  by_cases hc : b' = b ∧ lo ≤ i ∧ i < hi
  · obtain ⟨rfl, h1, _⟩ := hc
    rw [hA i h1] at hv; simp at hv
  · rw [if_neg hc]; exact hv

theorem live_push_lt {w : World} (i : WInv w A μ h OH O) {b : Nat} (hb : Live μ h b) : b < w.heap.size := i.live_lt hb

/-- a new block, settled up to n, owned by a tree -/
theorem St'.newRow (s : St' x w A μ h OH O) (cs : Array Value) (hcs : ∀ v ∈ cs.toList, v.oneCell' = true) (e : TypeId) (n : Nat) (O' : List Own) (hf : ∀ p, O'.countP p ≤ (O.countP p) + (if p (w.heap.size, n, cs.size) then 1 else 0)) :
    St' x { w with heap := w.heap.push (.cells cs e (0, 0)) } (A.put w.heap.size 0 n cs) μ h OH O' := by
  have hmem : ∀ b m c, (b, m, c) ∈ O' ++ OH.flatten → (b, m, c) ∈ O ++ OH.flatten ∨ (b = w.heap.size ∧ m = n ∧ c = cs.size) := by
    intro b m c hm
    rcases List.mem_append.1 hm with hm | hm
    · exact more_mem hf hm |>.elim (fun h => .inl (List.mem_append.2 (.inl h))) (fun h => .inr (by simpa using h))
    · exact .inl (List.mem_append.2 (.inr hm))
  have hA : ∀ i, 0 ≤ i → A w.heap.size i = none := fun i _ => s.inv.unsettled (Nat.le_refl _) i
  have old : ∀ b, b < w.heap.size → (w.heap.push (.cells cs e (0, 0)))[b]? = w.heap[b]? := by
    intro b hb
    rw [Array.getElem?_push, if_neg (by omega)]
  have hlive : ∀ b, Live μ h b → b < w.heap.size := fun b hb => s.inv.live_lt hb
  have hput : ∀ b, b ≠ w.heap.size → ∀ i, A.put w.heap.size 0 n cs b i = A b i := by
    intro b hb i
    unfold GM.put
    rw [if_neg (fun hc => hb hc.1)]
  refine ⟨⟨s.inv.len, s.inv.lenO, ?_, ?_, ?_, s.inv.apart, ?_, ?_⟩, ⟨?_, ?_, ?_, s.since.liveT, ?_, s.since.ext, s.since.still⟩⟩
  · intro b i v hv
    by_cases hb : b = w.heap.size
    · subst hb
      unfold GM.put at hv
      by_cases hc : w.heap.size = w.heap.size ∧ 0 ≤ i ∧ i < n
      · rw [if_pos hc] at hv
        simp [World.cell?, hv]
      · rw [if_neg hc, hA i (Nat.zero_le _)] at hv; simp at hv
    · rw [hput b hb] at hv
      have := s.inv.cells b i v hv
      have hlt := lt_of_cell this
      simp only [World.cell?] at this ⊢
      rw [old b hlt]; exact this
  · intro l xs hl
    obtain ⟨c, e', h1, h2, h3⟩ := s.inv.box l xs hl
    exact ⟨c, e', by rw [old _ (lt_of_block h1)]; exact h1, by
      have := RepVals.mono (ν := []) (GM.put_le (lo := 0) (hi := n) (cs := cs) hA) xs c.toList _ h2
      simpa using this, h3⟩
  · intro b hb i
    rw [hput b (by have := hlive b hb; omega)]
    exact s.inv.loose b hb i
  · intro b m c hm
    rcases hmem b m c hm with hm | ⟨rfl, rfl, rfl⟩
    · obtain ⟨⟨cs', e', h1, h2⟩, h3, h4⟩ := s.inv.own b m c hm
      have hlt := lt_of_block h1
      exact ⟨⟨cs', e', by rw [old b hlt]; exact h1, h2⟩, fun i hi => by rw [hput b (by omega)]; exact h3 i hi, h4⟩
    · refine ⟨⟨cs, e, by simp, rfl, hcs⟩, fun i hi => ?_, fun hl => by have := hlive _ hl; omega⟩
      unfold GM.put
      rw [if_neg (by omega)]
      exact hA i (Nat.zero_le _)
  · intro b
    have h1 := s.inv.once b
    have h2 := hf (isAt b)
    simp only [List.countP_append] at h1 ⊢
    by_cases hb : b = w.heap.size
    · subst hb
      have h3 : (O ++ OH.flatten).countP (isAt w.heap.size) = 0 := by
        refine Nat.eq_zero_of_not_pos fun hp => ?_
        obtain ⟨m, c, hm⟩ := owns_count.2 hp
        have := s.inv.own_lt hm
        omega
      simp only [List.countP_append] at h3
      simp only [isAt] at h2 h3 ⊢
      simp at h2
      omega
    · have : isAt b (w.heap.size, n, cs.size) = false := by simp [isAt]; exact fun e => hb e.symm
      rw [this] at h2
      simp at h2
      omega
  · have := s.since.size; simp; omega
  · intro b hb ht
    have hs := s.since.size
    obtain ⟨h1, h2⟩ := s.since.kept b hb ht
    refine ⟨?_, fun i => ?_⟩
    · show (w.heap.push _)[b]? = _
      rw [old b (by omega)]; exact h1
    · rw [hput b (by omega)]; exact h2 i
  · intro b m c hm
    rcases hmem b m c hm with hm | ⟨rfl, _, _⟩
    · exact s.since.ownT b m c hm
    · exact .inl s.since.size
  · exact fun b i v hv => GM.put_le hA b i v (s.since.le b i v hv)
theorem heap_set_same {w : World} {b : Nat} {o : Obj} (h : b < w.heap.size) : (w.heap.setIfInBounds b o)[b]? = some o := by
  simp [h]
theorem heap_set_other {w : World} {b b' : Nat} {o : Obj} (h : b' ≠ b) : (w.heap.setIfInBounds b o)[b']? = w.heap[b']? := by
  rw [Array.getElem?_setIfInBounds_ne (fun e => h e.symm)]

/-- an owned block grows in place -/
theorem St'.grow (s : St' x w A μ h OH O) {b n m c : Nat} {cs cs' : Array Value} {e : TypeId} (hb : w.heap[b]? = some (.cells cs e (0, 0)))
    (hm : (b, n, c) ∈ O) (hs : cs'.size = cs.size) (hcs : ∀ v ∈ cs'.toList, v.oneCell' = true) (heq : ∀ i, i < n → cs'[i]? = cs[i]?) (O' : List Own)
    (hf : ∀ p : Own → Bool, O'.countP p + (if p (b, n, c) then 1 else 0) ≤ O.countP p + (if p (b, n + m, c) then 1 else 0)) :
    St' x { w with heap := w.heap.setIfInBounds b (.cells cs' e (0, 0)) } (A.put b n (n + m) cs') μ h OH O' := by
  have hlt := lt_of_block hb
  obtain ⟨⟨cs0, e0, h0, hc, _⟩, hA, hnl⟩ := s.inv.own b n c (List.mem_append.2 (.inl hm))
  rw [hb] at h0
  obtain ⟨rfl, rfl⟩ : cs = cs0 ∧ e = e0 := by simpa using h0
  have h1 := s.inv.once b
  simp only [List.countP_append] at h1
  have hO1 : 0 < O.countP (isAt b) := owns_count.1 ⟨n, c, hm⟩
  have hf' : ∀ p : Own → Bool, O'.countP p ≤ (O.filter fun z => !isAt b z).countP p + (if p (b, n + m, c) then 1 else 0) := by
    intro p
    have := hf p
    rw [once_split (show O.countP (isAt b) ≤ 1 by omega) hm p] at this
    omega
  have hmem : ∀ b' m' c', (b', m', c') ∈ O' ++ OH.flatten → ((b', m', c') ∈ O ++ OH.flatten ∧ b' ≠ b) ∨ (b' = b ∧ m' = n + m ∧ c' = c) := by
    intro b' m' c' hm'
    rcases List.mem_append.1 hm' with hm' | hm'
    · rcases more_mem hf' hm' with h | h
      · left
        obtain ⟨h2, h3⟩ := List.mem_filter.1 h
        exact ⟨List.mem_append.2 (.inl h2), by simpa [isAt] using h3⟩
      · right; simpa using h
    · left
      refine ⟨List.mem_append.2 (.inr hm'), fun hbb => ?_⟩
      subst hbb
      have : 0 < OH.flatten.countP (isAt b') := owns_count.1 ⟨m', c', hm'⟩
      omega
  have hput : ∀ b', b' ≠ b → ∀ i, A.put b n (n + m) cs' b' i = A b' i := by
    intro b' hb' i
    unfold GM.put
    rw [if_neg (fun h => hb' h.1)]
  have hle' := GM.put_le (A := A) (b := b) (lo := n) (hi := n + m) (cs := cs') hA
  refine ⟨⟨s.inv.len, s.inv.lenO, ?_, ?_, ?_, s.inv.apart, ?_, ?_⟩, ⟨?_, ?_, ?_, s.since.liveT, ?_, s.since.ext, s.since.still⟩⟩
  · intro b' i v hv
    by_cases hbb : b' = b
    · subst hbb
      have hcell : ∀ i, ({ w with heap := w.heap.setIfInBounds b' (.cells cs' e (0, 0)) } : World).cell? ⟨b', i, none⟩ = cs'[i]? := by
        intro i
        exact cell_of_block (w := { w with heap := w.heap.setIfInBounds b' (.cells cs' e (0, 0)) }) (heap_set_same hlt) i
      rw [hcell]
      unfold GM.put at hv
      by_cases hc' : b' = b' ∧ n ≤ i ∧ i < n + m
      · rw [if_pos hc'] at hv; exact hv
      · rw [if_neg hc'] at hv
        have hi : i < n := by
          rcases Nat.lt_or_ge i n with h | h
          · exact h
          · rw [hA i h] at hv; simp at hv
        rw [heq i hi, ← cell_of_block hb i]
        exact s.inv.cells b' i v hv
    · rw [hput b' hbb] at hv
      have := s.inv.cells b' i v hv
      simp only [World.cell?] at this ⊢
      rw [heap_set_other hbb]; exact this
  · intro l xs hl
    obtain ⟨c', e', h1, h2, h3⟩ := s.inv.box l xs hl
    have hne : μ.getD l 0 ≠ b := fun h => hnl ⟨l, xs, hl, h⟩
    exact ⟨c', e', by
      show (w.heap.setIfInBounds b _)[_]? = _
      rw [heap_set_other hne]; exact h1, by
      have := RepVals.mono (ν := []) hle' xs c'.toList _ h2
      simpa using this, h3⟩
  · intro b' hb' i
    rw [hput b' (fun h => hnl (h ▸ hb'))]
    exact s.inv.loose b' hb' i
  · intro b' m' c' hm'
    rcases hmem b' m' c' hm' with ⟨hm', hne⟩ | ⟨rfl, rfl, rfl⟩
    · obtain ⟨⟨cs2, e2, h1, h2⟩, h3, h4⟩ := s.inv.own b' m' c' hm'
      exact ⟨⟨cs2, e2, by
        show (w.heap.setIfInBounds b _)[_]? = _
        rw [heap_set_other hne]; exact h1, h2⟩, fun i hi => by rw [hput b' hne]; exact h3 i hi, h4⟩
    · refine ⟨⟨cs', e, heap_set_same hlt, by omega, hcs⟩, fun i hi => ?_, hnl⟩
      unfold GM.put
      rw [if_neg (by omega)]
      exact hA i (by omega)
  · intro b'
    have h2 := s.inv.once b'
    have h3 := hf (isAt b')
    simp only [List.countP_append] at h2 ⊢
    have : (if isAt b' (b, n + m, c) = true then 1 else 0) = (if isAt b' (b, n, c) = true then 1 else 0) := rfl
    omega
  · simpa using s.since.size
  · intro b' hb' ht
    have hne : b' ≠ b := by
      intro h
      rcases s.since.ownT b n c (List.mem_append.2 (.inl hm)) with h2 | h2
      · omega
      · exact ht (h ▸ h2)
    obtain ⟨h1, h2⟩ := s.since.kept b' hb' ht
    refine ⟨?_, fun i => by rw [hput b' hne]; exact h2 i⟩
    show (w.heap.setIfInBounds b _)[_]? = _
    rw [heap_set_other hne]; exact h1
  · intro b' m' c' hm'
    rcases hmem b' m' c' hm' with ⟨hm', _⟩ | ⟨rfl, rfl, rfl⟩
    · exact s.since.ownT b' m' c' hm'
    · exact s.since.ownT b' n c' (List.mem_append.2 (.inl hm))
  · exact fun b' i v hv => hle' b' i v (s.since.le b' i v hv)
theorem live_app {μ : List Nat} {h : List Box} {n b : Nat} {o : Box} (hl : μ.length = h.length) : Live (μ ++ [n]) (h ++ [o]) b → Live μ h b ∨ (b = n ∧ ∃ xs, o = some xs) := by
  rintro ⟨l, xs, h1, h2⟩
  rcases Nat.lt_trichotomy l h.length with hlt | heq | hgt
  · left
    rw [List.getElem?_append_left hlt] at h1
    rw [getD_prefix (by omega)] at h2
    exact ⟨l, xs, h1, h2⟩
  · right
    subst heq
    simp at h1
    rw [List.getD_eq_getElem?_getD, List.getElem?_append_right (by omega)] at h2
    simp [hl] at h2
    exact ⟨h2.symm, xs, h1⟩
  · rw [List.getElem?_eq_none (by simp; omega)] at h1; simp at h1

/-- a new variable -/
theorem St'.newBox (s : St' x w A μ h OH O) (vs : List Value) (e : TypeId) (xs : List LV) (Ox O' : List Own) (hr : RepVals A μ xs vs Ox)
    (h1 : ∀ v ∈ vs, v.oneCell' = true) (hf : ∀ p : Own → Bool, O'.countP p + Ox.countP p ≤ O.countP p) :
    St' x { w with heap := w.heap.push (.cells vs.toArray e (0, 0)) } A (μ ++ [w.heap.size]) (h ++ [some xs]) (OH ++ [Ox]) O' := by
  have hfew : Fewer (O' ++ (OH ++ [Ox]).flatten) (O ++ OH.flatten) := by
    intro p
    have := hf p
    simp only [List.flatten_append, List.countP_append, List.flatten_cons, List.flatten_nil, List.append_nil]
    omega
  have hmem := fun e (he : e ∈ O' ++ (OH ++ [Ox]).flatten) => hfew.mem he
  have old : ∀ b, b < w.heap.size → (w.heap.push (.cells vs.toArray e (0, 0)))[b]? = w.heap[b]? := by
    intro b hb
    rw [Array.getElem?_push, if_neg (by omega)]
  have hmono : ∀ xs vs O, RepVals A μ xs vs O → RepVals A (μ ++ [w.heap.size]) xs vs O := fun xs vs O => RepVals.mono (fun _ _ _ h => h) xs vs O
  have hlen := s.inv.len
  have hlenO := s.inv.lenO
  refine ⟨⟨by simp [hlen], by simp [hlenO], ?_, ?_, ?_, ?_, ?_, ?_⟩, ⟨?_, ?_, ?_, ?_, s.since.le, ?_, s.since.still⟩⟩
  · intro b i v hv
    have := s.inv.cells b i v hv
    have hlt := lt_of_cell this
    simp only [World.cell?] at this ⊢
    rw [old b hlt]; exact this
  · intro l ys hl
    rcases Nat.lt_trichotomy l h.length with hlt | heq | hgt
    · rw [List.getElem?_append_left hlt] at hl
      obtain ⟨c, e', g1, g2, g3⟩ := s.inv.box l ys hl
      rw [getD_prefix (by omega)]
      refine ⟨c, e', by rw [old _ (lt_of_block g1)]; exact g1, ?_, g3⟩
      rw [List.getD_eq_getElem?_getD, List.getElem?_append_left (by omega), ← List.getD_eq_getElem?_getD]
      exact hmono _ _ _ g2
    · subst heq
      simp at hl
      subst hl
      refine ⟨vs.toArray, e, ?_, ?_, by simpa using h1⟩
      · rw [List.getD_eq_getElem?_getD, List.getElem?_append_right (by omega)]
        simp [hlen]
      · rw [List.getD_eq_getElem?_getD, List.getElem?_append_right (by omega)]
        simp [hlenO]
        exact hmono _ _ _ hr
    · rw [List.getElem?_eq_none (by simp; omega)] at hl; simp at hl
  · intro b hb i
    rcases live_app hlen hb with hb | ⟨rfl, _⟩
    · exact s.inv.loose b hb i
    · exact s.inv.unsettled (Nat.le_refl _) i
  · intro l l' ys ys' hl hl' heq
    have key : ∀ k zs, (h ++ [some xs])[k]? = some (some zs) → (k < h.length ∧ h[k]? = some (some zs) ∧ (μ ++ [w.heap.size]).getD k 0 = μ.getD k 0 ∧ μ.getD k 0 < w.heap.size) ∨ (k = h.length ∧ (μ ++ [w.heap.size]).getD k 0 = w.heap.size) := by
      intro k zs hk
      rcases Nat.lt_trichotomy k h.length with hlt | heq | hgt
      · left
        rw [List.getElem?_append_left hlt] at hk
        exact ⟨hlt, hk, getD_prefix (by omega), s.inv.live_lt ⟨k, zs, hk, rfl⟩⟩
      · right
        refine ⟨heq, ?_⟩
        rw [List.getD_eq_getElem?_getD, List.getElem?_append_right (by omega)]
        simp [hlen, heq]
      · rw [List.getElem?_eq_none (by simp; omega)] at hk; simp at hk
    rcases key l ys hl with ⟨a1, a2, a3, a4⟩ | ⟨a1, a2⟩ <;> rcases key l' ys' hl' with ⟨b1, b2, b3, b4⟩ | ⟨b1, b2⟩
    · rw [a3, b3] at heq; exact s.inv.apart l l' ys ys' a2 b2 heq
    · rw [a3, b2] at heq; omega
    · rw [a2, b3] at heq; omega
    · omega
  · intro b n c hm
    obtain ⟨⟨cs, e', g1, g2⟩, g3, g4⟩ := s.inv.own b n c (hmem _ hm)
    have hlt := lt_of_block g1
    refine ⟨⟨cs, e', by rw [old b hlt]; exact g1, g2⟩, g3, fun hl => ?_⟩
    rcases live_app hlen hl with hl | ⟨rfl, _⟩
    · exact g4 hl
    · omega
  · exact fun b => Nat.le_trans (hfew (isAt b)) (s.inv.once b)
  · have := s.since.size; simp; omega
  · intro b hb ht
    have hs := s.since.size
    obtain ⟨g1, g2⟩ := s.since.kept b hb ht
    exact ⟨by
      show (w.heap.push _)[b]? = _
      rw [old b (by omega)]; exact g1, g2⟩
  · exact fun b n c hm => s.since.ownT b n c (hmem _ hm)
  · intro b hb
    rcases live_app hlen hb with hb | ⟨rfl, _⟩
    · exact s.since.liveT b hb
    · exact .inl s.since.size
  · obtain ⟨ν, hν⟩ := s.since.ext
    exact ⟨ν ++ [w.heap.size], by rw [hν, List.append_assoc]⟩

theorem count_flatten_set (p : Own → Bool) (X : List Own) : ∀ (OH : List (List Own)) (l : Nat), l < OH.length →
    (OH.set l X).flatten.countP p + (OH.getD l []).countP p = OH.flatten.countP p + X.countP p
  | Y :: OH, 0, _ => by simp [List.countP_append]; omega
  | Y :: OH, l + 1, h => by
    have := count_flatten_set p X OH l (by simpa using h)
    simp [List.countP_append] at this ⊢
    omega

theorem getD_set_same {α : Type} {l : List α} {i : Nat} {x d : α} (h : i < l.length) : (l.set i x).getD i d = x := by
  simp [List.getD_eq_getElem?_getD, h]
theorem getD_set_other {α : Type} {l : List α} {i j : Nat} {x d : α} (h : j ≠ i) : (l.set i x).getD j d = l.getD j d := by
  simp [List.getD_eq_getElem?_getD, Ne.symm h]

/-- a variable turned -/
theorem St'.setBox (s : St' x w A μ h OH O) {l : Nat} {xs : List LV} (hl : h[l]? = some (some xs)) (c' : Array Value) (e : TypeId) (xs' : List LV) (Ox' O' : List Own)
    (hr : RepVals A μ xs' c'.toList Ox') (h1 : ∀ v ∈ c'.toList, v.oneCell' = true)
    (hf : ∀ p : Own → Bool, O'.countP p + Ox'.countP p ≤ O.countP p + (OH.getD l []).countP p) :
    St' x { w with heap := w.heap.setIfInBounds (μ.getD l 0) (.cells c' e (0, 0)) } A μ (h.set l (some xs')) (OH.set l Ox') O' := by
  have hlen := s.inv.len
  have hlenO := s.inv.lenO
  have hll : l < h.length := by
    rcases Nat.lt_or_ge l h.length with g | g
    · exact g
    · rw [List.getElem?_eq_none g] at hl; simp at hl
  have hlt : μ.getD l 0 < w.heap.size := s.inv.live_lt ⟨l, xs, hl, rfl⟩
  have hfew : Fewer (O' ++ (OH.set l Ox').flatten) (O ++ OH.flatten) := by
    intro p
    have := hf p
    have := count_flatten_set p Ox' OH l (by omega)
    simp only [List.countP_append]
    omega
  have hlive : ∀ b, Live μ (h.set l (some xs')) b → Live μ h b := by
    rintro b ⟨k, ys, hk, hb⟩
    by_cases hkl : k = l
    · subst hkl; exact ⟨k, xs, hl, hb⟩
    · rw [List.getElem?_set_ne (fun g => hkl g.symm)] at hk
      exact ⟨k, ys, hk, hb⟩
  refine ⟨⟨by simp [hlen], by simp [hlenO], ?_, ?_, ?_, ?_, ?_, ?_⟩, ⟨?_, ?_, ?_, ?_, s.since.le, s.since.ext, s.since.still⟩⟩
  · intro b i v hv
    have hne : b ≠ μ.getD l 0 := by
      intro hb
      rw [s.inv.loose b ⟨l, xs, hl, hb.symm⟩ i] at hv; simp at hv
    have := s.inv.cells b i v hv
    simp only [World.cell?] at this ⊢
    rw [heap_set_other hne]; exact this
  · intro k ys hk
    by_cases hkl : k = l
    · subst hkl
      rw [List.getElem?_set_self hll] at hk
      obtain rfl : xs' = ys := by simpa using hk
      exact ⟨c', e, heap_set_same hlt, by rw [getD_set_same (by omega)]; exact hr, h1⟩
    · rw [List.getElem?_set_ne (fun g => hkl g.symm)] at hk
      obtain ⟨c, e', g1, g2, g3⟩ := s.inv.box k ys hk
      have hne : μ.getD k 0 ≠ μ.getD l 0 := fun g => hkl (s.inv.apart k l ys xs hk hl g)
      exact ⟨c, e', by
        show (w.heap.setIfInBounds _ _)[_]? = _
        rw [heap_set_other hne]; exact g1, by rw [getD_set_other hkl]; exact g2, g3⟩
  · exact fun b hb i => s.inv.loose b (hlive b hb) i
  · intro k k' ys ys' hk hk' heq
    have key : ∀ (k : Nat) (zs : List LV), (h.set l (some xs'))[k]? = some (some zs) → ∃ zs' : List LV, h[k]? = some (some zs') := by
      intro k zs hk
      by_cases hkl : k = l
      · exact ⟨xs, hkl ▸ hl⟩
      · rw [List.getElem?_set_ne (fun g => hkl g.symm)] at hk
        exact ⟨zs, hk⟩
    obtain ⟨z, hz⟩ := key k ys hk
    obtain ⟨z', hz'⟩ := key k' ys' hk'
    exact s.inv.apart k k' z z' hz hz' heq
  · intro b n c hm
    obtain ⟨⟨cs, e', g1, g2⟩, g3, g4⟩ := s.inv.own b n c (hfew.mem hm)
    have hne : b ≠ μ.getD l 0 := fun g => g4 ⟨l, xs, hl, g.symm⟩
    exact ⟨⟨cs, e', by
      show (w.heap.setIfInBounds _ _)[_]? = _
      rw [heap_set_other hne]; exact g1, g2⟩, g3, fun g => g4 (hlive b g)⟩
  · exact fun b => Nat.le_trans (hfew (isAt b)) (s.inv.once b)
  · simpa using s.since.size
  · intro b hb ht
    have hne : b ≠ μ.getD l 0 := by
      intro g
      rcases s.since.liveT b ⟨l, xs, hl, g.symm⟩ with g2 | g2
      · omega
      · exact ht g2
    obtain ⟨g1, g2⟩ := s.since.kept b hb ht
    exact ⟨by
      show (w.heap.setIfInBounds _ _)[_]? = _
      rw [heap_set_other hne]; exact g1, g2⟩
  · exact fun b n c hm => s.since.ownT b n c (hfew.mem hm)
  · exact fun b hb => s.since.liveT b (hlive b hb)

/-- a variable that is settled: no store into it any more -/
theorem St'.settle (s : St' x w A μ h OH O) {l : Nat} {xs : List LV} (hl : h[l]? = some (some xs)) (O' : List Own) {c : Array Value} {e : TypeId} (hc : w.heap[μ.getD l 0]? = some (.cells c e (0, 0))) (m : Nat)
    (hf : ∀ p : Own → Bool, O'.countP p ≤ O.countP p + (OH.getD l []).countP p + (if p (μ.getD l 0, m, c.size) then 1 else 0)) :
    St' x w (A.put (μ.getD l 0) 0 m c) μ (h.set l none) (OH.set l []) O' := by
  have hlen := s.inv.len
  have hlenO := s.inv.lenO
  have hll : l < h.length := by
    rcases Nat.lt_or_ge l h.length with g | g
    · exact g
    · rw [List.getElem?_eq_none g] at hl; simp at hl
  have hlv : Live μ h (μ.getD l 0) := ⟨l, xs, hl, rfl⟩
  have hcs : ∀ v ∈ c.toList, v.oneCell' = true := by
    obtain ⟨c2, e2, g1, _, g3⟩ := s.inv.box l xs hl
    rw [hc] at g1
    obtain ⟨rfl, rfl⟩ : c = c2 ∧ e = e2 := by simpa using g1
    exact g3
  have hA : ∀ i, 0 ≤ i → A (μ.getD l 0) i = none := fun i _ => s.inv.loose _ hlv i
  have hle' := GM.put_le (A := A) (b := μ.getD l 0) (lo := 0) (hi := m) (cs := c) hA
  have hput : ∀ b', b' ≠ μ.getD l 0 → ∀ i, A.put (μ.getD l 0) 0 m c b' i = A b' i := by
    intro b' hb' i
    unfold GM.put
    rw [if_neg (fun h => hb' h.1)]
  have hlive : ∀ b, Live μ (h.set l none) b → Live μ h b ∧ b ≠ μ.getD l 0 := by
    rintro b ⟨k, ys, hk, hb⟩
    have hkl : k ≠ l := by
      intro hkl
      subst hkl
      rw [List.getElem?_set_self hll] at hk; simp at hk
    rw [List.getElem?_set_ne (fun g => hkl g.symm)] at hk
    exact ⟨⟨k, ys, hk, hb⟩, fun g => hkl (s.inv.apart k l ys xs hk hl (hb.trans g))⟩
  have hcnt : ∀ p : Own → Bool, (O' ++ (OH.set l []).flatten).countP p ≤ (O ++ OH.flatten).countP p + (if p (μ.getD l 0, m, c.size) then 1 else 0) := by
    intro p
    have h1 := hf p
    have h2 := count_flatten_set p [] OH l (by omega)
    simp only [List.countP_append, List.countP_nil] at h2 ⊢
    omega
  have hmem : ∀ {b n c'}, (b, n, c') ∈ O' ++ (OH.set l []).flatten → (b, n, c') ∈ O ++ OH.flatten ∨ (b = μ.getD l 0 ∧ n = m ∧ c' = c.size) := by
    intro b n c' hm
    exact (more_mem hcnt hm).imp id (fun h => by simpa using h)
  have hnone : (O ++ OH.flatten).countP (isAt (μ.getD l 0)) = 0 := by
    refine Nat.eq_zero_of_not_pos fun hp => ?_
    obtain ⟨m', c', hm⟩ := owns_count.2 hp
    exact (s.inv.own _ m' c' hm).2.2 hlv
  refine ⟨⟨by simp [hlen], by simp [hlenO], ?_, ?_, ?_, ?_, ?_, ?_⟩, ⟨s.since.size, ?_, ?_, ?_, ?_, s.since.ext, s.since.still⟩⟩
  · intro b i v hv
    by_cases hb : b = μ.getD l 0
    · subst hb
      unfold GM.put at hv
      by_cases hc' : μ.getD l 0 = μ.getD l 0 ∧ 0 ≤ i ∧ i < m
      · rw [if_pos hc'] at hv
        rw [cell_of_block hc]; exact hv
      · rw [if_neg hc', hA i (Nat.zero_le _)] at hv; simp at hv
    · rw [hput b hb] at hv
      exact s.inv.cells b i v hv
  · intro k ys hk
    have hkl : k ≠ l := by
      intro hkl
      subst hkl
      rw [List.getElem?_set_self hll] at hk; simp at hk
    rw [List.getElem?_set_ne (fun g => hkl g.symm)] at hk
    obtain ⟨c2, e', g1, g2, g3⟩ := s.inv.box k ys hk
    exact ⟨c2, e', g1, by
      rw [getD_set_other hkl]
      have := RepVals.mono (ν := []) hle' ys c2.toList _ g2
      simpa using this, g3⟩
  · intro b hb i
    obtain ⟨h1, h2⟩ := hlive b hb
    rw [hput b h2]
    exact s.inv.loose b h1 i
  · intro k k' ys ys' hk hk' heq
    have key : ∀ (k : Nat) (zs : List LV), (h.set l none)[k]? = some (some zs) → h[k]? = some (some zs) := by
      intro k zs hk
      have hkl : k ≠ l := by
        intro hkl
        subst hkl
        rw [List.getElem?_set_self hll] at hk; simp at hk
      rwa [List.getElem?_set_ne (fun g => hkl g.symm)] at hk
    exact s.inv.apart k k' ys ys' (key k ys hk) (key k' ys' hk') heq
  · intro b n c' hm
    rcases hmem hm with hm | ⟨rfl, rfl, rfl⟩
    · obtain ⟨g1, g3, g4⟩ := s.inv.own b n c' hm
      have hne : b ≠ μ.getD l 0 := fun g => g4 (g ▸ hlv)
      exact ⟨g1, fun i hi => by rw [hput b hne]; exact g3 i hi, fun g => g4 (hlive b g).1⟩
    · refine ⟨⟨c, e, hc, rfl, hcs⟩, fun i hi => ?_, fun g => (hlive _ g).2 rfl⟩
      unfold GM.put
      rw [if_neg (by omega)]
      exact hA i (Nat.zero_le _)
  · intro b
    have h1 := hcnt (isAt b)
    have h2 := s.inv.once b
    by_cases hb : b = μ.getD l 0
    · subst hb
      rw [hnone] at h1
      simp [isAt] at h1
      simpa [isAt] using h1
    · have : isAt b (μ.getD l 0, m, c.size) = false := by simp [isAt]; exact fun e => hb e.symm
      rw [this] at h1
      simp only [Bool.false_eq_true, if_false] at h1
      omega
  · intro b hb ht
    have hne : b ≠ μ.getD l 0 := by
      intro g
      rcases s.since.liveT b (g ▸ hlv) with g2 | g2
      · omega
      · exact ht g2
    obtain ⟨g1, g2⟩ := s.since.kept b hb ht
    exact ⟨g1, fun i => by rw [hput b hne]; exact g2 i⟩
  · intro b n c' hm
    rcases hmem hm with hm | ⟨rfl, _, _⟩
    · exact s.since.ownT b n c' hm
    · exact s.since.liveT _ hlv
  · exact fun b hb => s.since.liveT b (hlive b hb).1
  · exact fun b i v hv => hle' b i v (s.since.le b i v hv)
end

end Go.TL
