/- Values as trees: what a value of the machine says when a ghost memory of settled cells is known. No program, no conditions. -/
import Derived.WalkKit
namespace Go.TL

/-- A value as a tree. `sc`: no address in it; `sl u nil sz xs`: a slice whose elements are the rows xs of sz cells (u: it alone may grow in its block); `ha`: a slice over a variable's block; `ptr`: into a variable; `both`: that value, of which the tree is told; `rp`: to settled cells. -/
inductive LV where
  | sc (v : Value)
  | sl (u nil : Bool) (sz : Nat) (xs : List (List LV))
  | ha (l sz off len cap : Nat)
  | ptr (l o : Nat)
  | rp (xs : List LV)
  | fn (f : FuncId) (caps : List LV)
  | fnm (f : FuncId) (first : List LV)
  | agg (xs : List LV)
  | tup (xs : List LV)
  | raw (sz : Nat)
  | dead
  | both (u : Value) (t : LV)
  deriving Inhabited

/-- cells that will never change -/
abbrev GM := Nat → Nat → Option Value
/-- a block that a tree alone may grow in: its number, how many cells are settled, how many there are -/
abbrev Own := Nat × Nat × Nat

mutual
def Rep (A : GM) (μ : List Nat) : LV → Value → List Own → Prop
  | .sc u, v, O => v = u ∧ O = []
  | .sl u nil sz xs, v, O =>
    (nil = true ∧ v = .slice none 0 0 ∧ xs = [] ∧ O = []) ∨
    (nil = false ∧ ∃ b off sp cap O', v = .slice (some ⟨b, off, sp⟩) xs.length cap ∧ (sp = none ∨ (xs = [] ∧ (u = false ∨ cap = 0))) ∧ xs.length ≤ cap ∧ RepRow A μ xs sz b off O' ∧
      ((u = true ∧ off = 0 ∧ O = (b, xs.length * sz, cap * sz) :: O') ∨ ((u = false ∨ cap = 0) ∧ O = O')))
  | .raw sz, v, O => ∃ b len cap, v = .slice (some ⟨b, 0, none⟩) len cap ∧ O = [(b, 0, cap * sz)]
  | .ha l sz off len cap, v, O => O = [] ∧ l < μ.length ∧ v = .slice (some ⟨μ.getD l 0, off * sz, none⟩) len cap
  | .ptr l o, v, O => O = [] ∧ l < μ.length ∧ v = .pointer (some ⟨μ.getD l 0, o, none⟩)
  | .rp xs, v, O => ∃ b off, v = .pointer (some ⟨b, off, none⟩) ∧ RepCells A μ xs b off O
  | .fn f caps, v, O => ∃ vs : List Value, v = .func (.func f) #[] vs.toArray ∧ RepVals A μ caps vs O
  | .fnm f first, v, O => ∃ vs : List Value, v = .func (.func f) vs.toArray #[] ∧ RepVals A μ first vs O
  | .agg xs, v, O => ∃ vs : List Value, v = .agg vs.toArray ∧ (∀ c ∈ vs, c.oneCell' = true) ∧ RepVals A μ xs vs O
  | .tup xs, v, O => ∃ vs : List Value, v = .tuple vs.toArray ∧ RepVals A μ xs vs O
  | .dead, _, O => O = []
  | .both u t, v, O => O = [] ∧ v = u ∧ Rep A μ t v []
def RepRow (A : GM) (μ : List Nat) : List (List LV) → Nat → Nat → Nat → List Own → Prop
  | [], _, _, _, O => O = []
  | x :: xs, sz, b, off, O => ∃ O1 O2, O = O1 ++ O2 ∧ x.length = sz ∧ RepCells A μ x b off O1 ∧ RepRow A μ xs sz b (off + sz) O2
def RepCells (A : GM) (μ : List Nat) : List LV → Nat → Nat → List Own → Prop
  | [], _, _, O => O = []
  | x :: xs, b, off, O => ∃ v O1 O2, O = O1 ++ O2 ∧ A b off = some v ∧ v.oneCell' = true ∧ Rep A μ x v O1 ∧ RepCells A μ xs b (off + 1) O2
def RepVals (A : GM) (μ : List Nat) : List LV → List Value → List Own → Prop
  | [], vs, O => vs = [] ∧ O = []
  | x :: xs, vs, O => ∃ v ws O1 O2, vs = v :: ws ∧ O = O1 ++ O2 ∧ Rep A μ x v O1 ∧ RepVals A μ xs ws O2
end

mutual
def share : LV → LV
  | .sc v => .sc v
  | .sl _ nil sz xs => .sl false nil sz (shareRow xs)
  | .ha l sz off len cap => .ha l sz off len cap
  | .raw _ => .dead
  | .ptr l o => .ptr l o
  | .rp xs => .rp (shareAll xs)
  | .fn f caps => .fn f (shareAll caps)
  | .fnm f first => .fnm f (shareAll first)
  | .agg xs => .agg (shareAll xs)
  | .tup xs => .tup (shareAll xs)
  | .dead => .dead
  | .both _ t => share t
def shareAll : List LV → List LV
  | [] => []
  | x :: xs => share x :: shareAll xs
def shareRow : List (List LV) → List (List LV)
  | [] => []
  | x :: xs => shareAll x :: shareRow xs
end

theorem shareAll_length : ∀ xs : List LV, (shareAll xs).length = xs.length
  | [] => rfl
  | _ :: xs => by simp [shareAll, shareAll_length xs]
theorem shareRow_length : ∀ xs : List (List LV), (shareRow xs).length = xs.length
  | [] => rfl
  | _ :: xs => by simp [shareRow, shareRow_length xs]
theorem shareAll_eq_map : ∀ xs : List LV, shareAll xs = xs.map share
  | [] => rfl
  | _ :: xs => by simp [shareAll, shareAll_eq_map xs]
theorem shareRow_eq_map : ∀ xs : List (List LV), shareRow xs = xs.map (·.map share)
  | [] => rfl
  | _ :: xs => by simp [shareRow, shareRow_eq_map xs, shareAll_eq_map]

/-- one ghost memory holds what the other holds -/
def GM.Le (A B : GM) : Prop := ∀ b i v, A b i = some v → B b i = some v

section mono
variable {A B : GM} {μ ν : List Nat}
theorem getD_prefix {l : Nat} (h : l < μ.length) : (μ ++ ν).getD l 0 = μ.getD l 0 := by
  simp [List.getD_eq_getElem?_getD, List.getElem?_append_left h]
mutual
theorem Rep.mono (hA : A.Le B) : ∀ (x : LV) (v : Value) (O : List Own), Rep A μ x v O → Rep B (μ ++ ν) x v O
  | .sc _, _, _, h => h
  | .sl _ _ _ xs, _, _, h => by
    simp only [Rep] at h ⊢
    rcases h with h | ⟨h1, b, off, sp, cap, O', h2, hs, h3, h4, h5⟩
    · exact .inl h
    · exact .inr ⟨h1, b, off, sp, cap, O', h2, hs, h3, RepRow.mono hA xs _ _ _ _ h4, h5⟩
  | .ha _ _ _ _ _, _, _, h => by
    simp only [Rep] at h ⊢
    obtain ⟨h1, h2, h3⟩ := h
    rw [getD_prefix h2]
    exact ⟨h1, by simp; omega, h3⟩
  | .ptr _ _, _, _, h => by
    simp only [Rep] at h ⊢
    obtain ⟨h1, h2, h3⟩ := h
    rw [getD_prefix h2]
    exact ⟨h1, by simp; omega, h3⟩
  | .rp xs, _, _, h => by
    simp only [Rep] at h ⊢
    obtain ⟨b, off, h1, h2⟩ := h
    exact ⟨b, off, h1, RepCells.mono hA xs _ _ _ h2⟩
  | .fn _ xs, _, _, h => by
    simp only [Rep] at h ⊢
    obtain ⟨vs, h1, h2⟩ := h
    exact ⟨vs, h1, RepVals.mono hA xs _ _ h2⟩
  | .fnm _ xs, _, _, h => by
    simp only [Rep] at h ⊢
    obtain ⟨vs, h1, h2⟩ := h
    exact ⟨vs, h1, RepVals.mono hA xs _ _ h2⟩
  | .agg xs, _, _, h => by
    simp only [Rep] at h ⊢
    obtain ⟨vs, h1, h0, h2⟩ := h
    exact ⟨vs, h1, h0, RepVals.mono hA xs _ _ h2⟩
  | .tup xs, _, _, h => by
    simp only [Rep] at h ⊢
    obtain ⟨vs, h1, h2⟩ := h
    exact ⟨vs, h1, RepVals.mono hA xs _ _ h2⟩
  | .raw _, _, _, h => by simpa only [Rep] using h
  | .dead, _, _, h => h
  | .both _ t, _, _, h => by
    simp only [Rep] at h ⊢
    exact ⟨h.1, h.2.1, Rep.mono hA t _ _ h.2.2⟩
theorem RepRow.mono (hA : A.Le B) : ∀ (xs : List (List LV)) (sz b off : Nat) (O : List Own), RepRow A μ xs sz b off O → RepRow B (μ ++ ν) xs sz b off O
  | [], _, _, _, _, h => h
  | x :: xs, _, _, _, _, h => by
    simp only [RepRow] at h ⊢
    obtain ⟨O1, O2, h1, h2, h3, h4⟩ := h
    exact ⟨O1, O2, h1, h2, RepCells.mono hA x _ _ _ h3, RepRow.mono hA xs _ _ _ _ h4⟩
theorem RepCells.mono (hA : A.Le B) : ∀ (xs : List LV) (b off : Nat) (O : List Own), RepCells A μ xs b off O → RepCells B (μ ++ ν) xs b off O
  | [], _, _, _, h => h
  | x :: xs, _, _, _, h => by
    simp only [RepCells] at h ⊢
    obtain ⟨v, O1, O2, h1, h2, h2', h3, h4⟩ := h
    exact ⟨v, O1, O2, h1, hA _ _ _ h2, h2', Rep.mono hA x _ _ h3, RepCells.mono hA xs _ _ _ h4⟩
theorem RepVals.mono (hA : A.Le B) : ∀ (xs : List LV) (vs : List Value) (O : List Own), RepVals A μ xs vs O → RepVals B (μ ++ ν) xs vs O
  | [], _, _, h => h
  | x :: xs, _, _, h => by
    simp only [RepVals] at h ⊢
    obtain ⟨v, ws, O1, O2, h1, h2, h3, h4⟩ := h
    exact ⟨v, ws, O1, O2, h1, h2, Rep.mono hA x _ _ h3, RepVals.mono hA xs _ _ h4⟩
end
end mono

section shares
variable {A : GM} {μ : List Nat}
mutual
theorem Rep.share : ∀ (x : LV) (v : Value) (O : List Own), Rep A μ x v O → Rep A μ (share x) v []
  | .sc _, _, _, h => by simp only [Rep, TL.share] at h ⊢; exact ⟨h.1, trivial⟩
  | .sl _ _ _ xs, _, _, h => by
    simp only [Rep, TL.share] at h ⊢
    rcases h with ⟨h1, h2, h3, _⟩ | ⟨h1, b, off, sp, cap, O', h2, hs, h3, h4, _⟩
    · subst h3; exact .inl ⟨h1, h2, rfl, trivial⟩
    · exact .inr ⟨h1, b, off, sp, cap, [], by rw [shareRow_length]; exact h2, hs.imp id (fun k => ⟨by rw [k.1]; simp [shareRow], .inl trivial⟩), by rw [shareRow_length]; exact h3, RepRow.share xs _ _ _ _ h4, .inr ⟨.inl trivial, rfl⟩⟩
  | .ha _ _ _ _ _, _, _, h => by simp only [Rep, TL.share] at h ⊢; exact ⟨trivial, h.2⟩
  | .ptr _ _, _, _, h => by simp only [Rep, TL.share] at h ⊢; exact ⟨trivial, h.2⟩
  | .rp xs, _, _, h => by
    simp only [Rep, TL.share] at h ⊢
    obtain ⟨b, off, h1, h2⟩ := h
    exact ⟨b, off, h1, RepCells.share xs _ _ _ h2⟩
  | .fn _ xs, _, _, h => by
    simp only [Rep, TL.share] at h ⊢
    obtain ⟨vs, h1, h2⟩ := h
    exact ⟨vs, h1, RepVals.share xs _ _ h2⟩
  | .fnm _ xs, _, _, h => by
    simp only [Rep, TL.share] at h ⊢
    obtain ⟨vs, h1, h2⟩ := h
    exact ⟨vs, h1, RepVals.share xs _ _ h2⟩
  | .agg xs, _, _, h => by
    simp only [Rep, TL.share] at h ⊢
    obtain ⟨vs, h1, h0, h2⟩ := h
    exact ⟨vs, h1, h0, RepVals.share xs _ _ h2⟩
  | .tup xs, _, _, h => by
    simp only [Rep, TL.share] at h ⊢
    obtain ⟨vs, h1, h2⟩ := h
    exact ⟨vs, h1, RepVals.share xs _ _ h2⟩
  | .raw _, _, _, _ => by simp only [Rep, TL.share]
  | .dead, _, _, _ => by simp only [Rep, TL.share]
  | .both _ t, _, _, h => by
    simp only [Rep] at h
    simp only [TL.share]
    exact Rep.share t _ _ h.2.2
theorem RepRow.share : ∀ (xs : List (List LV)) (sz b off : Nat) (O : List Own), RepRow A μ xs sz b off O → RepRow A μ (shareRow xs) sz b off []
  | [], _, _, _, _, _ => by simp only [RepRow, shareRow]
  | x :: xs, _, _, _, _, h => by
    simp only [RepRow, shareRow] at h ⊢
    obtain ⟨O1, O2, _, h2, h3, h4⟩ := h
    exact ⟨[], [], rfl, by rw [shareAll_length]; exact h2, RepCells.share x _ _ _ h3, RepRow.share xs _ _ _ _ h4⟩
theorem RepCells.share : ∀ (xs : List LV) (b off : Nat) (O : List Own), RepCells A μ xs b off O → RepCells A μ (shareAll xs) b off []
  | [], _, _, _, _ => by simp only [RepCells, shareAll]
  | x :: xs, _, _, _, h => by
    simp only [RepCells, shareAll] at h ⊢
    obtain ⟨v, O1, O2, _, h2, h2', h3, h4⟩ := h
    exact ⟨v, [], [], rfl, h2, h2', Rep.share x _ _ h3, RepCells.share xs _ _ _ h4⟩
theorem RepVals.share : ∀ (xs : List LV) (vs : List Value) (O : List Own), RepVals A μ xs vs O → RepVals A μ (shareAll xs) vs []
  | [], _, _, h => by simp only [RepVals, shareAll] at h ⊢; exact ⟨h.1, trivial⟩
  | x :: xs, _, _, h => by
    simp only [RepVals, shareAll] at h ⊢
    obtain ⟨v, ws, O1, O2, h1, _, h3, h4⟩ := h
    exact ⟨v, ws, [], [], h1, rfl, Rep.share x _ _ h3, RepVals.share xs _ _ h4⟩
end
end shares

end Go.TL
