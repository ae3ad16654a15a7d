/- Plain facts on lists of type codes: what a wty type is, where a type ends, and what is left when grades are forgotten. No program, no conditions. -/
namespace Go.Proofs.Yticcekapikfhaaa.Ty

def isArrow (c : Int) : Bool := (decide (3 ≤ c) && decide (c ≤ 18)) || c == 35
def isBox (c : Int) : Bool := (decide (19 ≤ c) && decide (c ≤ 34)) || c == 36
def kidsN (c : Int) : Option Nat :=
  if c = 0 then some 0 else if c = 1 ∨ c = 2 ∨ isArrow c = true then some 2 else if isBox c = true then some 1 else none
def skip : Nat → List Int → Option (List Int)
  | 0, l => some l
  | _ + 1, [] => none
  | n + 1, c :: l => match kidsN c with
    | none => none
    | some k => skip (n + k) l
def endOf (n : Nat) (l : List Int) (len : Nat) : Int := match skip n l with
  | some r => (len : Int) - r.length
  | none => -1
def wty (l : List Int) : Bool := decide (1 ≤ l.length) && decide (l.length ≤ 40) && (skip 1 l == some [])
def forgot (l : List Int) : List Int := l.flatMap fun c => if isBox c = true then [] else if isArrow c = true then [4] else [c]

theorem kidsN_le {c : Int} {k : Nat} (h : kidsN c = some k) : k ≤ 2 := by
  unfold kidsN at h
  split at h
  · simp at h; omega
  · split at h
    · simp at h; omega
    · split at h
      · simp at h; omega
      · simp at h

theorem skip_add (b : Nat) : ∀ (l : List Int) (a : Nat), skip (a + b) l = (skip a l).bind (skip b)
  | [], 0 => by simp [skip]
  | [], a + 1 => by rw [show a + 1 + b = (a + b) + 1 by omega]; simp [skip]
  | c :: l, 0 => by simp [skip]
  | c :: l, a + 1 => by
    rw [show a + 1 + b = (a + b) + 1 by omega]
    simp only [skip]
    cases h : kidsN c with
    | none => simp
    | some k =>
      simp only
      rw [show a + b + k = (a + k) + b by omega]
      exact skip_add b l (a + k)

theorem skip_drop : ∀ (l : List Int) (n : Nat) (r : List Int), skip n l = some r → ∃ m, r = l.drop m ∧ n ≤ m ∧ m ≤ l.length
  | l, 0, r, h => ⟨0, by simp [skip] at h; simp [h], by omega, by omega⟩
  | [], n + 1, r, h => by simp [skip] at h
  | c :: l, n + 1, r, h => by
    simp only [skip] at h
    cases hk : kidsN c with
    | none => simp [hk] at h
    | some k =>
      simp only [hk] at h
      obtain ⟨m, hm, h1, h2⟩ := skip_drop l (n + k) r h
      exact ⟨m + 1, by simpa using hm, by omega, by simp; omega⟩

theorem skip_length {l r : List Int} {n : Nat} (h : skip n l = some r) : r.length + n ≤ l.length := by
  obtain ⟨m, rfl, h1, h2⟩ := skip_drop l n r h
  simp; omega

theorem forgot_length (l : List Int) : (forgot l).length ≤ l.length := by
  induction l with
  | nil => simp [forgot]
  | cons c l ih =>
    simp only [forgot, List.flatMap_cons, List.length_append, List.length_cons] at ih ⊢
    have : (if isBox c = true then ([] : List Int) else if isArrow c = true then [4] else [c]).length ≤ 1 := by
      split
      · simp
      · split <;> simp
    omega

theorem forgot_snoc (l : List Int) (c : Int) : forgot (l ++ [c]) = forgot l ++ (if isBox c = true then [] else if isArrow c = true then [4] else [c]) := by
  simp [forgot]

end Go.Proofs.Yticcekapikfhaaa.Ty
