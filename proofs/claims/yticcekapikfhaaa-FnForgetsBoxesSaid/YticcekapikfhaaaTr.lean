/- Plain facts on types as trees. No program, no conditions. -/
import Derived.Test.YticcekapikfhaaaTy
namespace Go.Proofs.Yticcekapikfhaaa.Ty

inductive RT where
  | nd (c : Int) (ks : List RT)
mutual
def RT.flat : RT → List Int
  | .nd c ks => c :: flats ks
def flats : List RT → List Int
  | [] => []
  | t :: ts => t.flat ++ flats ts
end
mutual
def RT.ok : RT → Prop
  | .nd c ks => kidsN c = some ks.length ∧ oks ks
def oks : List RT → Prop
  | [] => True
  | t :: ts => t.ok ∧ oks ts
end

theorem oks_iff : ∀ {ts : List RT}, oks ts ↔ ∀ t ∈ ts, t.ok
  | [] => by simp [oks]
  | t :: ts => by simp [oks, oks_iff (ts := ts)]
theorem flats_app : ∀ (ts us : List RT), flats (ts ++ us) = flats ts ++ flats us
  | [], us => by simp [flats]
  | t :: ts, us => by simp [flats, flats_app ts us]
theorem flats_flatMap : ∀ (ts : List RT), flats ts = ts.flatMap RT.flat
  | [] => by simp [flats]
  | t :: ts => by simp [flats, flats_flatMap ts]

theorem parse : ∀ (l : List Int) (n : Nat) (r : List Int), Ty.skip n l = some r → ∃ ts : List RT, ts.length = n ∧ oks ts ∧ l = flats ts ++ r
  | l, 0, r, h => by simp [Ty.skip] at h; exact ⟨[], rfl, by simp [oks], by simp [flats, h]⟩
  | [], n + 1, r, h => by simp [Ty.skip] at h
  | c :: l, n + 1, r, h => by
    simp only [Ty.skip] at h
    cases hk : kidsN c with
    | none => simp [hk] at h
    | some k =>
      simp only [hk] at h
      obtain ⟨ts, h1, h2, h3⟩ := parse l (n + k) r h
      refine ⟨.nd c (ts.take k) :: ts.drop k, by simp; omega, ?_, ?_⟩
      · rw [oks_iff] at h2
        simp only [oks, RT.ok, oks_iff, hk]
        refine ⟨⟨by simp; omega, fun t ht => h2 t (List.mem_of_mem_take ht)⟩, fun t ht => h2 t (List.mem_of_mem_drop ht)⟩
      · rw [h3]
        simp only [flats, RT.flat, List.cons_append]
        rw [← flats_app, List.take_append_drop]

mutual
theorem RT.skip_flat : ∀ (t : RT) (r : List Int), t.ok → Ty.skip 1 (t.flat ++ r) = some r
  | .nd c ks, r, h => by
    simp only [RT.ok] at h
    simp only [RT.flat, List.cons_append, Ty.skip, h.1]
    rw [Nat.zero_add]
    exact skip_flats ks r h.2
theorem skip_flats : ∀ (ts : List RT) (r : List Int), oks ts → Ty.skip ts.length (flats ts ++ r) = some r
  | [], r, _ => by simp [flats, Ty.skip]
  | t :: ts, r, h => by
    simp only [oks] at h
    simp only [flats, List.append_assoc, List.length_cons]
    rw [Nat.add_comm, skip_add, RT.skip_flat t _ h.1]
    exact skip_flats ts r h.2
end

theorem RT.flat_pos (t : RT) : 0 < t.flat.length := by cases t; simp [RT.flat]

theorem wty_tree {l : List Int} (h : wty l = true) : ∃ t : RT, t.ok ∧ l = t.flat ∧ l.length ≤ 40 := by
  simp [wty] at h
  obtain ⟨⟨h1, h2⟩, h3⟩ := h
  obtain ⟨ts, g1, g2, g3⟩ := parse l 1 [] h3
  match ts, g1 with
  | [t], _ =>
    simp only [oks] at g2
    exact ⟨t, g2.1, by simpa [flats] using g3, h2⟩

theorem tree_wty {t : RT} (h : t.ok) (hl : t.flat.length ≤ 40) : wty t.flat = true := by
  have := RT.skip_flat t [] h
  rw [List.append_nil] at this
  have := t.flat_pos
  simp [wty, *]; omega

/-- where a subtree ends -/
theorem endOf_flat {t : RT} (h : t.ok) (r : List Int) (len : Nat) : endOf 1 (t.flat ++ r) len = (len : Int) - r.length := by
  unfold endOf
  rw [RT.skip_flat t r h]

mutual
/-- a type with boxes in place of grades of arrows -/
def RT.boxed : RT → List Int
  | .nd c ks => (if isArrow c = true then [4, if c = 35 then 36 else c + 16] else [c]) ++ boxedAll ks
def boxedAll : List RT → List Int
  | [] => []
  | t :: ts => t.boxed ++ boxedAll ts
end
theorem boxedAll_app : ∀ (ts us : List RT), boxedAll (ts ++ us) = boxedAll ts ++ boxedAll us
  | [], us => by simp [boxedAll]
  | t :: ts, us => by simp [boxedAll, boxedAll_app ts us]
mutual
theorem RT.boxed_length : ∀ (t : RT), t.boxed.length ≤ 2 * t.flat.length
  | .nd c ks => by
    have := boxedAll_length ks
    simp only [RT.boxed, RT.flat, List.length_append, List.length_cons]
    have : (if isArrow c = true then [4, if c = 35 then 36 else c + 16] else [c]).length ≤ 2 := by split <;> simp
    omega
theorem boxedAll_length : ∀ (ts : List RT), (boxedAll ts).length ≤ 2 * (flats ts).length
  | [] => by simp [boxedAll]
  | t :: ts => by
    have h1 := t.boxed_length
    have h2 := boxedAll_length ts
    simp only [boxedAll, flats, List.length_append]; omega
end
end Go.Proofs.Yticcekapikfhaaa.Ty
