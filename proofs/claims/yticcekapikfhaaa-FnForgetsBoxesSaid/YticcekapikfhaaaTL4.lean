/- The instructions say what the operations do: the first half. No program, no conditions. -/
import Derived.Test.YticcekapikfhaaaTL3
namespace Go.TL

def Sim (x : Cx) (n : Nat) (s : St) (a : Act) (w : World) : Prop :=
  ∃ A μ OH Ot, a.tmps.size = n ∧ a.defers = [] ∧ (∀ i, i < n → Rep A μ (s.t i) (a.tmps.getD i undef) (Ot i)) ∧ St' x w A μ s.h OH (allO n Ot)

def getO (Ot : Nat → List Own) : X → List Own
  | .t i => Ot i
  | .k _ => []
def giveO (Ot : Nat → List Own) : X → (Nat → List Own)
  | .t i => upd Ot i []
  | .k _ => Ot

/-- an operand is one of the n slots, or a constant -/
def XOk (n : Nat) : X → Operand → Prop
  | .t i, o => o = .tmp i ∧ i < n
  | .k v, o => ∀ (A : GM) (μ : List Nat) (a : Act), Rep A μ v (a.eval o) []

theorem kLV_rep {P : Program} {e : TypeId} {v : Value} {l : LV} (h : kLV P e v = some l) (A : GM) (μ : List Nat) : Rep A μ l v [] := by
  unfold kLV at h
  split at h
  case h_8 f fs cs =>
    split at h
    · rename_i hz
      simp only [Option.some.injEq] at h; subst h
      obtain ⟨h1, h2⟩ := hz
      rw [Array.size_eq_zero_iff] at h1 h2
      simp [Rep, RepVals, h1, h2]
    · simp at h
  all_goals first
    | (split at h <;> (simp only [Option.some.injEq] at h; subst h; simp [Rep]); done)
    | (simp only [Option.some.injEq] at h; subst h; simp [Rep]; done)
    | (simp at h; done)

theorem cX_ok {P : Program} {n : Nat} {e : TypeId} {o : Operand} {y : X} (h : cX P n e o = some y) : XOk n y o := by
  cases o with
  | tmp i =>
    simp only [cX] at h
    split at h
    · simp only [Option.some.injEq] at h; subst h; exact ⟨rfl, by assumption⟩
    · simp at h
  | const v =>
    simp only [cX, Option.map_eq_some_iff] at h
    obtain ⟨l, hl, rfl⟩ := h
    exact fun A μ a => kLV_rep hl A μ
  | func f =>
    simp only [cX, Option.some.injEq] at h
    subst h
    exact fun A μ a => by simp [Rep, RepVals, Act.eval]
  | global g => simp [cX] at h

theorem cD_ok {n : Nat} {o : Oper} {d : Nat} (h : cD n o = some d) : o.dst = some d ∧ d < n := by
  unfold cD at h
  split at h
  · split at h
    · simp only [Option.some.injEq] at h; subst h; exact ⟨by assumption, by assumption⟩
    · simp at h
  · simp at h

section
variable {A B : GM} {μ ν : List Nat} {n : Nat} {t : Nat → LV} {tm : Array Value} {Ot : Nat → List Own}

theorem get_rep {a : Act} {y : X} {o : Operand} (hy : XOk n y o) (hr : ∀ i, i < n → Rep A μ (t i) (a.tmps.getD i undef) (Ot i)) :
    Rep A μ (get t y) (a.eval o) (getO Ot y) := by
  cases y with
  | t i =>
    obtain ⟨rfl, hi⟩ := hy
    exact hr i hi
  | k v => exact hy A μ a

theorem give_rep (y : X) (hr : ∀ i, i < n → Rep A μ (t i) (tm.getD i undef) (Ot i)) :
    ∀ i, i < n → Rep A μ (give t y i) (tm.getD i undef) (giveO Ot y i) := by
  cases y with
  | t j =>
    intro i hi
    simp only [give, giveO]
    by_cases h : i = j
    · subst h; rw [upd_same, upd_same]; exact Rep.share _ _ _ (hr i hi)
    · rw [upd_other _ _ _ h, upd_other _ _ _ h]; exact hr i hi
  | k v => exact hr

theorem give_count {y : X} {o : Operand} (hy : XOk n y o) (p : Own → Bool) :
    (allO n (giveO Ot y)).countP p + (getO Ot y).countP p = (allO n Ot).countP p := by
  cases y with
  | t i =>
    have := count_upd p Ot i [] n hy.2
    simpa [giveO, getO] using this
  | k v => simp [giveO, getO]

theorem give_fewer {y : X} {o : Operand} (hy : XOk n y o) : Fewer (allO n (giveO Ot y)) (allO n Ot) := fun p => by
  have := give_count (Ot := Ot) hy p; omega

theorem getD_put (tm : Array Value) (d i : Nat) (v : Value) (hd : d < tm.size) :
    (tm.setIfInBounds d v).getD i undef = if i = d then v else tm.getD i undef := by
  by_cases h : i = d
  · subst h; simp [Array.getD_eq_getD_getElem?, hd]
  · rw [if_neg h, Array.getD_eq_getD_getElem?, Array.getElem?_setIfInBounds_ne (fun e => h e.symm), ← Array.getD_eq_getD_getElem?]

theorem mk_put {x : Cx} {a : Act} {w' : World} {h' : List Box} {OH' : List (List Own)} {d : Nat} {v : Value} {lv : LV} {Od : List Own}
    (ht : a.tmps.size = n) (hd0 : a.defers = []) (hr : ∀ i, i < n → Rep A μ (t i) (a.tmps.getD i undef) (Ot i)) (hle : A.Le B)
    (hd : d < n) (hv : Rep B (μ ++ ν) lv v Od) (hs : St' x w' B (μ ++ ν) h' OH' (allO n (upd Ot d Od))) :
    Sim x n { t := upd t d lv, h := h' } (a.put (some d) v) w' := by
  refine ⟨B, μ ++ ν, OH', upd Ot d Od, by simpa [Act.put] using ht, by simpa [Act.put] using hd0, fun i hi => ?_, hs⟩
  simp only [Act.put]
  rw [getD_put _ _ _ _ (by omega)]
  by_cases h : i = d
  · subst h; rw [upd_same, upd_same, if_pos rfl]; exact hv
  · rw [upd_other _ _ _ h, upd_other _ _ _ h, if_neg h]; exact Rep.mono hle _ _ _ (hr i hi)

/-- a slot is put, nothing else is turned, nothing more is owned -/
theorem put_same {x : Cx} {a : Act} {w : World} {h : List Box} {OH : List (List Own)} {d : Nat} {v : Value} {lv : LV} {Od : List Own} {O : List Own}
    (ht : a.tmps.size = n) (hd0 : a.defers = []) (hr : ∀ i, i < n → Rep A μ (t i) (a.tmps.getD i undef) (Ot i))
    (hd : d < n) (hv : Rep A μ lv v Od) (hs : St' x w A μ h OH O) (hf : ∀ p : Own → Bool, (allO n Ot).countP p + Od.countP p ≤ O.countP p) :
    Sim x n { t := upd t d lv, h := h } (a.put (some d) v) w := by
  have := mk_put (x := x) (w' := w) (h' := h) (OH' := OH) (ν := []) (B := A) (lv := lv) (v := v) (Od := Od) ht hd0 hr (fun _ _ _ h => h) hd (by simpa using hv) (by
    rw [List.append_nil]
    refine hs.fewer fun p => ?_
    have h1 := count_upd p Ot d Od n hd
    have h2 := hf p
    omega)
  exact this
end

/-- what an operation's run must do for an instruction -/
def Good (P : Program) (x : Cx) (n : Nat) (o : Oper) (s' : St) (a : Act) (w : World) : Prop :=
  ∀ (next : Act → World → Prop) (Q : Exit → Act → World → Prop), (∀ a' w', Sim x n s' a' w' → next a' w') → o.wp P a w next Q

theorem good_value {P : Program} {x : Cx} {n : Nat} {o : Oper} {s' : St} {a : Act} {w w' : World} {v : Value}
    (hrun : (execOp a.eval o).run P w = .ok (.value v) w') (h : Sim x n s' (a.put o.dst v) w') : Good P x n o s' a w := by
  intro next Q hn
  unfold Oper.wp
  rw [hrun]
  exact hn _ _ h

theorem good_skip {P : Program} {x : Cx} {n : Nat} {o : Oper} {s' : St} {a : Act} {w w' : World}
    (hrun : (execOp a.eval o).run P w = .ok .skip w') (h : Sim x n s' (a.put o.dst undef) w') : Good P x n o s' a w := by
  intro next Q hn
  unfold Oper.wp
  rw [hrun]
  exact hn _ _ h

section
variable {P : Program} {x : Cx} {n : Nat} {o : Oper} {s s' : St} {a : Act} {w : World}

theorem sound_mv_copy {d : Nat} {y : X} {u : Operand} (he : execOp a.eval o = pure (.value (a.eval u))) (hd : o.dst = some d) (hdn : d < n) (hy : XOk n y u)
    (hs : step (.mv d .copy y) s = some s') (sim : Sim x n s a w) : Good P x n o s' a w := by
  obtain ⟨A, μ, OH, Ot, ht, h0, hr, st⟩ := sim
  simp only [step, Option.some.injEq] at hs
  subst hs
  refine good_value (v := a.eval u) (w' := w) (by rw [he]; rfl) ?_
  rw [hd]
  exact put_same ht h0 hr hdn (Rep.share _ _ _ (get_rep hy hr)) st (fun p => by simp)

theorem sound_mv_take {d : Nat} {y : X} {u : Operand} (he : execOp a.eval o = pure (.value (a.eval u))) (hd : o.dst = some d) (hdn : d < n) (hy : XOk n y u)
    (hs : step (.mv d .take y) s = some s') (sim : Sim x n s a w) : Good P x n o s' a w := by
  obtain ⟨A, μ, OH, Ot, ht, h0, hr, st⟩ := sim
  simp only [step, Option.some.injEq] at hs
  subst hs
  refine good_value (v := a.eval u) (w' := w) (by rw [he]; rfl) ?_
  rw [hd]
  exact put_same ht h0 (give_rep y hr) hdn (get_rep hy hr) st (fun p => Nat.le_of_eq (give_count hy p))
end

end Go.TL
