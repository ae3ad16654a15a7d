/- Calls that turn a cursor alone. No program, no conditions. -/
import Derived.Test.YticcekapikfhaaaTLN
namespace Go.TL

/-- what variables hold speaks of variables that there are -/
def LowH (h : List Box) : Prop := ∀ (l : Nat) (xs : List LV), h[l]? = some (some xs) → LowAll h.length xs
theorem WInv.lowH {w : World} {A : GM} {μ : List Nat} {h : List Box} {OH : List (List Own)} {O : List Own} (i : WInv w A μ h OH O) : LowH h := by
  intro l xs hl
  obtain ⟨c, e, _, h2, _⟩ := i.box l xs hl
  rw [← i.len]
  exact RepVals.seen xs _ _ h2
theorem codeOf_callable {P : Program} {f : FuncId} {m : List (Nat × List Md)} {k : C} {rvs : List RV} {n : Nat} (hc : codeOf P f m = some (k, rvs, n)) : callable P f = true := by
  unfold codeOf at hc
  split at hc
  · rename_i hcal; exact hcal
  · simp at hc
theorem LCalls.of_low {P : Program} {f : FuncId} {args : List LV} {h : List Box} {R : LV → List Box → Prop} (hc : callable P f = true) (hex : ∃ r h', R r h') (c : LowH h → LCalls P f args h R) : LCalls P f args h R :=
  ⟨hc, hex, fun w A μ OH vals Oa hv hi => (c hi.lowH).2.2 w A μ OH vals Oa hv hi⟩

/-- a code: its bytes -/
structure Dr where
  nl : Bool
  bs : List Int
abbrev Dr.lv (D : Dr) : LV := .sl false D.nl 1 (D.bs.map fun b => [.sc (.int .u8 b)])
structure Dr.ok (D : Dr) : Prop where
  len : D.bs.length ≤ 1099511627776
  byte : ∀ b ∈ D.bs, 0 ≤ b ∧ b ≤ 255
/-- a cursor's numbers -/
def CurOk (D : Dr) (i k : Int) : Prop := 0 ≤ i ∧ i ≤ D.bs.length ∧ -9223372036854775808 ≤ k ∧ k ≤ 9223372036854775807
/-- a call with a cursor: it is turned, all other variables stay; Q holds of the result -/
def FCalls (P : Program) (D : Dr) (f : FuncId) (rest : List LV) (Q : LV → Prop) : Prop :=
  ∀ (h1 h3 : List Box) (ct : LV) (i k : Int), share ct = D.lv → CurOk D i k → LCalls P f (.ptr h1.length 0 :: rest) (h1 ++ some [ct, N i, N k] :: h3) fun r h' => ∃ i' k', CurOk D i' k' ∧ Q r ∧ h' = h1 ++ some [ct, N i', N k'] :: h3

section
variable {P : Program} {D : Dr} {K : St → Prop}
theorem split_at {h : List Box} {l : Nat} {b : Box} (hl : h[l]? = some b) : h = h.take l ++ b :: h.drop (l + 1) ∧ (h.take l).length = l := by
  have hll : l < h.length := by
    rcases Nat.lt_or_ge l h.length with g | g
    · exact g
    · rw [List.getElem?_eq_none g] at hl; simp at hl
  refine ⟨?_, by simp; omega⟩
  have e : h[l] = b := by rw [List.getElem?_eq_getElem hll] at hl; simpa using hl
  rw [← e, List.getElem_cons_drop, List.take_append_drop]
theorem FCalls.framed {f : FuncId} {rest : List LV} {Q : LV → Prop} (c : FCalls P D f rest Q) {l : Nat} {ct : LV} {i k : Int} (hct : share ct = D.lv) (hk : CurOk D i k) (h2 : List Box) (hl : h2[l]? = some (some [ct, N i, N k])) :
    LCalls P f (.ptr l 0 :: rest) h2 fun r h' => ∃ xs', (∃ i' k', CurOk D i' k' ∧ Q r ∧ xs' = [ct, N i', N k']) ∧ h' = h2.set l (some xs') := by
  obtain ⟨e1, e2⟩ := split_at hl
  have := c (h2.take l) (h2.drop (l + 1)) ct i k hct hk
  rw [e2, ← e1] at this
  refine this.mono fun r h' hr => ?_
  obtain ⟨i', k', q1, q2, rfl⟩ := hr
  refine ⟨_, ⟨i', k', q1, q2, rfl⟩, ?_⟩
  conv => rhs; rw [e1]
  rw [List.set_append_right _ _ (by omega)]
  simp [e2]
/-- a call with a cursor -/
theorem onCall_cur {d : Nat} {f : FuncId} {rest : List LV} {Q : LV → Prop} {t : Nat → LV} {h1 h3 : List Box} {ct : LV} {i k : Int} (c : FCalls P D f rest Q) (hct : share ct = D.lv) (hk : CurOk D i k)
    (hh : ∀ r i' k', CurOk D i' k' → Q r → K { t := upd t d r, h := h1 ++ some [ct, N i', N k'] :: h3 }) : onCall P .fr f (.ptr h1.length 0 :: rest) (some d) K { t := t, h := h1 ++ some [ct, N i, N k] :: h3 } := by
  refine onCall_fr (l := h1.length) (o := 0) (xs := [ct, N i, N k]) (c.framed hct hk) (by simp) (by simp) ?_
  rintro r xs' ⟨i', k', q1, q2, rfl⟩
  simpa using hh r i' k' q1 q2
theorem onCall_cur0 {d : Nat} {f : FuncId} {rest : List LV} {Q : LV → Prop} {t : Nat → LV} {h3 : List Box} {ct : LV} {i k : Int} (c : FCalls P D f rest Q) (hct : share ct = D.lv) (hk : CurOk D i k)
    (hh : ∀ r i' k', CurOk D i' k' → Q r → K { t := upd t d r, h := some [ct, N i', N k'] :: h3 }) : onCall P .fr f (.ptr 0 0 :: rest) (some d) K { t := t, h := some [ct, N i, N k] :: h3 } :=
  onCall_cur (h1 := []) c hct hk hh
theorem FCalls.mono {f : FuncId} {rest : List LV} {Q Q' : LV → Prop} (c : FCalls P D f rest Q) (h : ∀ r, Q r → Q' r) : FCalls P D f rest Q' :=
  fun h1 h3 ct i k hct hk => (c h1 h3 ct i k hct hk).mono fun r h' hr => by
    obtain ⟨i', k', q1, q2, q3⟩ := hr
    exact ⟨i', k', q1, h r q2, q3⟩
/-- what must hold at the end of a function with a cursor -/
def PostC (D : Dr) (rvs : List RV) (h1 h3 : List Box) (ct : LV) (Q : LV → Prop) : Exit → St → Prop := fun e s => (e = .normal ∨ e = .ret) ∧
  ∃ r s' i' k' ex, rvVals s rvs = some (r, s') ∧ s'.h = h1 ++ some [ct, N i', N k'] :: (h3 ++ ex) ∧ CurOk D i' k' ∧ Low 0 (pack r) ∧ Q (pack r)
theorem postC_post {rvs : List RV} {h1 h3 : List Box} {ct : LV} {i j : Int} {Q : LV → Prop} {e : Exit} {s : St} (lh : LowH (h1 ++ some [ct, N i, N j] :: h3)) (hs : PostC D rvs h1 h3 ct Q e s) :
    Post rvs (h1 ++ some [ct, N i, N j] :: h3).length (fun r h' => ∃ i' k', CurOk D i' k' ∧ Q r ∧ h' = h1 ++ some [ct, N i', N k'] :: h3) e s := by
  obtain ⟨he, r, s', i', k', ex, q1, q2, q3, q4, q5⟩ := hs
  have hl : (h1 ++ some [ct, N i', N k'] :: h3).length = (h1 ++ some [ct, N i, N j] :: h3).length := by simp
  have htk : s'.h.take (h1 ++ some [ct, N i, N j] :: h3).length = h1 ++ some [ct, N i', N k'] :: h3 := by
    rw [q2, ← hl, show h1 ++ some [ct, N i', N k'] :: (h3 ++ ex) = (h1 ++ some [ct, N i', N k'] :: h3) ++ ex by simp, List.take_left']
    rfl
  refine ⟨he, r, s', (h1 ++ some [ct, N i, N j] :: h3).length, q1, Nat.le_refl _, by rw [q2]; simp, .inr ⟨Low.mono_go (Nat.zero_le _) _ q4, fun l xs hl' hx => ?_⟩, by rw [htk]; exact ⟨i', k', q3, q5, rfl⟩⟩
  have hx2 : (h1 ++ some [ct, N i', N k'] :: h3)[l]? = some (some xs) := by
    rw [← htk, List.getElem?_take, if_pos hl']; exact hx
  by_cases e : l = h1.length
  · subst e
    simp at hx2
    subst hx2
    have := lh h1.length _ (by simp; rfl)
    simpa [LowAll] using this
  · refine lh l xs ?_
    rcases Nat.lt_or_ge l h1.length with g | g
    · rw [List.getElem?_append_left g] at hx2 ⊢; exact hx2
    · rw [List.getElem?_append_right g] at hx2 ⊢
      obtain ⟨q, hq⟩ : ∃ q, l - h1.length = q + 1 := ⟨l - h1.length - 1, by omega⟩
      rw [hq] at hx2 ⊢
      simpa using hx2
theorem FCalls.of_codeOf {f : FuncId} {m : List (Nat × List Md)} {k : C} {rvs : List RV} {n : Nat} {rest : List LV} {Q : LV → Prop} (hc : codeOf P f m = some (k, rvs, n)) (hm : P.follows .mixedOrders = true)
    (hlen : rest.length + 1 ≤ n) (hex : ∃ r, Q r) (hw : ∀ h1 h3 ct i j, share ct = D.lv → CurOk D i j → wpC P k (PostC D rvs h1 h3 ct Q) { t := env (.ptr h1.length 0 :: rest), h := h1 ++ some [ct, N i, N j] :: h3 }) : FCalls P D f rest Q := by
  intro h1 h3 ct i j hct hk
  have hex' : ∃ r h', ∃ i' k', CurOk D i' k' ∧ Q r ∧ h' = h1 ++ some [ct, N i', N k'] :: h3 := by
    obtain ⟨r, hr⟩ := hex
    exact ⟨r, _, i, j, hk, hr, rfl⟩
  refine LCalls.of_low (codeOf_callable hc) hex' fun lh => ?_
  exact LCalls.of_codeOf hc hm (by simpa using hlen) hex' (Gives.of_code.wpC_mono k (hw h1 h3 ct i j hct hk) fun e s hs => postC_post lh hs)
theorem postC_tmp {t : Nat} {h1 h3 : List Box} {ct : LV} {Q : LV → Prop} {e : Exit} {s : St} {i' k' : Int} (he : e = .normal ∨ e = .ret) (hh : s.h = h1 ++ some [ct, N i', N k'] :: h3) (hk : CurOk D i' k') (lo : Low 0 (s.t t)) (hq : Q (s.t t)) :
    PostC D [.tmp t] h1 h3 ct Q e s := ⟨he, [s.t t], _, i', k', [], rfl, by rw [List.append_nil]; exact hh, hk, lo, hq⟩
theorem postC_tmpE {t : Nat} {h1 h3 ex : List Box} {ct : LV} {Q : LV → Prop} {e : Exit} {s : St} {i' k' : Int} (he : e = .normal ∨ e = .ret) (hh : s.h = h1 ++ some [ct, N i', N k'] :: (h3 ++ ex)) (hk : CurOk D i' k') (lo : Low 0 (s.t t)) (hq : Q (s.t t)) :
    PostC D [.tmp t] h1 h3 ct Q e s := ⟨he, [s.t t], _, i', k', ex, rfl, hh, hk, lo, hq⟩
theorem postC_cell {t sz p j : Nat} {agg : Bool} {h1 h3 ex : List Box} {ct v : LV} {xs : List LV} {Q : LV → Prop} {e : Exit} {s : St} {i' k' : Int} (he : e = .normal ∨ e = .ret) (ht : s.t t = .ptr p 0) (hh : s.h = h1 ++ some [ct, N i', N k'] :: (h3 ++ ex))
    (hp : p = h1.length + (h3.length + 1) + j) (hx : ex[j]? = some (some xs)) (hs : sz = xs.length) (hv : ofCells agg xs = some v) (hk : CurOk D i' k') (lo : Low 0 v) (hq : Q v) :
    PostC D [.cell t agg sz] h1 h3 ct Q e s := by
  have hl : s.h[p]? = some (some xs) := by
    rw [hh, hp, List.getElem?_append_right (by omega), show h1.length + (h3.length + 1) + j - h1.length = (h3.length + j) + 1 by omega, List.getElem?_cons_succ, List.getElem?_append_right (by omega), show h3.length + j - h3.length = j by omega]
    exact hx
  have hset : s.h.set p (some (shareAll xs)) = h1 ++ some [ct, N i', N k'] :: (h3 ++ ex.set j (some (shareAll xs))) := by
    rw [hh, hp, List.set_append_right _ _ (by omega), show h1.length + (h3.length + 1) + j - h1.length = (h3.length + j) + 1 by omega, List.set_cons_succ, List.set_append_right _ _ (by omega), show h3.length + j - h3.length = j by omega]
  refine ⟨he, [v], { s with h := s.h.set p (some (shareAll xs)) }, i', k', _, ?_, hset, hk, lo, hq⟩
  simp only [rvVals, rvVal, ht, hl, hs, hv, if_true]
/-- variables that hold scalars or variables alone -/
def HardH (h : List Box) : Prop := ∀ b ∈ h, ∀ ys, b = some ys → ys.all Hard = true ∧ ∀ u z, LV.both u z ∉ ys
theorem HardH.nil : HardH [] := fun _ h => by simp at h
theorem HardH.none {h : List Box} (H : HardH h) : HardH (h ++ [none]) := fun b hb ys e => by
  rcases List.mem_append.1 hb with hb | hb
  · exact H b hb ys e
  · simp at hb; subst hb; simp at e
theorem HardH.one {h : List Box} (H : HardH h) {xs : List LV} (hx : xs.all Hard = true) (hn : ∀ u z, LV.both u z ∉ xs) : HardH (h ++ [some xs]) := fun b hb ys e => by
  rcases List.mem_append.1 hb with hb | hb
  · exact H b hb ys e
  · simp at hb; subst hb; simp at e; subst e; exact ⟨hx, hn⟩
/-- a cursor's first cell -/
def CtOk (D : Dr) (ct : LV) : Prop := ct = D.lv ∨ ∃ u, ct = .both u D.lv
theorem Dr.share (D : Dr) : share D.lv = D.lv := by simp
theorem CtOk.share {ct : LV} (h : CtOk D ct) : TL.share ct = D.lv := by
  rcases h with rfl | ⟨u, rfl⟩
  · exact D.share
  · simp only [TL.share]; exact D.share
/-- a call with a cursor beside variables that hold scalars or variables alone -/
def HCalls (P : Program) (D : Dr) (f : FuncId) (rest : List LV) (Q : LV → Prop) : Prop :=
  ∀ (h1 h3 : List Box) (ct : LV) (i k : Int), HardH h1 → HardH h3 → CtOk D ct → CurOk D i k → LCalls P f (.ptr h1.length 0 :: rest) (h1 ++ some [ct, N i, N k] :: h3) fun r h' => ∃ i' k', CurOk D i' k' ∧ Q r ∧ h' = h1 ++ some [ct, N i', N k'] :: h3
theorem FCalls.hard {f : FuncId} {rest : List LV} {Q : LV → Prop} (c : FCalls P D f rest Q) : HCalls P D f rest Q := fun h1 h3 ct i k _ _ hct hk => c h1 h3 ct i k hct.share hk
theorem HCalls.mono {f : FuncId} {rest : List LV} {Q Q' : LV → Prop} (c : HCalls P D f rest Q) (h : ∀ r, Q r → Q' r) : HCalls P D f rest Q' :=
  fun h1 h3 ct i k H1 H3 hct hk => (c h1 h3 ct i k H1 H3 hct hk).mono fun r h' hr => by
    obtain ⟨i', k', q1, q2, q3⟩ := hr
    exact ⟨i', k', q1, h r q2, q3⟩
theorem HCalls.of_codeOf {f : FuncId} {m : List (Nat × List Md)} {k : C} {rvs : List RV} {n : Nat} {rest : List LV} {Q : LV → Prop} (hc : codeOf P f m = some (k, rvs, n)) (hm : P.follows .mixedOrders = true)
    (hlen : rest.length + 1 ≤ n) (hex : ∃ r, Q r) (hw : ∀ h1 h3 ct i j, HardH h1 → HardH h3 → CtOk D ct → CurOk D i j → wpC P k (PostC D rvs h1 h3 ct Q) { t := env (.ptr h1.length 0 :: rest), h := h1 ++ some [ct, N i, N j] :: h3 }) : HCalls P D f rest Q := by
  intro h1 h3 ct i j H1 H3 hct hk
  have hex' : ∃ r h', ∃ i' k', CurOk D i' k' ∧ Q r ∧ h' = h1 ++ some [ct, N i', N k'] :: h3 := by
    obtain ⟨r, hr⟩ := hex
    exact ⟨r, _, i, j, hk, hr, rfl⟩
  refine LCalls.of_low (codeOf_callable hc) hex' fun lh => ?_
  refine LCalls.of_codeOf hc hm (by simpa using hlen) hex' (Gives.of_code.wpC_mono k (hw h1 h3 ct i j H1 H3 hct hk) fun e s hs => ?_)
  exact postC_post lh hs
theorem hard_at {h1 h3 : List Box} {b : Box} (H1 : HardH h1) (H3 : HardH h3) (k : Nat) (ys : List LV) (hk : k ≠ h1.length) (h : (h1 ++ b :: h3)[k]? = some (some ys)) : ys.all Hard = true ∧ ∀ u z, LV.both u z ∉ ys := by
  rcases Nat.lt_trichotomy k h1.length with g | g | g
  · rw [List.getElem?_append_left g] at h
    exact H1 _ (List.mem_of_getElem? h) ys rfl
  · exact absurd g hk
  · rw [List.getElem?_append_right (by omega)] at h
    obtain ⟨q, hq⟩ : ∃ q, k - h1.length = q + 1 := ⟨k - h1.length - 1, by omega⟩
    rw [hq, List.getElem?_cons_succ] at h
    exact H3 _ (List.mem_of_getElem? h) ys rfl
/-- its result taken as variables of one's own -/
theorem HCalls.thaw {f : FuncId} {rest : List LV} {Q : LV → Prop} (c : HCalls P D f rest Q) (hQ : ∀ r, Q r → Whole r) (ha : shareAll rest = rest) {h1 h3 : List Box} {ct : LV} {i k : Int} (H1 : HardH h1) (H3 : HardH h3) (hct : CtOk D ct) (hk : CurOk D i k) :
    LCalls P f (.ptr h1.length 0 :: rest) (h1 ++ some [ct, N i, N k] :: h3) fun y h' => ∃ t i' k' bs, CurOk D i' k' ∧ Q t ∧ Th t (h1.length + (h3.length + 1)) y bs ∧ h' = h1 ++ some [ct, N i', N k'] :: (h3 ++ bs) := by
  have core : ∀ u, LCalls P f (.ptr h1.length 0 :: rest) (h1 ++ some [.both u D.lv, N i, N k] :: h3) fun y h' => ∃ t i' k' bs, CurOk D i' k' ∧ Q t ∧ Th t (h1.length + (h3.length + 1)) y bs ∧ h' = h1 ++ some [.both u D.lv, N i', N k'] :: (h3 ++ bs) := by
    intro u
    have c1 := (c h1 h3 (.both u D.lv) i k H1 H3 (.inr ⟨u, rfl⟩) hk).mono (R' := fun r h' => ∃ xs', (∃ i' k', CurOk D i' k' ∧ Q r ∧ xs' = [N i', N k']) ∧ h' = (h1 ++ some [.both u D.lv, N i, N k] :: h3).set h1.length (some (.both u D.lv :: xs'))) (fun r h' hr => by
      obtain ⟨i', k', q1, q2, rfl⟩ := hr
      exact ⟨_, ⟨i', k', q1, q2, rfl⟩, by simp⟩)
    refine (c1.thawB (by simp [ha]) (by simp; rfl) (fun k ys hk h => hard_at H1 H3 k ys hk h) (by simp [Hard]) (fun r xs' hr => by
      obtain ⟨i', k', q1, q2, rfl⟩ := hr
      exact ⟨hQ r q2, by simp [Hard], by simp⟩)).mono fun y h' hr => ?_
    obtain ⟨t, xs', bs, ⟨i', k', q1, q2, rfl⟩, q3, rfl⟩ := hr
    exact ⟨t, i', k', bs, q1, q2, by simpa using q3, by simp⟩
  rcases hct with rfl | ⟨u, rfl⟩
  · refine LCalls.untag (l := h1.length) (x := D.lv) (xs := [N i, N k]) (by simp) D.share fun u => ?_
    have := core u
    simp only [set_mid]
    refine this.mono fun y h' hr => ?_
    obtain ⟨t, i', k', bs, q1, q2, q3, rfl⟩ := hr
    exact ⟨[N i', N k'], by simp, t, i', k', bs, q1, q2, q3, by simp⟩
  · exact core u
end
end Go.TL
