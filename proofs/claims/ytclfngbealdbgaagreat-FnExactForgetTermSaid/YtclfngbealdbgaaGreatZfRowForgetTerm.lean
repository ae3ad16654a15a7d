/- Part 6 of the proof of the row of the text YtclfngbealdbgaaGreatZRowForgetTerm: texts joined. No conditions. -/
import Derived.Test.YtclfngbealdbgaaGreatZeRowForgetTerm
namespace Go.Proofs.YtclfngbealdbgaaGreat
open Go Go.TL
open Go.Proofs.YtclfngbealdbgaaGreat.Ty
set_option linter.unusedSimpArgs false
set_option linter.unusedVariables false
set_option maxRecDepth 20000
set_option maxHeartbeats 4000000
def flOk (nl : Bool) (l : List Int) : Prop := nl = true → l = []
mutual
def GTerm.fl : GTerm → Prop
  | .mk _ _ nl1 ty _ ks => flOk nl1 ty ∧ fls ks
def fls : List GTerm → Prop
  | [] => True
  | k :: ks => k.fl ∧ fls ks
end
theorem fls_iff : ∀ {ks : List GTerm}, fls ks ↔ ∀ k ∈ ks, k.fl
  | [] => by simp [fls]
  | k :: ks => by simp [fls, fls_iff (ks := ks)]
def FzR (R : LV → Prop) (r : LV) (h' : List Box) : Prop := ∃ t h1 m, Fz t r h' h1 ∧ (0 : Nat) ≤ m ∧ m ≤ h1.length ∧ Low m t ∧ (∀ l xs, l < m → h1[l]? = some (some xs) → LowAll m xs) ∧ R t ∧ Low 0 t
theorem Gives.freeze {P : Program} {f : FuncId} {args : List LV} {R : LV → Prop} (c : LCalls P f args [] (FzR R)) : Gives P f args R := by
  refine LCalls.freeze (c.mono fun r h' hr => ?_)
  obtain ⟨t, h1, m, a, b, c, d, e, f, g⟩ := hr
  exact ⟨t, h1, m, a, b, c, d, e, f, g⟩
theorem fz_bad {R : LV → Prop} {h' : List Box} {l : Nat} {xs : List LV} (hl : h'[l]? = some (some xs)) (hs : FzAll xs xs (h'.set l none) (h'.set l none)) (lo : LowAll 0 xs) (hR : R (.rp xs)) : FzR R (.ptr l 0) h' :=
  ⟨.rp xs, h'.set l none, 0, by simp only [Fz]; exact .inr ⟨l, xs, rfl, hl, hs⟩, Nat.le_refl _, Nat.zero_le _, by simpa using lo, fun l xs h => by omega, hR, by simpa using lo⟩
theorem fz_sl {u nl : Bool} {sz : Nat} {rows : List (List LV)} (h : List Box) : Fz (.sl u nl sz rows) (.sl u nl sz rows) h h := by simp only [Fz]; exact .inl ⟨trivial, trivial⟩
theorem fzAll_same : ∀ {xs : List LV} {h : List Box}, (∀ x ∈ xs, ∀ h, Fz x x h h) → FzAll xs xs h h
  | [], h, _ => by simp [FzAll]
  | x :: xs, h, hx => by
    simp only [FzAll]
    exact ⟨x, xs, h, rfl, hx x (by simp) h, fzAll_same fun y hy => hx y (by simp [hy])⟩
theorem fz_bad2 {R : LV → Prop} {h' : List Box} {l : Nat} {f : Int} {u nl : Bool} {p : List Int} (hl : h'[l]? = some (some [.sl true true 1 [], .sl true true 1 [], .sl true true 1 [], N f, OU u nl p]))
    (hR : R (.rp [.sl true true 1 [], .sl true true 1 [], .sl true true 1 [], N f, OU u nl p])) : FzR R (.ptr l 0) h' :=
  fz_bad hl (fzAll_same fun x hx => by
    simp only [List.mem_cons, List.not_mem_nil, or_false] at hx
    rcases hx with rfl | rfl | rfl | rfl | rfl
    all_goals first | exact fz_sl | (intro h; simp [Fz])) (by simp) hR
theorem fzRow_ints : ∀ (l : List Int) (h : List Box), FzRow (l.map fun n => [N n]) 1 (l.map N) h h
  | [], h => by simp [FzRow]
  | a :: l, h => by
    simp only [List.map_cons, FzRow]
    exact ⟨[N a], l.map N, h, rfl, rfl, fzAll_same (fun x hx => by simp only [List.mem_singleton] at hx; subst hx; intro h; simp [Fz]), fzRow_ints l h⟩
theorem fz_ok {R : LV → Prop} {c2 : Box} {u : Bool} {T nd : List Int} {ndv : LV} {m : Nat} {u3 n3 : Bool} {rows : List (List LV)} {hr : List Box} (lo : ∀ k, LowRow k rows)
    (hn : (∃ u, ndv = OU u false nd) ∨ (ndv = .ha 2 1 0 m m ∧ c2 = some (nd.map N) ∧ nd.length = m)) (hR : ∀ u2, R (.rp [OU u false T, OU u2 false nd, .sl u3 n3 1 rows, N 0, .sl true true 1 []])) :
    FzR R (.ptr 3 0) (none :: none :: c2 :: some [OU u false T, ndv, .sl u3 n3 1 rows, N 0, .sl true true 1 []] :: hr) := by
  rcases hn with ⟨u2, rfl⟩ | ⟨rfl, rfl, rfl⟩
  · refine fz_bad (by rfl) (fzAll_same fun x hx => ?_) (by simp [lo]) (hR u2)
    simp only [List.mem_cons, List.not_mem_nil, or_false] at hx
    rcases hx with rfl | rfl | rfl | rfl | rfl
    all_goals first | exact fz_sl | (intro h; simp [Fz])
  · refine ⟨.rp [OU u false T, OU true false nd, .sl u3 n3 1 rows, N 0, .sl true true 1 []], none :: none :: none :: none :: hr, 0, ?_, Nat.le_refl _, Nat.zero_le _, by simp [lo], fun l xs h => by omega, hR true, by simp [lo]⟩
    simp only [Fz]
    refine .inr ⟨3, _, rfl, rfl, ?_⟩
    simp only [FzAll]
    refine ⟨_, _, _, rfl, fz_sl _, _, _, _, rfl, ?_, _, _, _, rfl, fz_sl _, _, _, _, rfl, ⟨rfl, rfl⟩, _, _, _, rfl, fz_sl _, rfl, rfl⟩
    simp only [Fz]
    refine .inr ⟨trivial, trivial, 2, nd.length, nd.map N, [], by simp, by simp, by simp, by simp, ?_⟩
    exact fzRow_ints nd _
theorem flat_rp (ys : List LV) : (LV.rp ys).flat = true := rfl
theorem cells_rp (ys : List LV) : (LV.rp ys).cells = [.rp ys] := rfl
theorem app_new {rows : List (List LV)} {row : List LV} (h : rows.length < 1099511627776) : appLV 1 (.sl (!rows.isEmpty) rows.isEmpty 1 rows) (.sl true false 1 [row]) = some (.sl (!(rows ++ [row]).isEmpty) (rows ++ [row]).isEmpty 1 (rows ++ [row])) := by
  simp only [appLV]
  rw [if_pos ⟨by cases rows <;> simp, .inl trivial, .inl trivial, by simp [most]; omega⟩]
  cases rows <;> simp
theorem forms_at {nv size : Int} {closed : Bool} {op : Int} : ∀ {ks : List GTerm} {k : Nat}, formsB nv size closed op k ks = true → ∀ (i : Nat) (h : i < ks.length), formB (nv + addsI op ((k + i : Nat) : Int)) size closed ks[i] = true
  | [], _, _, i, h => by simp at h
  | t :: ts, k, hf, i, h => by
    simp only [formsB, Bool.and_eq_true] at hf
    cases i with
    | zero => simpa using hf.1
    | succ i =>
      have := forms_at hf.2 i (by simpa using h)
      rw [show k + 1 + i = k + (i + 1) by omega] at this
      simpa using this
mutual
theorem tellG_path {s : GSys} : ∀ (g : GTerm) (ctx : List (List Int)) (f : Int) (p : List Int), tellG s ctx g = .bad f p → p.length ≤ g.size
  | .mk op n _ ty _ ks, ctx, f0, p0, h => by
    rw [tellG] at h
    split at h
    · rename_i f' p' hd
      simp only [Res.bad.injEq] at h
      obtain ⟨rfl, rfl⟩ := h
      have := tellK_path ks ctx op n ty [] _ _ hd
      simpa [GTerm.size] using this
    · split at h
      · simp at h
      · simp only [Res.bad.injEq] at h
        obtain ⟨_, rfl⟩ := h
        simp
theorem tellK_path {s : GSys} : ∀ (ks : List GTerm) (ctx : List (List Int)) (op n : Int) (ty : List Int) (ds : List TT) (f : Int) (p : List Int), tellK s ctx op n ty ds ks = .bad f p → p.length ≤ sizes ks + 1
  | [], ctx, op, n, ty, ds, f, p, h => by simp [tellK] at h
  | k :: ks, ctx, op, n, ty, ds, f, p, h => by
    rw [tellK] at h
    split at h
    · rename_i f' p' hd
      simp only [KRes.bad.injEq] at h
      obtain ⟨rfl, rfl⟩ := h
      have := tellG_path k _ _ p' hd
      simp [sizes]; omega
    · split at h
      · simp only [KRes.bad.injEq] at h
        obtain ⟨_, rfl⟩ := h
        simp
      · split at h
        · simp only [KRes.bad.injEq] at h
          obtain ⟨_, rfl⟩ := h
          simp
        · have := tellK_path ks ctx op n ty _ f p h
          simp [sizes]; omega
end
theorem app_newC {c : GCtx} (h : c.length < 1099511627776) (f : Bool) (l : List Int) : appLV 1 (newC c) (.sl true false 1 [[L f l]]) = some (newC (c ++ [(f, l)])) := by
  have := app_new (rows := c.map fun x => [eC x]) (row := [L f l]) (by rw [List.length_map]; exact h)
  have e1 : (c.map fun x => [eC x]).isEmpty = c.isEmpty := by cases c <;> rfl
  have e2 : (c.map (fun x => [eC x]) ++ [[L f l]]) = (c ++ [(f, l)]).map fun x => [eC x] := by simp
  have e3 : ((c ++ [(f, l)]).map fun x => [eC x]).isEmpty = (c ++ [(f, l)]).isEmpty := by cases c <;> rfl
  rw [e2, e1, e3] at this
  exact this
theorem row_share (l : List Int) : shareRow (l.map fun n => [N n]) = l.map fun n => [N n] := by simp
theorem snoc_at {c : GCtx} {g g' : Nat → List Int} {v : Bool × List Int} (hc : ∀ (j : Nat) (h : j < c.length), (c[j]).2 = g j) (h1 : ∀ j, j < c.length → g' j = g j) (h2 : v.2 = g' c.length) : ∀ (j : Nat) (h : j < (c ++ [v]).length), ((c ++ [v])[j]).2 = g' j := by
  intro j h
  rw [List.length_append] at h
  rcases Nat.lt_or_ge j c.length with q | q
  · rw [List.getElem_append_left q, hc j q, h1 j q]
  · have : j = c.length := by simp at h; omega
    subst this
    rw [List.getElem_append_right (Nat.le_refl _)]
    simpa using h2
theorem nf_snoc {c : GCtx} {l : List Int} (h : ∀ x ∈ c, x.1 = false) : ∀ x ∈ c ++ [(false, l)], x.1 = false := by
  intro x hx
  rcases List.mem_append.1 hx with hx | hx
  · exact h x hx
  · simp at hx; subst hx; rfl
theorem getD_app {ds : List TT} {x : TT} {j : Nat} (h : j < ds.length) : (ds ++ [x]).getD j (.mk [] [] []) = ds.getD j (.mk [] [] []) := by
  simp [List.getD_eq_getElem?_getD, List.getElem?_append_left h]
theorem getD_last {ds : List TT} {x : TT} {j : Nat} (h : j = ds.length) : (ds ++ [x]).getD j (.mk [] [] []) = x := by
  subst h; simp [List.getD_eq_getElem?_getD]
theorem app_take {c : GCtx} (h : c.length < 1099511627776) (f : Bool) (l : List Int) (k : Nat) : appLV 1 (newC c) (.sl true false 1 [[.sl false f 1 (List.take k (l.map fun n => [N n]))]]) = some (newC (c ++ [(f, l.take k)])) := by
  rw [← List.map_take]; exact app_newC h f (l.take k)
theorem app_drop {c : GCtx} (h : c.length < 1099511627776) (f : Bool) (l : List Int) (k : Nat) : appLV 1 (newC c) (.sl true false 1 [[.sl false f 1 (List.drop k (l.map fun n => [N n]))]]) = some (newC (c ++ [(f, l.drop k)])) := by
  rw [← List.map_drop]; exact app_newC h f (l.drop k)
theorem cut_take {n2 : Bool} {l : List Int} {k : Nat} (h : k ≤ l.length) : cutLV 1 (L n2 l) none (some (k : Int)) none = some (L n2 (l.take k)) := by
  simp only [cutLV, Option.getD_none, Option.getD_some, List.length_map]
  rw [if_pos ⟨trivial, by omega, by omega, by omega, by omega⟩, show ((k : Int)).toNat = k by omega, ← List.map_take]
  simp only [Option.isSome_none, Bool.false_and, List.drop_zero, Int.toNat_zero, row_share]
theorem cut_drop {n2 : Bool} {l : List Int} {k : Nat} (h : k ≤ l.length) : cutLV 1 (L n2 l) (some (k : Int)) none none = some (L n2 (l.drop k)) := by
  simp only [cutLV, Option.getD_none, Option.getD_some, List.length_map]
  rw [if_pos ⟨trivial, by omega, by omega, by omega, by omega⟩, show ((k : Int)).toNat = k by omega, show ((l.length : Int)).toNat = l.length by omega, ← List.map_take, ← List.map_drop, List.take_length]
  simp only [Option.isSome_none, Bool.false_and, row_share]
mutual
theorem tellG_bad {s : GSys} : ∀ (g : GTerm) (ctx : List (List Int)) (f : Int) (p : List Int), tellG s ctx g = .bad f p → f ≠ 0
  | .mk op n _ ty _ ks, ctx, f0, p0, h => by
    rw [tellG] at h
    split at h
    · rename_i f' p' hd
      simp only [Res.bad.injEq] at h
      obtain ⟨rfl, rfl⟩ := h
      exact tellK_bad ks ctx op n ty [] _ _ hd
    · split at h
      · simp at h
      · rename_i hne
        simp only [Res.bad.injEq] at h
        obtain ⟨rfl, rfl⟩ := h
        exact hne
theorem tellK_bad {s : GSys} : ∀ (ks : List GTerm) (ctx : List (List Int)) (op n : Int) (ty : List Int) (ds : List TT) (f : Int) (p : List Int), tellK s ctx op n ty ds ks = .bad f p → f ≠ 0
  | [], ctx, op, n, ty, ds, f, p, h => by simp [tellK] at h
  | k :: ks, ctx, op, n, ty, ds, f, p, h => by
    rw [tellK] at h
    split at h
    · rename_i f' p' hd
      simp only [KRes.bad.injEq] at h
      obtain ⟨rfl, rfl⟩ := h
      exact tellG_bad k _ _ p' hd
    · split at h
      · rename_i hne
        simp only [KRes.bad.injEq] at h
        obtain ⟨rfl, rfl⟩ := h
        exact hne
      · split at h
        · simp only [KRes.bad.injEq] at h
          obtain ⟨rfl, rfl⟩ := h
          omega
        · exact tellK_bad ks ctx op n ty _ f p h
end
mutual
theorem TT.ex : ∀ x : TT, ∃ r, x.is r ∧ ∃ ys, r = .rp ys
  | .mk ty nd ks => by
    obtain ⟨rows, h⟩ := TT.exs ks
    exact ⟨_, by simp only [TT.is]; exact ⟨false, false, rows, rfl, h⟩, _, rfl⟩
theorem TT.exs : ∀ xs : List TT, ∃ rows, TT.are xs rows
  | [] => ⟨[], by simp [TT.are]⟩
  | x :: xs => by
    obtain ⟨r, h, _⟩ := TT.ex x
    obtain ⟨rows, h2⟩ := TT.exs xs
    exact ⟨_, by simp only [TT.are]; exact ⟨r, rows, rfl, h, h2⟩⟩
end
theorem res_ex (x : Res) (hb : ∀ f p, x = .bad f p → f ≠ 0) : ∃ ys, x.is (share (.rp ys)) ∧ LowAll 0 ys := by
  cases x with
  | ok x =>
    obtain ⟨r, h, ys, rfl⟩ := TT.ex x
    obtain ⟨h1, h2⟩ := is_share x _ h
    exact ⟨ys, by rw [h1]; exact h, by simpa using h2 0⟩
  | bad f p => exact ⟨[.sl false true 1 [], .sl false true 1 [], .sl false true 1 [], N f, L false p], ⟨hb f p rfl, false, by simp⟩, by simp⟩
theorem fz_ex (R : LV → Prop) (h : ∃ ys, R (.rp ys) ∧ LowAll 0 ys) : ∃ r h', FzR R r h' := by
  obtain ⟨ys, h1, h2⟩ := h
  exact ⟨.rp ys, [], .rp ys, [], 0, by simp only [Fz]; exact .inl ⟨trivial, trivial⟩, Nat.le_refl _, Nat.zero_le _, by simpa using h2, fun l xs h => by omega, h1, by simpa using h2⟩
structure TypJ (s : GSys) (cx : List (List Int)) (op n : Int) (gty : List Int) (ks : List GTerm) (i : Nat) (t : Nat → LV) (h : List Box) (ds : List TT) (rows : List (List LV)) (nds uds : GCtx) (hr : List Box) : Prop where
  are : TT.are ds rows
  len : ds.length = i
  kok : KidsOk s cx.length op n ds
  tell : tellK s cx op n gty [] ks = tellK s cx op n gty ds (ks.drop i)
  ulen : uds.length = i
  nlen : nds.length = i
  us : ∀ (j : Nat) (h : j < uds.length), (uds[j]).2 = usP op ds j
  nd : ∀ (j : Nat) (h : j < nds.length), (nds[j]).2 = ndP op ds j
  nf : ∀ c ∈ nds, c.1 = false
  e24 : t 24 = N i
  e8 : t 8 = newC nds
  e9 : t 9 = newC uds
  heap : h = none :: none :: some ((zeros cx.length).map N) :: outB (.sl true true 1 []) (.ha 2 1 0 cx.length cx.length) true ds.isEmpty rows :: hr
theorem typ_ok {s : GSys} (hsy : s.sys = true) (d : Nat) : ∀ (g : GTerm) (nlc : Bool) (ctx : GCtx), g.size ≤ d → g.wf → g.fl → (∀ c ∈ ctx, okL s.size c.2 = true) → (∀ c ∈ ctx, c.1 = false) → ctx.length + 2 * g.size ≤ 100000 → formB ctx.length s.size true g = true →
    Gives Tryz.prog n__impl_typer__typ [s.lv, LC nlc ctx, g.lv] (fun r => (tellG s (ctx.map Prod.snd) g).is (share r)) := by
  induction d with
  | zero => intro g _ _ h; have := g.size_pos; omega
  | succ d ih =>
    rintro ⟨op, n, nl1, gty, nl2, ks⟩ nlc ctx hsz hw hfl hc hcf hlen hform
    have t := GSys.sys_of hsy
    have h16 := t.hi
    simp only [formB, Bool.and_eq_true] at hform
    obtain ⟨hnode, hforms⟩ := hform
    have no := nodeOk_of hnode
    simp only [GTerm.wf] at hw
    obtain ⟨wop, wn, wty, wk, wks⟩ := hw
    simp only [GTerm.fl] at hfl
    obtain ⟨fl1, flk⟩ := hfl
    simp only [GTerm.size] at hsz hlen
    have hm : (ctx.length : Int) ≤ (most : Nat) := by unfold most; omega
    have many := no.many
    have hk3 : ks.length ≤ 3 := by
      unfold manyI at many
      repeat' split at many
      all_goals omega
    have cxl : (ctx.map Prod.snd).length = ctx.length := by simp
    refine Gives.freeze (LCalls.of_codeOf c__impl_typer__typ mixed (by simp) ?_ ?_)
    · exact fz_ex (fun r => (tellG s (ctx.map Prod.snd) (GTerm.mk op n nl1 gty nl2 ks)).is (share r)) (res_ex _ fun f p h => tellG_bad _ _ f p h)
    have hfl0 : ∀ a b c d e, (LV.ha a b c d e).flat = true ∧ (LV.ha a b c d e).cells.length = 1 := fun _ _ _ _ _ => ⟨rfl, rfl⟩
    have hce0 : ∀ a b c d e, (LV.ha a b c d e).cells = [.ha a b c d e] := fun _ _ _ _ _ => rfl
    simp (disch := omega) [k__impl_typer__typ, boxLV, frzLV, GTerm.cells, hm, hfl0, hce0]
    refine wpC_forM ks.length 0 (fun i t h => ∃ ds rows nds uds hr, TypJ s (ctx.map Prod.snd) op n gty ks i t h ds rows nds uds hr) (fun t h => ∃ ds rows nds uds hr, TypJ s (ctx.map Prod.snd) op n gty ks ks.length t h ds rows nds uds hr) ?_ (by omega) ?_ ?_
    · refine ⟨[], [], [], [], [], by simp [TT.are], rfl, ⟨fun i x h => by simp at h, fun _ x h => by simp at h⟩, by simp, rfl, rfl, fun j h => by simp at h, fun j h => by simp at h, by simp, by simp, by simp, by simp, ?_⟩
      simp [zeros]
    · rintro i t1 hh hf hi ⟨ds, rows, nds, uds, hr, J⟩
      (have e1 := hf 1 (by kernel_rfl); have e3 := hf 3 (by kernel_rfl); have e5 := hf 5 (by kernel_rfl); have e7 := hf 7 (by kernel_rfl); have e22 := hf 22 (by kernel_rfl); have e23 := hf 23 (by kernel_rfl); clear hf; simp [] at e1 e3 e5 e7 e22 e23)
      obtain ⟨are, len, kok, tell, ulen, nlen, us, nd, nf, e24, e8, e9, rfl⟩ := J
      have gl : GTerm.cells (GTerm.mk op n nl1 gty nl2 ks) = [N op, N n, L nl1 gty, .sl false nl2 4 (rowsOf ks)] := by simp [GTerm.cells]
      simp (disch := omega) [e1, e3, e5, e7, e22, e23, e24]
      by_cases h6 : i < ks.length
      rotate_left
      · have hb : ltB (i : Int) ks.length = false := by rw [ltB_false]; omega
        have hik : i = ks.length := by omega
        simp (disch := omega) [hb]
        exact ⟨ds, rows, nds, uds, hr, are, by omega, kok, by rw [tell, hik], by omega, by omega, us, nd, nf, by simp [e24, hik], by simp [e8], by simp [e9], by simp⟩
      have hb : ltB (i : Int) ks.length = true := by rw [ltB_true]; omega
      have hdrop := List.drop_eq_getElem_cons h6
      have hkw : (ks[i]).wf := (wfs_iff.1 wks) _ (List.getElem_mem h6)
      have hkf : (ks[i]).fl := (fls_iff.1 flk) _ (List.getElem_mem h6)
      have hks := size_kid h6
      have hkform : formB ((ctx.length : Int) + addsI op i) s.size true ks[i] = true := by have := forms_at hforms i h6; simpa using this
      have hix := idx_T ks false nl2 i h6
      rw [hdrop] at tell
      generalize ks[i] = k at *
      have hadd := addsI_range op i
      have hcs : ∀ l ∈ ctx.map Prod.snd, okL s.size l = true := fun l hl => by
        obtain ⟨c, h1, rfl⟩ := List.mem_map.1 hl
        exact hc c h1
      have hty : op = 9 → okL s.size gty = true := fun h => no.typed (by subst h; simp [typedB, eqB_true])
      have hfirst : i ≠ 0 → okL s.size (first ds) = true ∧ headOk op (hd (first ds)) := fun h => by
        have := kok.first (by rintro rfl; simp at len; omega)
        exact ⟨this.1, this.2.1⟩
      have hm1 : ∀ f, addedC op nl1 gty i f = [] ∨ True := fun _ => .inr trivial
      have rl := are_len ds rows are
      have hmore : ∃ more : GCtx, more = addedC op nl1 gty i (first ds) := ⟨_, rfl⟩
      obtain ⟨more, hmd⟩ := hmore
      have hms : more.map Prod.snd = addedP op gty i (first ds) := by rw [hmd]; exact addedC_snd op nl1 gty i (first ds)
      have hml : more.length = (addsI op i).toNat := by
        have := congrArg List.length hms
        rw [List.length_map, added_len] at this; exact this
      have hmok : ∀ c ∈ more ++ ctx, okL s.size c.2 = true := by
        intro c hcm
        rcases List.mem_append.1 hcm with hcm | hcm
        · exact added_ok (i := i) (f := first ds) hty hfirst c.2 (by rw [← hms]; exact List.mem_map_of_mem hcm)
        · exact hc c hcm
      have hmf : ∀ c ∈ more ++ ctx, c.1 = false := by
        intro c hcm
        rcases List.mem_append.1 hcm with hcm | hcm
        · rw [hmd] at hcm
          unfold addedC at hcm
          split at hcm
          · rename_i h9
            simp at hcm; subst hcm
            have := okL_len (hty h9)
            cases hn : nl1 with
            | false => rfl
            | true => have := fl1 hn; subst this; simp at *
          · simp at hcm; obtain ⟨a, _, rfl⟩ := hcm; rfl
        · exact hcf c hcm
      have cc := concatC_ok [(more.isEmpty, more), (nlc, ctx)] (by simp) (by simp [lnC]; omega)
      have ce : flC [(more.isEmpty, more), (nlc, ctx)] = more ++ ctx := by simp [flC]
      rw [ce] at cc
      have recu := ih k (!ltB 0 ((more ++ ctx).length : Int)) (more ++ ctx) (by omega) hkw hkf hmok hmf (by rw [List.length_append]; omega) (by rw [List.length_append, show ((more.length + ctx.length : Nat) : Int) = ctx.length + addsI op i by omega]; exact hkform)
      rw [List.map_append, hms] at recu
      clear hmok hmf ce
      generalize more ++ ctx = mc at cc recu
      have hg0 : ∀ r : Int × List Int, tellK s (ctx.map Prod.snd) op n gty ds (k :: List.drop (i + 1) ks) = .bad r.1 r.2 → tellG s (ctx.map Prod.snd) (GTerm.mk op n nl1 gty nl2 ks) = .bad r.1 r.2 := fun r h => by rw [tellG, tell, h]
      have hgoodI : ∀ x, tellG s (addedP op gty i (first ds) ++ ctx.map Prod.snd) k = .ok x → x.good s ((ctx.map Prod.snd).length + (addsI op i).toNat) := fun x hx => by
        have := tellG_good t k (addedP op gty i (first ds) ++ ctx.map Prod.snd) x (by rw [← len]; exact ext_ok hcs (fun h => hty h) kok)
          (by rw [List.length_append, added_len, cxl, show (((addsI op i).toNat + ctx.length : Nat) : Int) = ctx.length + addsI op i by omega]; exact hkform) hx
        rw [List.length_append, added_len, Nat.add_comm] at this
        exact this
      have hbadI : ∀ f p, tellG s (addedP op gty i (first ds) ++ ctx.map Prod.snd) k = .bad f p → tellG s (ctx.map Prod.snd) (GTerm.mk op n nl1 gty nl2 ks) = .bad f ((i : Int) :: p) := fun f p h =>
        hg0 (f, (i : Int) :: p) (by rw [tellK, len, h])
      have hfbI : ∀ x, tellG s (addedP op gty i (first ds) ++ ctx.map Prod.snd) k = .ok x → firstOkP s op n i (hd x.ty) ≠ 0 → tellG s (ctx.map Prod.snd) (GTerm.mk op n nl1 gty nl2 ks) = .bad (firstOkP s op n i (hd x.ty)) [] := fun x h h2 =>
        hg0 (firstOkP s op n i (hd x.ty), []) (by rw [tellK, len, h]; simp only; rw [if_pos h2])
      have hsameI : ∀ x, tellG s (addedP op gty i (first ds) ++ ctx.map Prod.snd) k = .ok x → firstOkP s op n i (hd x.ty) = 0 → (op = 10 ∧ i = 1 ∧ x.ty ≠ part0 (first ds)) → tellG s (ctx.map Prod.snd) (GTerm.mk op n nl1 gty nl2 ks) = .bad 3 [] := fun x h h2 h3 =>
        hg0 (3, []) (by rw [tellK, len, h]; simp only; rw [if_neg (by simpa using h2), if_pos h3])
      have hnextI : ∀ x, tellG s (addedP op gty i (first ds) ++ ctx.map Prod.snd) k = .ok x → firstOkP s op n i (hd x.ty) = 0 → ¬ (op = 10 ∧ i = 1 ∧ x.ty ≠ part0 (first ds)) → tellK s (ctx.map Prod.snd) op n gty [] ks = tellK s (ctx.map Prod.snd) op n gty (ds ++ [x]) (List.drop (i + 1) ks) := fun x h h2 h3 => by
        rw [tell, tellK, len, h]; simp only; rw [if_neg (by simpa using h2), if_neg h3]
      have hthree : (i = 0 ∧ op ≠ 9) ∨ (i = 0 ∧ op = 9) ∨ 0 < i := by omega
      rcases hthree with ⟨hi0, h9⟩ | ⟨hi0, h9⟩ | hi0
      · subst hi0
        simp only [Int.natCast_zero] at hb hix e24
        have h9b : eqB op 9 = false := by rw [eqB_false]; exact h9
        have hz : ltB 0 0 = false := by rw [ltB_false]; omega
        have hme : more = [] := List.eq_nil_of_length_eq_zero (by rw [hml]; unfold addsI; rw [if_neg (by omega), if_neg (by omega)]; rfl)
        have em : LV.sl false true 1 [] = LV.sl false more.isEmpty 1 (more.map fun c => [eC c]) := by rw [hme]; rfl
        simp (disch := omega) [e1, e3, e5, e7, e8, e9, e22, e23, e24, hb, hix, h9b, hz, chunks]
        rw [em]
        refine onCall_eq cc (by simp) ?_
        simp (disch := omega) [e1, e3, e5, e7, e8, e9, e22, e23, e24, hb, hix]
        refine onCall_gives recu (by simp) ?_
        intro r hr1
        cases hT : tellG s (addedP op gty 0 (first ds) ++ List.map Prod.snd ctx) k with
        | bad f p =>
          rw [hT] at hr1
          obtain ⟨hf0, n4, hsr2⟩ := hr1
          have hfb : eqB f 0 = false := by rw [eqB_false]; exact hf0
          have hpl := tellG_path k _ f p hT
          have hpm : 1 + p.length ≤ most := by unfold most; omega
          have hres := hbadI f p hT
          simp (disch := omega) [e1, e3, e5, e7, e8, e9, e22, e23, e24, hb, hix, hsr2, hfb, chunks, appLV, hpm, boxLV]
          refine post_tmp (.inr rfl) (by simp) (fz_bad2 (f := f) (u := true) (nl := false) (p := (0 : Int) :: p) (by simp) ?_)
          rw [hres]
          exact ⟨hf0, false, by simp⟩
        | ok x =>
          have hgood := hgoodI x hT
          have hfb := hfbI x hT
          have hsame := hsameI x hT
          have hnext := hnextI x hT
          rw [hT] at hr1
          obtain ⟨xty, xnd, xks⟩ := x
          have hxis : (TT.mk xty xnd xks).is (share r) := hr1
          simp only [Res.is, TT.is] at hr1
          obtain ⟨n3, n4, xrows, hsr2, hxr⟩ := hr1
          simp only [TT.ty_mk] at hfb hsame hnext
          have hgt : okL s.size xty = true := hgood.1
          have fo := firstOkF_ok t (GTerm.mk op n nl1 gty nl2 ks) op n nl1 gty nl2 ks rfl 0 (by omega) xty hgt no.op13 (fun h => no.grade (by rcases h with h | h | h <;> (subst h; simp [hasB, eqB_true])))
          simp only [GTerm.lv, GTerm.cells] at fo
          simp (disch := omega) [e1, e3, e5, e7, e8, e9, e22, e23, e24, hb, hix, hsr2, chunks]
          refine onCall_eq fo (by simp) ?_
          simp (disch := omega) [e1, e3, e5, e7, e8, e9, e22, e23, e24, hb, hix, hsr2, chunks]
          by_cases hq : firstOkP s op n 0 (hd xty) = 0
          · rw [hq]
            have hz0 : eqB 0 0 = true := by rw [eqB_true]
            simp (disch := omega) [e1, e3, e5, e7, e8, e9, e22, e23, e24, hb, hix, hsr2, chunks, hz0]
            by_cases h10 : op = 10
            · by_cases h19 : op = 9
              · exfalso; omega
              · have h10b : eqB op 10 = true := by rw [eqB_true]; exact h10
                by_cases hi1 : 0 = 1
                · exfalso; omega
                · have hi1b : eqB 0 1 = false := by rw [eqB_false]; omega
                  have hxl : xnd.length = ctx.length + more.length := by have := hgood.2.1; rw [cxl] at this; rw [hml]; exact this
                  have hak : ∀ v, appLV 1 (.sl true ds.isEmpty 1 rows) (.sl true false 1 [[v]]) = some (.sl true false 1 (rows ++ [[v]])) := fun v => by
                    simp only [appLV]
                    rw [if_pos ⟨.inl trivial, .inl trivial, .inl trivial, by simp [most]; omega⟩]
                    simp
                  have hau := app_take (c := uds) (by omega) false xnd more.length
                  have han := app_drop (c := nds) (by omega) false xnd more.length
                  have hc1 := cut_take (n2 := false) (l := xnd) (k := more.length) (by omega)
                  have hc2 := cut_drop (n2 := false) (l := xnd) (k := more.length) (by omega)
                  have hxs := (are_share _ xrows hxr).1
                  have hnot : ¬ (op = 10 ∧ 0 = 1 ∧ xty ≠ part0 (first ds)) := fun h => hi1 h.2.1
                  have fin : ∀ (T : Nat → LV) (H : List Box), T 24 = N (0 + 1) → T 8 = newC (nds ++ [(false, xnd.drop more.length)]) → T 9 = newC (uds ++ [(false, xnd.take more.length)]) → H = none :: none :: some ((zeros (ctx.map Prod.snd).length).map N) :: outB (.sl true true 1 []) (.ha 2 1 0 (ctx.map Prod.snd).length (ctx.map Prod.snd).length) true (ds ++ [TT.mk xty xnd xks]).isEmpty (rows ++ [[share r]]) :: (hr ++ [some k.cells]) → 0 < ks.length ∧ ∃ ds rows nds uds hr, TypJ s (ctx.map Prod.snd) op n gty ks (0 + 1) T H ds rows nds uds hr := fun T H q1 q2 q3 q4 =>
                    ⟨h6, ds ++ [TT.mk xty xnd xks], rows ++ [[share r]], nds ++ [(false, xnd.drop more.length)], uds ++ [(false, xnd.take more.length)], hr ++ [some k.cells], are_snoc ds rows _ _ are hxis, by simp [len],
                      kok.snoc (by rw [len]; exact hgood) (by rw [len]; exact hq) (by rw [len]; exact hnot), hnext hq hnot, by simp [ulen], by simp [nlen],
                      snoc_at us (fun j hj => by unfold usP; rw [getD_app (by omega)]) (by unfold usP; rw [getD_last (by omega), hml, ulen]; rfl),
                      snoc_at nd (fun j hj => by unfold ndP; rw [getD_app (by omega)]) (by unfold ndP; rw [getD_last (by omega), hml, nlen]; rfl), (nf_snoc nf),
                      by simpa using q1, q2, q3, q4⟩
                  simp (disch := omega) [e1, e3, e5, e7, e8, e9, e22, e23, e24, hb, hix, hsr2, chunks, h10b, hi1b, flat_rp, cells_rp, hak, hau, han, hc1, hc2, hxs, i64_wrap]
                  first
                    | exact fin _ _ (by simp) (by simp) (by simp) (by simp [hsr2])
                    | (trace_state; simp (disch := omega) [e1, e3, e5, e7, e8, e9, e22, e23, e24, hb, hix, hsr2, chunks, h10b, hi1b, flat_rp, cells_rp, hak, hau, han, hc1, hc2, hxs, i64_wrap]; exact fin _ _ (by simp) (by simp) (by simp) (by simp [hsr2]))
            · have h10b : eqB op 10 = false := by rw [eqB_false]; exact h10
              have hxl : xnd.length = ctx.length + more.length := by have := hgood.2.1; rw [cxl] at this; rw [hml]; exact this
              have hak : ∀ v, appLV 1 (.sl true ds.isEmpty 1 rows) (.sl true false 1 [[v]]) = some (.sl true false 1 (rows ++ [[v]])) := fun v => by
                simp only [appLV]
                rw [if_pos ⟨.inl trivial, .inl trivial, .inl trivial, by simp [most]; omega⟩]
                simp
              have hau := app_take (c := uds) (by omega) false xnd more.length
              have han := app_drop (c := nds) (by omega) false xnd more.length
              have hc1 := cut_take (n2 := false) (l := xnd) (k := more.length) (by omega)
              have hc2 := cut_drop (n2 := false) (l := xnd) (k := more.length) (by omega)
              have hxs := (are_share _ xrows hxr).1
              have hnot : ¬ (op = 10 ∧ 0 = 1 ∧ xty ≠ part0 (first ds)) := fun h => h10 h.1
              have fin : ∀ (T : Nat → LV) (H : List Box), T 24 = N (0 + 1) → T 8 = newC (nds ++ [(false, xnd.drop more.length)]) → T 9 = newC (uds ++ [(false, xnd.take more.length)]) → H = none :: none :: some ((zeros (ctx.map Prod.snd).length).map N) :: outB (.sl true true 1 []) (.ha 2 1 0 (ctx.map Prod.snd).length (ctx.map Prod.snd).length) true (ds ++ [TT.mk xty xnd xks]).isEmpty (rows ++ [[share r]]) :: (hr ++ [some k.cells]) → 0 < ks.length ∧ ∃ ds rows nds uds hr, TypJ s (ctx.map Prod.snd) op n gty ks (0 + 1) T H ds rows nds uds hr := fun T H q1 q2 q3 q4 =>
                ⟨h6, ds ++ [TT.mk xty xnd xks], rows ++ [[share r]], nds ++ [(false, xnd.drop more.length)], uds ++ [(false, xnd.take more.length)], hr ++ [some k.cells], are_snoc ds rows _ _ are hxis, by simp [len],
                  kok.snoc (by rw [len]; exact hgood) (by rw [len]; exact hq) (by rw [len]; exact hnot), hnext hq hnot, by simp [ulen], by simp [nlen],
                  snoc_at us (fun j hj => by unfold usP; rw [getD_app (by omega)]) (by unfold usP; rw [getD_last (by omega), hml, ulen]; rfl),
                  snoc_at nd (fun j hj => by unfold ndP; rw [getD_app (by omega)]) (by unfold ndP; rw [getD_last (by omega), hml, nlen]; rfl), (nf_snoc nf),
                  by simpa using q1, q2, q3, q4⟩
              simp (disch := omega) [e1, e3, e5, e7, e8, e9, e22, e23, e24, hb, hix, hsr2, chunks, h10b, flat_rp, cells_rp, hak, hau, han, hc1, hc2, hxs, i64_wrap]
              first
                | exact fin _ _ (by simp) (by simp) (by simp) (by simp [hsr2])
                | (trace_state; simp (disch := omega) [e1, e3, e5, e7, e8, e9, e22, e23, e24, hb, hix, hsr2, chunks, h10b, flat_rp, cells_rp, hak, hau, han, hc1, hc2, hxs, i64_wrap]; exact fin _ _ (by simp) (by simp) (by simp) (by simp [hsr2]))
          · have hq0 : eqB (firstOkP s op n 0 (hd xty)) 0 = false := by rw [eqB_false]; exact hq
            have hres := hfb hq
            simp (disch := omega) [e1, e3, e5, e7, e8, e9, e22, e23, e24, hb, hix, hsr2, chunks, hq0, boxLV]
            refine post_tmp (.inr rfl) (by simp) (fz_bad2 (f := firstOkP s op n 0 (hd xty)) (u := true) (nl := true) (p := []) (by simp) ?_)
            rw [hres]
            exact ⟨hq, true, by simp⟩
      · subst hi0
        simp only [Int.natCast_zero] at hb hix e24
        have h9b : eqB op 9 = true := by rw [eqB_true]; exact h9
        have hz : ltB 0 0 = false := by rw [ltB_false]; omega
        have had := addedF_ok (GTerm.mk op n nl1 gty nl2 ks) op n nl1 gty nl2 ks rfl no.op13 0 (by omega) true [] (size := s.size) (fun h => absurd rfl h)
        have hmd' : addedC op nl1 gty 0 [] = more := by rw [hmd]; simp [addedC, h9]
        rw [hmd'] at had
        simp only [GTerm.lv, GTerm.cells] at had
        simp (disch := omega) [e1, e3, e5, e7, e8, e9, e22, e23, e24, hb, hix, h9b, hz, chunks]
        refine onCall_eq had (by simp) ?_
        simp (disch := omega) [e1, e3, e5, e7, e8, e9, e22, e23, e24, hb, hix, h9b, hz, chunks]
        refine onCall_eq cc (by simp) ?_
        simp (disch := omega) [e1, e3, e5, e7, e8, e9, e22, e23, e24, hb, hix]
        refine onCall_gives recu (by simp) ?_
        intro r hr1
        cases hT : tellG s (addedP op gty 0 (first ds) ++ List.map Prod.snd ctx) k with
        | bad f p =>
          rw [hT] at hr1
          obtain ⟨hf0, n4, hsr2⟩ := hr1
          have hfb : eqB f 0 = false := by rw [eqB_false]; exact hf0
          have hpl := tellG_path k _ f p hT
          have hpm : 1 + p.length ≤ most := by unfold most; omega
          have hres := hbadI f p hT
          simp (disch := omega) [e1, e3, e5, e7, e8, e9, e22, e23, e24, hb, hix, hsr2, hfb, chunks, appLV, hpm, boxLV]
          refine post_tmp (.inr rfl) (by simp) (fz_bad2 (f := f) (u := true) (nl := false) (p := (0 : Int) :: p) (by simp) ?_)
          rw [hres]
          exact ⟨hf0, false, by simp⟩
        | ok x =>
          have hgood := hgoodI x hT
          have hfb := hfbI x hT
          have hsame := hsameI x hT
          have hnext := hnextI x hT
          rw [hT] at hr1
          obtain ⟨xty, xnd, xks⟩ := x
          have hxis : (TT.mk xty xnd xks).is (share r) := hr1
          simp only [Res.is, TT.is] at hr1
          obtain ⟨n3, n4, xrows, hsr2, hxr⟩ := hr1
          simp only [TT.ty_mk] at hfb hsame hnext
          have hgt : okL s.size xty = true := hgood.1
          have fo := firstOkF_ok t (GTerm.mk op n nl1 gty nl2 ks) op n nl1 gty nl2 ks rfl 0 (by omega) xty hgt no.op13 (fun h => no.grade (by rcases h with h | h | h <;> (subst h; simp [hasB, eqB_true])))
          simp only [GTerm.lv, GTerm.cells] at fo
          simp (disch := omega) [e1, e3, e5, e7, e8, e9, e22, e23, e24, hb, hix, hsr2, chunks]
          refine onCall_eq fo (by simp) ?_
          simp (disch := omega) [e1, e3, e5, e7, e8, e9, e22, e23, e24, hb, hix, hsr2, chunks]
          by_cases hq : firstOkP s op n 0 (hd xty) = 0
          · rw [hq]
            have hz0 : eqB 0 0 = true := by rw [eqB_true]
            simp (disch := omega) [e1, e3, e5, e7, e8, e9, e22, e23, e24, hb, hix, hsr2, chunks, hz0]
            have h10b : eqB op 10 = false := by rw [eqB_false]; omega
            have hxl : xnd.length = ctx.length + more.length := by have := hgood.2.1; rw [cxl] at this; rw [hml]; exact this
            have hak : ∀ v, appLV 1 (.sl true ds.isEmpty 1 rows) (.sl true false 1 [[v]]) = some (.sl true false 1 (rows ++ [[v]])) := fun v => by
              simp only [appLV]
              rw [if_pos ⟨.inl trivial, .inl trivial, .inl trivial, by simp [most]; omega⟩]
              simp
            have hau := app_take (c := uds) (by omega) false xnd more.length
            have han := app_drop (c := nds) (by omega) false xnd more.length
            have hc1 := cut_take (n2 := false) (l := xnd) (k := more.length) (by omega)
            have hc2 := cut_drop (n2 := false) (l := xnd) (k := more.length) (by omega)
            have hxs := (are_share _ xrows hxr).1
            have hnot : ¬ (op = 10 ∧ 0 = 1 ∧ xty ≠ part0 (first ds)) := fun h => by omega
            have fin : ∀ (T : Nat → LV) (H : List Box), T 24 = N (0 + 1) → T 8 = newC (nds ++ [(false, xnd.drop more.length)]) → T 9 = newC (uds ++ [(false, xnd.take more.length)]) → H = none :: none :: some ((zeros (ctx.map Prod.snd).length).map N) :: outB (.sl true true 1 []) (.ha 2 1 0 (ctx.map Prod.snd).length (ctx.map Prod.snd).length) true (ds ++ [TT.mk xty xnd xks]).isEmpty (rows ++ [[share r]]) :: (hr ++ [some k.cells]) → 0 < ks.length ∧ ∃ ds rows nds uds hr, TypJ s (ctx.map Prod.snd) op n gty ks (0 + 1) T H ds rows nds uds hr := fun T H q1 q2 q3 q4 =>
              ⟨h6, ds ++ [TT.mk xty xnd xks], rows ++ [[share r]], nds ++ [(false, xnd.drop more.length)], uds ++ [(false, xnd.take more.length)], hr ++ [some k.cells], are_snoc ds rows _ _ are hxis, by simp [len],
                kok.snoc (by rw [len]; exact hgood) (by rw [len]; exact hq) (by rw [len]; exact hnot), hnext hq hnot, by simp [ulen], by simp [nlen],
                snoc_at us (fun j hj => by unfold usP; rw [getD_app (by omega)]) (by unfold usP; rw [getD_last (by omega), hml, ulen]; rfl),
                snoc_at nd (fun j hj => by unfold ndP; rw [getD_app (by omega)]) (by unfold ndP; rw [getD_last (by omega), hml, nlen]; rfl), (nf_snoc nf),
                by simpa using q1, q2, q3, q4⟩
            simp (disch := omega) [e1, e3, e5, e7, e8, e9, e22, e23, e24, hb, hix, hsr2, chunks, h10b, flat_rp, cells_rp, hak, hau, han, hc1, hc2, hxs, i64_wrap]
            first
              | exact fin _ _ (by simp) (by simp) (by simp) (by simp [hsr2])
              | (trace_state; simp (disch := omega) [e1, e3, e5, e7, e8, e9, e22, e23, e24, hb, hix, hsr2, chunks, h10b, flat_rp, cells_rp, hak, hau, han, hc1, hc2, hxs, i64_wrap]; exact fin _ _ (by simp) (by simp) (by simp) (by simp [hsr2]))
          · have hq0 : eqB (firstOkP s op n 0 (hd xty)) 0 = false := by rw [eqB_false]; exact hq
            have hres := hfb hq
            simp (disch := omega) [e1, e3, e5, e7, e8, e9, e22, e23, e24, hb, hix, hsr2, chunks, hq0, boxLV]
            refine post_tmp (.inr rfl) (by simp) (fz_bad2 (f := firstOkP s op n 0 (hd xty)) (u := true) (nl := true) (p := []) (by simp) ?_)
            rw [hres]
            exact ⟨hq, true, by simp⟩
      · have hz : ltB 0 (i : Int) = true := by rw [ltB_true]; omega
        have had := addedF_ok (GTerm.mk op n nl1 gty nl2 ks) op n nl1 gty nl2 ks rfl no.op13 i (by omega) false (first ds) (size := s.size) (fun h => ⟨rfl, hfirst h⟩)
        rw [← hmd] at had
        simp only [GTerm.lv, GTerm.cells] at had
        have hsr := (are_share ds rows are).1
        obtain ⟨q3, q4, qr, hx0, _⟩ := idx_are are false ds.isEmpty 0 (by omega)
        simp only [Int.natCast_zero] at hx0
        have hqs : ∀ rws, shareRow rws = rws → shareRow rws = rws := fun _ h => h
        simp (disch := omega) [e1, e3, e5, e7, e8, e9, e22, e23, e24, hb, hix, hz, hsr, hx0, chunks]
        refine onCall_eq had (by simp) ?_
        simp (disch := omega) [e1, e3, e5, e7, e8, e9, e22, e23, e24, hb, hix, hz, hsr, chunks]
        refine onCall_eq cc (by simp) ?_
        simp (disch := omega) [e1, e3, e5, e7, e8, e9, e22, e23, e24, hb, hix]
        refine onCall_gives recu (by simp) ?_
        intro r hr1
        cases hT : tellG s (addedP op gty i (first ds) ++ List.map Prod.snd ctx) k with
        | bad f p =>
          rw [hT] at hr1
          obtain ⟨hf0, n4, hsr2⟩ := hr1
          have hfb : eqB f 0 = false := by rw [eqB_false]; exact hf0
          have hpl := tellG_path k _ f p hT
          have hpm : 1 + p.length ≤ most := by unfold most; omega
          have hres := hbadI f p hT
          simp (disch := omega) [e1, e3, e5, e7, e8, e9, e22, e23, e24, hb, hix, hsr2, hfb, chunks, appLV, hpm, boxLV]
          refine post_tmp (.inr rfl) (by simp) (fz_bad2 (f := f) (u := true) (nl := false) (p := (i : Int) :: p) (by simp) ?_)
          rw [hres]
          exact ⟨hf0, false, by simp⟩
        | ok x =>
          have hgood := hgoodI x hT
          have hfb := hfbI x hT
          have hsame := hsameI x hT
          have hnext := hnextI x hT
          rw [hT] at hr1
          obtain ⟨xty, xnd, xks⟩ := x
          have hxis : (TT.mk xty xnd xks).is (share r) := hr1
          simp only [Res.is, TT.is] at hr1
          obtain ⟨n3, n4, xrows, hsr2, hxr⟩ := hr1
          simp only [TT.ty_mk] at hfb hsame hnext
          have hgt : okL s.size xty = true := hgood.1
          have fo := firstOkF_ok t (GTerm.mk op n nl1 gty nl2 ks) op n nl1 gty nl2 ks rfl i (by omega) xty hgt no.op13 (fun h => no.grade (by rcases h with h | h | h <;> (subst h; simp [hasB, eqB_true])))
          simp only [GTerm.lv, GTerm.cells] at fo
          simp (disch := omega) [e1, e3, e5, e7, e8, e9, e22, e23, e24, hb, hix, hsr2, chunks]
          refine onCall_eq fo (by simp) ?_
          simp (disch := omega) [e1, e3, e5, e7, e8, e9, e22, e23, e24, hb, hix, hsr2, chunks]
          by_cases hq : firstOkP s op n i (hd xty) = 0
          · rw [hq]
            have hz0 : eqB 0 0 = true := by rw [eqB_true]
            simp (disch := omega) [e1, e3, e5, e7, e8, e9, e22, e23, e24, hb, hix, hsr2, chunks, hz0]
            by_cases h10 : op = 10
            · by_cases h19 : op = 9
              · exfalso; omega
              · have h10b : eqB op 10 = true := by rw [eqB_true]; exact h10
                by_cases hi1 : i = 1
                · have hi1b : eqB (i : Int) 1 = true := by rw [eqB_true]; omega
                  have hxs0 := (are_share _ xrows hxr).1
                  simp (disch := omega) [e1, e3, e5, e7, e8, e9, e22, e23, e24, hb, hix, hsr2, chunks, h10b, hi1b, hsr, hx0, hxs0, flat_rp, cells_rp]
                  have hf1 := hfirst (by omega)
                  refine onCall_eq (partsF_ok (l := tyP ds 0) (okL_wty hf1.1)) (by simp) ?_
                  rw [partsL_two (l := tyP ds 0) (kids_arr (hf1.2.2.2.2.1 h10))]
                  have hx1 : idxLV 1 (.sl true false 1 [[L false (part0 (tyP ds 0))], [L false (part1 (tyP ds 0))]]) 0 = some (.rp [L false (part0 (tyP ds 0))]) := by simp [idxLV]
                  simp (disch := omega) [e1, e3, e5, e7, e8, e9, e22, e23, e24, hb, hix, hsr2, chunks, hx1]
                  have hlx := okL_len hgt
                  refine onCall_eq (Equal_ok false false xty (part0 (tyP ds 0)) (by omega)) (by simp) ?_
                  cases he : (xty == part0 (tyP ds 0))
                  · have he2 : xty ≠ part0 (tyP ds 0) := by simpa using he
                    have hres := hsame hq ⟨h10, hi1, he2⟩
                    simp (disch := omega) [e1, e3, e5, e7, e8, e9, e22, e23, e24, hb, hix, hsr2, chunks, boxLV]
                    refine post_tmp (.inr rfl) (by simp) (fz_bad2 (f := 3) (u := true) (nl := true) (p := []) (by simp) ?_)
                    rw [hres]
                    exact ⟨by omega, true, by simp⟩
                  · have he' : xty = part0 (first ds) := by simpa [first] using he
                    have hxl : xnd.length = ctx.length + more.length := by have := hgood.2.1; rw [cxl] at this; rw [hml]; exact this
                    have hak : ∀ v, appLV 1 (.sl true ds.isEmpty 1 rows) (.sl true false 1 [[v]]) = some (.sl true false 1 (rows ++ [[v]])) := fun v => by
                      simp only [appLV]
                      rw [if_pos ⟨.inl trivial, .inl trivial, .inl trivial, by simp [most]; omega⟩]
                      simp
                    have hau := app_take (c := uds) (by omega) false xnd more.length
                    have han := app_drop (c := nds) (by omega) false xnd more.length
                    have hc1 := cut_take (n2 := false) (l := xnd) (k := more.length) (by omega)
                    have hc2 := cut_drop (n2 := false) (l := xnd) (k := more.length) (by omega)
                    have hxs := (are_share _ xrows hxr).1
                    have hnot : ¬ (op = 10 ∧ i = 1 ∧ xty ≠ part0 (first ds)) := fun h => h.2.2 he'
                    have fin : ∀ (T : Nat → LV) (H : List Box), T 24 = N ((i : Int) + 1) → T 8 = newC (nds ++ [(false, xnd.drop more.length)]) → T 9 = newC (uds ++ [(false, xnd.take more.length)]) → H = none :: none :: some ((zeros (ctx.map Prod.snd).length).map N) :: outB (.sl true true 1 []) (.ha 2 1 0 (ctx.map Prod.snd).length (ctx.map Prod.snd).length) true (ds ++ [TT.mk xty xnd xks]).isEmpty (rows ++ [[share r]]) :: (hr ++ [some k.cells]) → i < ks.length ∧ ∃ ds rows nds uds hr, TypJ s (ctx.map Prod.snd) op n gty ks (i + 1) T H ds rows nds uds hr := fun T H q1 q2 q3 q4 =>
                      ⟨h6, ds ++ [TT.mk xty xnd xks], rows ++ [[share r]], nds ++ [(false, xnd.drop more.length)], uds ++ [(false, xnd.take more.length)], hr ++ [some k.cells], are_snoc ds rows _ _ are hxis, by simp [len],
                        kok.snoc (by rw [len]; exact hgood) (by rw [len]; exact hq) (by rw [len]; exact hnot), hnext hq hnot, by simp [ulen], by simp [nlen],
                        snoc_at us (fun j hj => by unfold usP; rw [getD_app (by omega)]) (by unfold usP; rw [getD_last (by omega), hml, ulen]; rfl),
                        snoc_at nd (fun j hj => by unfold ndP; rw [getD_app (by omega)]) (by unfold ndP; rw [getD_last (by omega), hml, nlen]; rfl), (nf_snoc nf),
                        by simpa using q1, q2, q3, q4⟩
                    simp (disch := omega) [e1, e3, e5, e7, e8, e9, e22, e23, e24, hb, hix, hsr2, chunks, h10b, hi1b, flat_rp, cells_rp, hak, hau, han, hc1, hc2, hxs, i64_wrap]
                    first
                      | exact fin _ _ (by simp) (by simp) (by simp) (by simp [hsr2])
                      | (trace_state; simp (disch := omega) [e1, e3, e5, e7, e8, e9, e22, e23, e24, hb, hix, hsr2, chunks, h10b, hi1b, flat_rp, cells_rp, hak, hau, han, hc1, hc2, hxs, i64_wrap]; exact fin _ _ (by simp) (by simp) (by simp) (by simp [hsr2]))
                · have hi1b : eqB (i : Int) 1 = false := by rw [eqB_false]; omega
                  have hxl : xnd.length = ctx.length + more.length := by have := hgood.2.1; rw [cxl] at this; rw [hml]; exact this
                  have hak : ∀ v, appLV 1 (.sl true ds.isEmpty 1 rows) (.sl true false 1 [[v]]) = some (.sl true false 1 (rows ++ [[v]])) := fun v => by
                    simp only [appLV]
                    rw [if_pos ⟨.inl trivial, .inl trivial, .inl trivial, by simp [most]; omega⟩]
                    simp
                  have hau := app_take (c := uds) (by omega) false xnd more.length
                  have han := app_drop (c := nds) (by omega) false xnd more.length
                  have hc1 := cut_take (n2 := false) (l := xnd) (k := more.length) (by omega)
                  have hc2 := cut_drop (n2 := false) (l := xnd) (k := more.length) (by omega)
                  have hxs := (are_share _ xrows hxr).1
                  have hnot : ¬ (op = 10 ∧ i = 1 ∧ xty ≠ part0 (first ds)) := fun h => hi1 h.2.1
                  have fin : ∀ (T : Nat → LV) (H : List Box), T 24 = N ((i : Int) + 1) → T 8 = newC (nds ++ [(false, xnd.drop more.length)]) → T 9 = newC (uds ++ [(false, xnd.take more.length)]) → H = none :: none :: some ((zeros (ctx.map Prod.snd).length).map N) :: outB (.sl true true 1 []) (.ha 2 1 0 (ctx.map Prod.snd).length (ctx.map Prod.snd).length) true (ds ++ [TT.mk xty xnd xks]).isEmpty (rows ++ [[share r]]) :: (hr ++ [some k.cells]) → i < ks.length ∧ ∃ ds rows nds uds hr, TypJ s (ctx.map Prod.snd) op n gty ks (i + 1) T H ds rows nds uds hr := fun T H q1 q2 q3 q4 =>
                    ⟨h6, ds ++ [TT.mk xty xnd xks], rows ++ [[share r]], nds ++ [(false, xnd.drop more.length)], uds ++ [(false, xnd.take more.length)], hr ++ [some k.cells], are_snoc ds rows _ _ are hxis, by simp [len],
                      kok.snoc (by rw [len]; exact hgood) (by rw [len]; exact hq) (by rw [len]; exact hnot), hnext hq hnot, by simp [ulen], by simp [nlen],
                      snoc_at us (fun j hj => by unfold usP; rw [getD_app (by omega)]) (by unfold usP; rw [getD_last (by omega), hml, ulen]; rfl),
                      snoc_at nd (fun j hj => by unfold ndP; rw [getD_app (by omega)]) (by unfold ndP; rw [getD_last (by omega), hml, nlen]; rfl), (nf_snoc nf),
                      by simpa using q1, q2, q3, q4⟩
                  simp (disch := omega) [e1, e3, e5, e7, e8, e9, e22, e23, e24, hb, hix, hsr2, chunks, h10b, hi1b, flat_rp, cells_rp, hak, hau, han, hc1, hc2, hxs, i64_wrap]
                  first
                    | exact fin _ _ (by simp) (by simp) (by simp) (by simp [hsr2])
                    | (trace_state; simp (disch := omega) [e1, e3, e5, e7, e8, e9, e22, e23, e24, hb, hix, hsr2, chunks, h10b, hi1b, flat_rp, cells_rp, hak, hau, han, hc1, hc2, hxs, i64_wrap]; exact fin _ _ (by simp) (by simp) (by simp) (by simp [hsr2]))
            · have h10b : eqB op 10 = false := by rw [eqB_false]; exact h10
              have hxl : xnd.length = ctx.length + more.length := by have := hgood.2.1; rw [cxl] at this; rw [hml]; exact this
              have hak : ∀ v, appLV 1 (.sl true ds.isEmpty 1 rows) (.sl true false 1 [[v]]) = some (.sl true false 1 (rows ++ [[v]])) := fun v => by
                simp only [appLV]
                rw [if_pos ⟨.inl trivial, .inl trivial, .inl trivial, by simp [most]; omega⟩]
                simp
              have hau := app_take (c := uds) (by omega) false xnd more.length
              have han := app_drop (c := nds) (by omega) false xnd more.length
              have hc1 := cut_take (n2 := false) (l := xnd) (k := more.length) (by omega)
              have hc2 := cut_drop (n2 := false) (l := xnd) (k := more.length) (by omega)
              have hxs := (are_share _ xrows hxr).1
              have hnot : ¬ (op = 10 ∧ i = 1 ∧ xty ≠ part0 (first ds)) := fun h => h10 h.1
              have fin : ∀ (T : Nat → LV) (H : List Box), T 24 = N ((i : Int) + 1) → T 8 = newC (nds ++ [(false, xnd.drop more.length)]) → T 9 = newC (uds ++ [(false, xnd.take more.length)]) → H = none :: none :: some ((zeros (ctx.map Prod.snd).length).map N) :: outB (.sl true true 1 []) (.ha 2 1 0 (ctx.map Prod.snd).length (ctx.map Prod.snd).length) true (ds ++ [TT.mk xty xnd xks]).isEmpty (rows ++ [[share r]]) :: (hr ++ [some k.cells]) → i < ks.length ∧ ∃ ds rows nds uds hr, TypJ s (ctx.map Prod.snd) op n gty ks (i + 1) T H ds rows nds uds hr := fun T H q1 q2 q3 q4 =>
                ⟨h6, ds ++ [TT.mk xty xnd xks], rows ++ [[share r]], nds ++ [(false, xnd.drop more.length)], uds ++ [(false, xnd.take more.length)], hr ++ [some k.cells], are_snoc ds rows _ _ are hxis, by simp [len],
                  kok.snoc (by rw [len]; exact hgood) (by rw [len]; exact hq) (by rw [len]; exact hnot), hnext hq hnot, by simp [ulen], by simp [nlen],
                  snoc_at us (fun j hj => by unfold usP; rw [getD_app (by omega)]) (by unfold usP; rw [getD_last (by omega), hml, ulen]; rfl),
                  snoc_at nd (fun j hj => by unfold ndP; rw [getD_app (by omega)]) (by unfold ndP; rw [getD_last (by omega), hml, nlen]; rfl), (nf_snoc nf),
                  by simpa using q1, q2, q3, q4⟩
              simp (disch := omega) [e1, e3, e5, e7, e8, e9, e22, e23, e24, hb, hix, hsr2, chunks, h10b, flat_rp, cells_rp, hak, hau, han, hc1, hc2, hxs, i64_wrap]
              first
                | exact fin _ _ (by simp) (by simp) (by simp) (by simp [hsr2])
                | (trace_state; simp (disch := omega) [e1, e3, e5, e7, e8, e9, e22, e23, e24, hb, hix, hsr2, chunks, h10b, flat_rp, cells_rp, hak, hau, han, hc1, hc2, hxs, i64_wrap]; exact fin _ _ (by simp) (by simp) (by simp) (by simp [hsr2]))
          · have hq0 : eqB (firstOkP s op n i (hd xty)) 0 = false := by rw [eqB_false]; exact hq
            have hres := hfb hq
            simp (disch := omega) [e1, e3, e5, e7, e8, e9, e22, e23, e24, hb, hix, hsr2, chunks, hq0, boxLV]
            refine post_tmp (.inr rfl) (by simp) (fz_bad2 (f := firstOkP s op n i (hd xty)) (u := true) (nl := true) (p := []) (by simp) ?_)
            rw [hres]
            exact ⟨hq, true, by simp⟩
    · rintro t1 hh hf ⟨ds, rows, nds, uds, hr, J⟩
      (have e1 := hf 1 (by kernel_rfl); have e3 := hf 3 (by kernel_rfl); have e5 := hf 5 (by kernel_rfl); have e7 := hf 7 (by kernel_rfl); clear hf; simp [] at e1 e3 e5 e7)
      obtain ⟨are, len, kok, tell, ulen, nlen, us, nd, nf, e24, e8, e9, rfl⟩ := J
      rw [List.drop_length, tellK] at tell
      simp (disch := omega) [e1, e3, e5, e7, e8, e9]
      have no' : NodeOk s ctx.length op n gty ds.length := by rw [len]; exact no
      have kok' : KidsOk s ctx.length op n ds := by rw [← cxl]; exact kok
      have hnd : ∀ j, j < ds.length → idxLV 1 (LC nds.isEmpty nds) (j : Int) = some (.rp [L false (ndP op ds j)]) := fun j hj => by
        have h1 := nf _ (List.getElem_mem (show j < nds.length by omega))
        rw [idx_C nds nds.isEmpty j (by omega), ← nd j (by omega)]
        show some (LV.rp [L (nds[j]'(by omega)).1 (nds[j]'(by omega)).2]) = _
        rw [h1]
      have hud : ∀ j, j < ds.length → ∃ f, idxLV 1 (LC uds.isEmpty uds) (j : Int) = some (.rp [L f (usP op ds j)]) := fun j hj =>
        ⟨(uds[j]'(by omega)).1, by rw [idx_C uds uds.isEmpty j (by omega), ← us j (by omega)]⟩
      have fin := finishF_ok hsy nlc ctx (by omega) hc hcf op n nl1 gty nl2 ks ds no' kok' rows are true ds.isEmpty nds.isEmpty uds.isEmpty nds uds hnd hud hr ctx.length rfl
      simp only [GTerm.lv, GTerm.cells] at fin
      refine onCall_any (by simpa only [cxl] using fin) ?_
      rintro r h' ⟨rfl, T, ndv, c2, hr', rfl, hfin⟩
      have hT : tellG s (ctx.map Prod.snd) (GTerm.mk op n nl1 gty nl2 ks) = if (finP s (ctx.map Prod.snd) op n gty ds).1 = 0 then .ok (.mk (finP s (ctx.map Prod.snd) op n gty ds).2.1 (finP s (ctx.map Prod.snd) op n gty ds).2.2 ds) else .bad (finP s (ctx.map Prod.snd) op n gty ds).1 [] := by
        rw [tellG, tell]
      generalize finP s (ctx.map Prod.snd) op n gty ds = q at hfin hT
      obtain ⟨F, Q1, Q2⟩ := q
      simp only at hfin hT
      have hsr := are_share ds rows are
      by_cases hF : F = 0
      · subst hF
        obtain ⟨⟨u, rfl⟩, hn⟩ := hfin rfl
        rw [if_pos rfl] at hT
        have hz0 : eqB 0 0 = true := by rw [eqB_true]
        simp (disch := omega) [e1, e3, e5, e7, hz0]
        refine post_tmp (.inr rfl) (by simp) ?_
        simp
        refine fz_ok hsr.2 hn fun u2 => ?_
        rw [hT]
        exact ⟨ds.isEmpty, true, rows, by simp [hsr.1], are⟩
      · have hF0 : eqB F 0 = false := by rw [eqB_false]; exact hF
        rw [if_neg hF] at hT
        simp (disch := omega) [e1, e3, e5, e7, hF0, boxLV]
        refine post_tmp (.inr rfl) (by simp) (fz_bad2 (f := F) (u := true) (nl := true) (p := []) (by simp) ?_)
        rw [hT]
        exact ⟨hF, true, by simp⟩
end Go.Proofs.YtclfngbealdbgaaGreat
namespace Go.Proofs.YtclfngbealdbgaaGreat
open Go Go.TL
open Go.Proofs.YtclfngbealdbgaaGreat.Ty
set_option linter.unusedSimpArgs false
set_option linter.unusedVariables false
set_option maxRecDepth 20000
set_option maxHeartbeats 4000000
theorem Gives.low {P : Program} {f : FuncId} {args : List LV} {R : LV → Prop} (c : Gives P f args R) : Gives P f args (fun r => R r ∧ Low 0 r) :=
  LCalls.mono c fun r h' h => ⟨h, h.2⟩
def GTerm.termB (size n : Int) (t : GTerm) : Bool := within n 0 8 && (decide (t.size ≤ 400) && formB n size true t)
def inB (s : GSys) (ctx : GCtx) (t : GTerm) : Bool := s.sys && (ctxB s.size ctx && t.termB s.size ctx.length)
theorem has_fn {s : GSys} (t : s.Tab) (n : Int) (h : I64 n) : FnB Tryz.prog (.fnm n__impl_System__has [s.lv]) (N n) (within n 0 (s.size - 1)) := by
  have h2 := t.lo; have h16 := t.hi
  exact ⟨n__impl_System__has, [s.lv, N n], by simp [fnArgs], by simp, has_ok s ⟨by omega, by omega⟩ (by omega) n⟩
theorem isTermOf_1_fn {s : GSys} (t : s.Tab) (nl : Bool) (ty : List Int) (h : Lok ty) : FnB Tryz.prog (.fn n_impl_isTermOf_1 [.rp s.cells]) (L nl ty) (wty ty && gradedB s.size true ty) := by
  refine ⟨n_impl_isTermOf_1, [L nl ty, .rp s.cells], by simp [fnArgs], by simp, ?_⟩
  refine Gives.of_codeOf c_impl_isTermOf_1 mixed (by simp) ⟨_, rfl, by simp⟩ ?_
  simp (disch := omega) [k_impl_isTermOf_1]
  refine onCall_eq (isTypeOf_ok t nl ty h) (by simp) ?_
  simp (disch := omega)
theorem isTermOf_ok {s : GSys} (t : s.Tab) (g : GTerm) (hw : g.wf) (n : Int) (hn : I64 n) : Gives Tryz.prog n_impl_isTermOf [s.lv, g.lv, N n] (· = B (g.termB s.size n)) := by
  refine Gives.of_codeOf c_impl_isTermOf mixed (by simp) ⟨_, rfl, by simp⟩ ?_
  by_cases hr : within n 0 8 = true
  · rw [within_true] at hr
    have hc := check_ok (.fnm n__impl_System__has [s.lv]) (.fn n_impl_isTermOf_1 [.rp s.cells]) (fun m => within m 0 (s.size - 1)) (fun ty => wty ty && gradedB s.size true ty) (by simp) (by simp) (by simp) (by simp) (fun m hm => has_fn t m hm) (fun nl ty h => isTermOf_1_fn t nl ty h) g.size g (by omega) hw n 0 (by omega) (by omega) (by omega) (by omega)
    rw [formG_eq (size := s.size) (closed := true) (fun m => by rw [Bool.eq_iff_iff]; simp [within, ltB_true, ltB_false, leB_true, leB_false, eqB_true, eqB_false, Bool.not_true, Bool.not_false]; omega) (fun ty => rfl)] at hc
    have h2 : leB (chkI (formB n s.size true g) 0 g.size) 400 = g.termB s.size n := by
      rw [Bool.eq_iff_iff]
      simp only [ltB_true, ltB_false, leB_true, leB_false, eqB_true, eqB_false, Bool.not_true, Bool.not_false, chkI, GTerm.termB, Bool.and_eq_true, decide_eq_true_eq, within_true]
      split <;> grind
    have hr' : within n 0 8 = true := by rw [within_true]; exact hr
    simp (disch := omega) [k_impl_isTermOf, boxLV, frzLV]
    refine onCall_eq (within_ok n 0 8) (by simp) ?_
    simp (disch := omega) [hr']
    refine onCall_eq hc (by simp) ?_
    simp (disch := omega) [h2]
  · have hr' : within n 0 8 = false := by simpa using hr
    simp (disch := omega) [k_impl_isTermOf, boxLV, frzLV]
    refine onCall_eq (within_ok n 0 8) (by simp) ?_
    simp (disch := omega) [hr', GTerm.termB]
theorem wf_I64len {ctx : GCtx} (h : ctx.wf) : I64 (ctx.length : Int) := by have := h.1; unfold I64; omega
structure Arg (s : GSys) (ctx : GCtx) (g : GTerm) : Prop where
  sw : s.wf
  cw : ctx.wf
  gw : g.wf
  cf : ∀ c ∈ ctx, flOk c.1 c.2
  gf : g.fl
theorem Arg.flags {s : GSys} {ctx : GCtx} {g : GTerm} (a : Arg s ctx g) (h : ctxB s.size ctx = true) : (∀ c ∈ ctx, okL s.size c.2 = true) ∧ (∀ c ∈ ctx, c.1 = false) ∧ ctx.length ≤ 8 := by
  unfold ctxB at h
  rw [Bool.and_eq_true, leB_true, allN_iff] at h
  have hk : ∀ c ∈ ctx, okL s.size c.2 = true := by
    intro c hc
    obtain ⟨i, hi, rfl⟩ := List.getElem_of_mem hc
    have := h.2 i hi
    rw [okAt_in hi] at this
    exact this
  refine ⟨hk, fun c hc => ?_, by omega⟩
  cases hn : c.1 with
  | false => rfl
  | true => have := a.cf c hc hn; have := okL_len (hk c hc); simp_all
theorem typedOf_ok {s : GSys} {ctx : GCtx} {g : GTerm} (a : Arg s ctx g) (nlc : Bool) : Gives Tryz.prog n_impl_typedOf [s.lv, LC nlc ctx, g.lv] (fun r => if inB s ctx g = true then (tellG s (ctx.map Prod.snd) g).is (share r) else r = .sc (.pointer none)) := by
  refine Gives.of_codeOf c_impl_typedOf mixed (by simp) ?_ ?_
  · by_cases h : inB s ctx g = true
    · obtain ⟨ys, h1, h2⟩ := res_ex (tellG s (ctx.map Prod.snd) g) fun f p h => tellG_bad _ _ f p h
      exact ⟨.rp ys, by rw [if_pos h]; exact h1, by simpa using h2⟩
    · exact ⟨.sc (.pointer none), by rw [if_neg h], by simp⟩
  simp (disch := omega) [k_impl_typedOf, boxLV, frzLV]
  refine onCall_eq (implIsSystem_ok s a.sw) (by simp) ?_
  cases hs : s.sys
  · simp (disch := omega) [inB, hs]
  · have t := GSys.sys_of hs
    simp (disch := omega)
    refine onCall_eq (isContext_ok s t nlc ctx a.cw) (by simp) ?_
    cases hc : ctxB s.size ctx
    · simp (disch := omega) [inB, hs, hc]
    · simp (disch := omega)
      refine onCall_eq (isTermOf_ok t g a.gw ctx.length (wf_I64len a.cw)) (by simp) ?_
      cases ht : g.termB s.size ctx.length
      · simp (disch := omega) [inB, hs, hc, ht]
      · have hin : inB s ctx g = true := by simp [inB, hs, hc, ht]
        obtain ⟨f1, f2, f3⟩ := a.flags hc
        have ht' := ht
        unfold GTerm.termB at ht'
        simp only [Bool.and_eq_true, decide_eq_true_eq] at ht'
        have ty := typ_ok hs g.size g nlc ctx (Nat.le_refl _) a.gw a.gf f1 f2 (by omega) ht'.2.2
        simp (disch := omega) [take_cells]
        refine onCall_gives (Gives.low ty) (by simp) ?_
        rintro r ⟨hr, lo⟩
        simp (disch := omega) [hin, hr, lo]
def tellO (s : GSys) (ctx : GCtx) (g : GTerm) : Option TT := if inB s ctx g = true then (match tellG s (ctx.map Prod.snd) g with
  | .ok x => some x
  | .bad _ _ => none) else none
theorem tellO_good {s : GSys} {ctx : GCtx} {g : GTerm} (a : Arg s ctx g) {x : TT} (h : tellO s ctx g = some x) : x.good s ctx.length ∧ s.sys = true ∧ ctxB s.size ctx = true ∧ g.termB s.size ctx.length = true ∧ ctx.length ≤ 8 ∧ tellG s (ctx.map Prod.snd) g = .ok x := by
  unfold tellO at h
  split at h
  · rename_i hin
    unfold inB at hin
    simp only [Bool.and_eq_true] at hin
    obtain ⟨h1, h2, h3⟩ := hin
    obtain ⟨f1, f2, f3⟩ := a.flags h2
    split at h
    · rename_i y hy
      simp only [Option.some.injEq] at h
      subst h
      have h4 := h3
      unfold GTerm.termB at h4
      simp only [Bool.and_eq_true, decide_eq_true_eq] at h4
      have := tellG_good (GSys.sys_of h1) g (ctx.map Prod.snd) y (fun l hl => by
        obtain ⟨c, hc, rfl⟩ := List.mem_map.1 hl
        exact f1 c hc) (by rw [List.length_map]; exact h4.2.2) hy
      rw [List.length_map] at this
      exact ⟨this, h1, h2, h3, f3, hy⟩
    · simp at h
  · simp at h
theorem bin_prp (ys : List LV) : binLV .ptr .eql (.rp ys) (.sc (.pointer none)) = some (B false) := rfl
theorem bin_pnil : binLV .ptr .eql (.sc (.pointer none)) (.sc (.pointer none)) = some (B true) := rfl
end Go.Proofs.YtclfngbealdbgaaGreat
namespace Go.Proofs.YtclfngbealdbgaaGreat
open Go Go.TL
set_option linter.unusedSimpArgs false
set_option linter.unusedVariables false
set_option maxRecDepth 20000
set_option maxHeartbeats 4000000
def mmLV (mx : Bool) (x y : LV) : Option LV := match x, y with
  | .sc (.int k a), .sc (.int _ b) => some (.sc (.int k (if (if mx then b > a else b < a) then b else a)))
  | _, _ => none
@[simp] theorem step_mm {s : St} {d : Nat} {mx : Bool} {x y : X} : TL.step (.minmax d mx x y) s = (mmLV mx (TL.get s.t x) (TL.get s.t y)).map (s.put d) := by
  simp only [TL.step, mmLV]
  split <;> simp_all
@[simp] theorem mm_min {k k' : IntKind} {a b : Int} : mmLV false (.sc (.int k a)) (.sc (.int k' b)) = some (.sc (.int k (if b < a then b else a))) := by simp [mmLV]
@[simp] theorem mm_max {k k' : IntKind} {a b : Int} : mmLV true (.sc (.int k a)) (.sc (.int k' b)) = some (.sc (.int k (if a < b then b else a))) := by simp [mmLV]
def tabL {α : Type} (f : Nat → Nat → α) (size a b : Nat) : List α := ((List.range a).flatMap fun x => (List.range size).map fun y => f x y) ++ (List.range b).map fun y => f a y
abbrev OI (l : List Int) : LV := .sl true l.isEmpty 1 (l.map fun n => [N n])
abbrev OBl (l : List Bool) : LV := .sl true l.isEmpty 1 (l.map fun b => [B b])
def nPl (n a b : Nat) : Int := min ((a : Int) + b) (n + 1)
def nTm (n a b : Nat) : Int := min ((a : Int) * b) (n + 1)
def nBl (n : Nat) (bound : Bool) (a b : Nat) : Bool := eqB a b || (eqB b (n + 1) || (bound && leB a b))
end Go.Proofs.YtclfngbealdbgaaGreat
namespace Go.Proofs.YtclfngbealdbgaaGreat
open Go Go.TL
set_option linter.unusedSimpArgs false
set_option linter.unusedVariables false
set_option linter.unusedSectionVars false
set_option maxRecDepth 20000
set_option maxHeartbeats 4000000
def andI (a b : Int) : Int := IntKind.i64.wrap (BitVec.ofInt 64 a &&& BitVec.ofInt 64 b).toNat
def xorI (a b : Int) : Int := IntKind.i64.wrap (BitVec.ofInt 64 a ^^^ BitVec.ofInt 64 b).toNat
def shrI (a b : Int) : Int := a.fdiv (2 ^ (min b.toNat 64))
@[simp] theorem bin_and {a b : Int} : binLV .num .and (N a) (N b) = some (N (andI a b)) := rfl
@[simp] theorem bin_xor {a b : Int} : binLV .num .xor (N a) (N b) = some (N (xorI a b)) := rfl
@[simp] theorem bin_shr {a b : Int} : binLV .num .shr (N a) (.sc (.int .u64 b)) = if b < 0 then none else some (N (shrI a b)) := by simp [binLV, shrI, IntKind.bits]
end Go.Proofs.YtclfngbealdbgaaGreat
namespace Go.Proofs.YtclfngbealdbgaaGreat
open Go Go.TL
set_option linter.unusedSimpArgs false
set_option linter.unusedVariables false
set_option linter.unusedSectionVars false
set_option maxRecDepth 20000
set_option maxHeartbeats 4000000
def lX (n a : Nat) : Int := ((n : Int) + 1 - a).tmod (n + 1)
def lPl (n a b : Nat) : Int := ((n : Int) + 1 - max (lX n a) (lX n b)).tmod (n + 1)
def lTm (n a b : Nat) : Int := ((n : Int) + 1 - min (lX n a) (lX n b)).tmod (n + 1)
def lBl (n a b : Nat) : Bool := leB (lX n a) (lX n b)
abbrev tabSys (size : Nat) (p t : Nat → Nat → Int) (b : Nat → Nat → Bool) : LV := .agg [N size, OI (tabL p size size 0), OI (tabL t size size 0), OBl (tabL b size size 0)]
def firstI (n g : Int) : Int := if g = 0 then 0 else if g = 1 then 1 else if g ≤ n + 1 then (g - 1).tdiv n else g.tdiv n
def secondI (n g : Int) : Int := if g < 2 then g else if g ≤ n + 1 then (g - 1).tmod n else g.tmod n
def pairI (n x y : Int) : Int := if x * n + y = 0 then 0 else if x * n + y = n + 1 then 1 else if x * n + y < n + 1 then x * n + y + 1 else x * n + y
def tabG (size : Nat) (p t : Nat → Nat → Int) (b : Nat → Nat → Bool) : GSys :=
  ⟨size, (tabL p size size 0).isEmpty, tabL p size size 0, (tabL t size size 0).isEmpty, tabL t size size 0, (tabL b size size 0).isEmpty, tabL b size size 0⟩
theorem share_tab (size : Nat) (p t : Nat → Nat → Int) (b : Nat → Nat → Bool) : share (tabSys size p t b) = (tabG size p t b).lv := by simp [tabSys, tabG]
def pPl (a b : GSys) (n : Nat) (g h : Nat) : Int := pairI n (a.pl (firstI n g) (firstI n h)) (b.pl (secondI n g) (secondI n h))
def pTm (a b : GSys) (n : Nat) (g h : Nat) : Int := pairI n (a.tm (firstI n g) (firstI n h)) (b.tm (secondI n g) (secondI n h))
def pBl (a b : GSys) (n : Nat) (g h : Nat) : Bool := a.le (firstI n g) (firstI n h) && b.le (secondI n g) (secondI n h)
end Go.Proofs.YtclfngbealdbgaaGreat
namespace Go.Proofs.YtclfngbealdbgaaGreat
open Go Go.TL
set_option linter.unusedSimpArgs false
set_option linter.unusedVariables false
set_option linter.unusedSectionVars false
set_option maxRecDepth 100000
set_option maxHeartbeats 4000000
inductive DS where
  | count (n : Nat) | bound (n : Nat) | level (n : Nat) | prod (n : Nat)
def DS.ok : DS → Bool
  | .count n => decide (1 ≤ n) && decide (n ≤ 3)
  | .bound n => decide (1 ≤ n) && decide (n ≤ 3)
  | .level n => decide (1 ≤ n) && decide (n ≤ 3)
  | .prod n => decide (1 ≤ n) && decide (n ≤ 2)
def cntG (n : Nat) (bound : Bool) : GSys := tabG (n + 2) (nPl n) (nTm n) (nBl n bound)
def levG (n : Nat) : GSys := tabG (n + 1) (lPl n) (lTm n) (lBl n)
def prodG (n : Nat) : GSys := tabG (3 * (n + 1)) (pPl (cntG 1 false) (levG n) (n + 1)) (pTm (cntG 1 false) (levG n) (n + 1)) (pBl (cntG 1 false) (levG n) (n + 1))
def DS.sys : DS → GSys
  | .count n => cntG n false
  | .bound n => cntG n true
  | .level n => levG n
  | .prod n => prodG n
def DS.lv : DS → LV
  | .count n => tabSys (n + 2) (nPl n) (nTm n) (nBl n false)
  | .bound n => tabSys (n + 2) (nPl n) (nTm n) (nBl n true)
  | .level n => tabSys (n + 1) (lPl n) (lTm n) (lBl n)
  | .prod n => tabSys (3 * (n + 1)) (pPl (cntG 1 false) (levG n) (n + 1)) (pTm (cntG 1 false) (levG n) (n + 1)) (pBl (cntG 1 false) (levG n) (n + 1))
theorem DS.share (d : DS) : share d.lv = d.sys.lv := by
  cases d <;> simp only [DS.lv, DS.sys, cntG, levG, prodG, share_tab]
end Go.Proofs.YtclfngbealdbgaaGreat
namespace Go.Proofs.YtclfngbealdbgaaGreat
open Go Go.TL
open Go.Proofs.YtclfngbealdbgaaGreat.Ty
set_option linter.unusedSimpArgs false
set_option linter.unusedVariables false
set_option linter.unusedSectionVars false
set_option maxRecDepth 20000
set_option maxHeartbeats 4000000
theorem app_ints {l r : List Int} {u nl : Bool} (h : l.length + r.length ≤ 1099511627776) : appLV 1 (OU true false l) (OU u nl r) = some (OU true false (l ++ r)) := by
  simp only [appLV]
  rw [if_pos ⟨.inl trivial, .inl trivial, .inl trivial, by simp only [List.length_map]; exact h⟩]
  simp only [Bool.true_or, Bool.false_and]
  rw [OU, List.map_append]
def gluedTo (c : Int) (ctx : GCtx) (k : Nat) : List Int := c :: ((ctx.take k).map (·.2)).flatten
theorem glued_step (c : Int) (ctx : GCtx) (k : Nat) (h : k < ctx.length) : gluedTo c ctx (k + 1) = gluedTo c ctx k ++ ctx[k].2 := by
  rw [gluedTo, gluedTo, List.take_succ_eq_append_getElem h, List.map_append, List.flatten_append, List.cons_append]
  simp only [List.map_cons, List.map_nil, List.flatten_cons, List.flatten_nil, List.append_nil]
theorem glued_len (c : Int) (ctx : GCtx) (k : Nat) (h : k ≤ ctx.length) : (gluedTo c ctx k).length ≤ 1 + cws ctx := by
  have key : ∀ (ctx : GCtx), ((ctx.map (·.2)).flatten).length = cws ctx := by
    intro ctx
    induction ctx with
    | nil => simp [cws]
    | cons a l ih => simp [cws, ih]
  have h2 : ∀ (ctx : GCtx) (k : Nat), cws (ctx.take k) ≤ cws ctx := by
    intro ctx
    induction ctx with
    | nil => intro k; simp
    | cons a l ih => intro k; cases k with
      | zero => simp [cws]
      | succ k => simp [cws]; exact ih k
  simp only [gluedTo, List.length_cons, key]
  have := h2 ctx k
  omega
theorem l3Glue_ok (c : Int) (nl : Bool) (ctx : GCtx) (hw : ctx.length ≤ 1000000) (hl : cws ctx ≤ 1000000000) : Gives Tryz.prog n_spec_l3Glue [N c, LC nl ctx] (· = OU true false (c :: (ctx.map (·.2)).flatten)) := by
  obtain ⟨z, hz⟩ : ∃ z, c :: (ctx.map (·.2)).flatten = z := ⟨_, rfl⟩
  rw [hz]
  refine Gives.of_codeOf c_spec_l3Glue mixed (by simp) ⟨_, rfl, by simp⟩ ?_
  simp (disch := omega) [k_spec_l3Glue]
  refine wpC_forM ctx.length 0 (fun i t _ => t 6 = N i ∧ t 5 = OU true false (gluedTo c ctx i)) (fun t _ => t 5 = OU true false z) (by simp [gluedTo]) (by omega) ?_ ?_
  · rintro i t1 hh hf hi ⟨e6, e5⟩
    (have e1 := hf 1 (by kernel_rfl); clear hf; simp [] at e1)
    simp (disch := omega) [e1, e5, e6]
    (with_reducible first | refine onBoolT (fun h1 => ?_) (fun h1 => ?_) | refine onBoolF (fun h1 => ?_) (fun h1 => ?_))
    · simp only [ltB_true, ltB_false, leB_true, leB_false, eqB_true, eqB_false, Bool.not_true, Bool.not_false] at h1
      simp (disch := omega) [e1, e5, e6, idx_C]
      have hm := cws_mem (List.getElem_mem (show i < ctx.length by omega))
      have hg := glued_len c ctx i (by omega)
      rw [app_ints (by omega), ← glued_step c ctx i (by omega)]
      simp (disch := omega) [e1, e5, e6, i64_wrap]
      omega
    · simp only [ltB_true, ltB_false, leB_true, leB_false, eqB_true, eqB_false, Bool.not_true, Bool.not_false] at h1
      simp (disch := omega) [e5]
      rw [show i = ctx.length by omega, ← hz]; simp [gluedTo]
  · rintro t1 hh hf e5
    simp (disch := omega) [e5]
theorem l3Glue1_ok (c : Int) (nl n1 : Bool) (a : List Int) (hl : a.length ≤ 100000) : Gives Tryz.prog n_spec_l3Glue [N c, .sl false nl 1 [[L n1 a]]] (· = OU true false (c :: a)) := by
  have := l3Glue_ok c nl [(n1, a)] (by simp) (by simp [cws]; omega)
  simp only [List.map_cons, List.map_nil, List.flatten_cons, List.flatten_nil, List.append_nil] at this
  exact this
theorem l3Glue2_ok (c : Int) (nl n1 n2 : Bool) (a b : List Int) (ha : a.length ≤ 100000) (hb : b.length ≤ 100000) : Gives Tryz.prog n_spec_l3Glue [N c, .sl false nl 1 [[L n1 a], [L n2 b]]] (· = OU true false (c :: (a ++ b))) := by
  have := l3Glue_ok c nl [(n1, a), (n2, b)] (by simp) (by simp [cws]; omega)
  simp only [List.map_cons, List.map_nil, List.flatten_cons, List.flatten_nil, List.append_nil] at this
  exact this
end Go.Proofs.YtclfngbealdbgaaGreat
namespace Go.Proofs.YtclfngbealdbgaaGreat
open Go Go.TL
open Go.Proofs.YtclfngbealdbgaaGreat.Ty
set_option linter.unusedSimpArgs false
set_option linter.unusedVariables false
set_option maxRecDepth 20000
set_option maxHeartbeats 4000000
theorem l1Copy_ok (nl : Bool) (l : List Int) (hl : l.length ≤ 1099511627776) : Gives Tryz.prog n_spec_l1Copy [L nl l] (· = OU true false l) := by
  refine Gives.of_codeOf c_spec_l1Copy mixed (by simp) ⟨_, rfl, by simp⟩ ?_
  have hm : l.length ≤ most := hl
  simp (disch := omega) [k_spec_l1Copy, chunks, appLV, hm]
theorem l1Same_ok (n1 n2 : Bool) (a b : List Int) (ha : a.length ≤ 1099511627776) : Gives Tryz.prog n_spec_l1Same [L n1 a, L n2 b] (· = B (a == b)) := by
  generalize hq : (a == b) = q
  refine Gives.of_codeOf c_spec_l1Same mixed (by simp) ⟨_, rfl, by simp⟩ ?_
  simp (disch := omega) [k_spec_l1Same]
  (with_reducible first | refine onBoolT (fun h1 => ?_) (fun h1 => ?_) | refine onBoolF (fun h1 => ?_) (fun h1 => ?_))
  · simp (disch := omega) [h1]
    simp only [ltB_true, ltB_false, leB_true, leB_false, eqB_true, eqB_false, Bool.not_true, Bool.not_false] at h1
    refine wpC_for a.length 0 (fun i t _ => t 5 = N i ∧ q = (a.drop i == b.drop i)) (by simp [hq]) (by omega) ?_
    rintro i t1 hh hf hi ⟨e5, hj⟩
    (have e0 := hf 0 (by kernel_rfl); have e1 := hf 1 (by kernel_rfl); clear hf; simp [] at e0 e1)
    simp (disch := omega) [e0, e1, e5]
    (with_reducible first | refine onBoolT (fun h6 => ?_) (fun h6 => ?_) | refine onBoolF (fun h6 => ?_) (fun h6 => ?_))
    · simp only [ltB_true, ltB_false, leB_true, leB_false, eqB_true, eqB_false, Bool.not_true, Bool.not_false] at h6
      have hd1 := List.drop_eq_getElem_cons (l := a) (i := i) (by omega)
      have hd2 := List.drop_eq_getElem_cons (l := b) (i := i) (by omega)
      have hq2 : q = (a[i]'(by omega) == b[i]'(by omega) && (a.drop (i + 1) == b.drop (i + 1))) := by rw [hj, hd1, hd2]; rfl
      clear hd1 hd2 hj
      simp (disch := omega) [e0, e1, e5, idx_L]
      repeat' (first
    | (with_reducible (first | refine onBoolT (fun hb_ => ?_) (fun hb_ => ?_) | refine onBoolF (fun hb_ => ?_) (fun hb_ => ?_)) <;> simp (disch := omega) [hb_, e0, e1, e5, i64_wrap])
    | simp (disch := omega) [e0, e1, e5, i64_wrap])
      all_goals simp only [ltB_true, ltB_false, leB_true, leB_false, eqB_true, eqB_false, Bool.not_true, Bool.not_false] at hb_
      · exact ⟨by omega, by simp [hq2, hb_]⟩
      · simp [hq2, hb_]
    · simp only [ltB_true, ltB_false, leB_true, leB_false, eqB_true, eqB_false, Bool.not_true, Bool.not_false] at h6
      simp (disch := omega)
      rw [hj, List.drop_of_length_le (by omega), List.drop_of_length_le (by omega)]; simp
  · simp (disch := omega) [h1]
    simp only [ltB_true, ltB_false, leB_true, leB_false, eqB_true, eqB_false, Bool.not_true, Bool.not_false] at h1
    rw [← hq]; simp; intro h; exact h1 (by rw [h])
theorem l3Zero_ok (n : Nat) (hn : n ≤ 1099511627776) : Gives Tryz.prog n_spec_l3Zero [N n] (· = OU true false (zeros n)) := by
  refine Gives.of_codeOf c_spec_l3Zero mixed (by simp) ⟨_, rfl, by simp⟩ ?_
  have hm : (n : Int) ≤ (most : Nat) := by unfold most; omega
  simp (disch := omega) [k_spec_l3Zero, hm]
  have e : List.replicate n (N 0) = (zeros n).map N := by simp [zeros]
  have hz : (zeros n).length = n := by simp [zeros]
  have := frz_at1 (h0 := []) (z := (zeros n).map N) (l := zeros n) rfl
  rw [hz] at this
  simp only [List.nil_append, List.length_nil] at this
  first
    | (rw [e, this]; simp)
def zipP (s : GSys) (a : List Int) (g : Int) (b : List Int) : List Int := List.zipWith (fun x y => s.pl x (s.tm g y)) a b
theorem l3Sum_ok {s : GSys} (t : s.Tab) (n1 n2 : Bool) (a : List Int) (g : Int) (hg : s.G g) (b : List Int) (hl : a.length ≤ 1000000) (hab : a.length = b.length) (ha : ∀ u ∈ a, s.G u) (hb : ∀ u ∈ b, s.G u) :
    Gives Tryz.prog n_spec_l3Sum [s.lv, L n1 a, N g, L n2 b] (· = OU true false (zipP s a g b)) := by
  obtain ⟨z, hze⟩ : ∃ z, z = zipP s a g b := ⟨_, rfl⟩
  have hz : z.length = a.length := by rw [hze]; simp [zipP, hab]
  have hget : ∀ (i : Nat) (h : i < a.length), z[i]'(by omega) = s.pl a[i] (s.tm g (b[i]'(by omega))) := by intro i h; simp [hze, zipP]
  rw [← hze]; clear hze
  refine Gives.of_codeOf c_spec_l3Sum mixed (by simp) ⟨_, rfl, by simp⟩ ?_
  simp (disch := omega) [k_spec_l3Sum, boxLV, frzLV, chunks]
  refine wpC_for a.length 0 (fun i t h => t 10 = N i ∧ t 9 = OU true false (z.take i) ∧ h = [none]) (by simp) (by omega) ?_
  rintro i t1 hh hf hi ⟨e10, e9, rfl⟩
  (have e1 := hf 1 (by kernel_rfl); have e2 := hf 2 (by kernel_rfl); have e3 := hf 3 (by kernel_rfl); have e4 := hf 4 (by kernel_rfl); clear hf; simp [] at e1 e2 e3 e4)
  simp (disch := omega) [e1, e2, e3, e4, e9, e10]
  (with_reducible first | refine onBoolT (fun h6 => ?_) (fun h6 => ?_) | refine onBoolF (fun h6 => ?_) (fun h6 => ?_))
  · simp only [ltB_true, ltB_false, leB_true, leB_false, eqB_true, eqB_false, Bool.not_true, Bool.not_false] at h6
    simp (disch := omega) [e1, e2, e3, e4, e9, e10, idx_L]
    refine onCall_eq (l1Mul_ok t hg (hb _ (List.getElem_mem (show i < b.length by omega)))) (by simp) ?_
    simp (disch := omega) [e1, e2, e3, e4, e9, e10, idx_L]
    refine onCall_eq (l1Add_ok t (ha _ (List.getElem_mem (show i < a.length by omega))) (GSys.Gtm t _ _)) (by simp) ?_
    have hst : z.take (i + 1) = z.take i ++ [s.pl a[i] (s.tm g (b[i]'(by omega)))] := by rw [List.take_succ_eq_append_getElem (by omega), hget i (by omega)]
    rw [hst]
    have hlt : (z.take i).length ≤ a.length := by simp; omega
    generalize z.take i = y at *
    have hap : appLV 1 (OU true false y) (.sl true false 1 [[N (s.pl a[i] (s.tm g (b[i]'(by omega))))]]) = some (OU true false (y ++ [s.pl a[i] (s.tm g (b[i]'(by omega)))])) := app_ints (l := y) (r := [_]) (u := true) (nl := false) (by simp; omega)
    simp (disch := omega) [e1, e2, e3, e4, e9, e10, idx_L, i64_wrap, chunks]
    rw [hap]
    simp (disch := omega) [e10, i64_wrap]
    omega
  · simp only [ltB_true, ltB_false, leB_true, leB_false, eqB_true, eqB_false, Bool.not_true, Bool.not_false] at h6
    simp (disch := omega) [e9]
    rw [List.take_of_length_le (by simp; omega)]
    simp
theorem l3Join_ok {s : GSys} (t : s.Tab) (n1 n2 : Bool) (a b : List Int) (hl : a.length ≤ 1000000) (hab : a.length = b.length) (ha : ∀ u ∈ a, s.G u) (hb : ∀ u ∈ b, s.G u) :
    Gives Tryz.prog n_spec_l3Join [s.lv, L n1 a, L n2 b] (· = OU true false (joinP s a b)) := by
  obtain ⟨z, hze⟩ : ∃ z, z = joinP s a b := ⟨_, rfl⟩
  have hz : z.length = a.length := by rw [hze]; simp [joinP, hab]
  have hget : ∀ (i : Nat) (h : i < a.length), z[i]'(by omega) = s.join a[i] (b[i]'(by omega)) := by intro i h; simp [hze, joinP]
  rw [← hze]; clear hze
  refine Gives.of_codeOf c_spec_l3Join mixed (by simp) ⟨_, rfl, by simp⟩ ?_
  simp (disch := omega) [k_spec_l3Join, boxLV, frzLV, chunks]
  refine wpC_for a.length 0 (fun i t h => t 8 = N i ∧ t 7 = OU true false (z.take i) ∧ h = [none]) (by simp) (by omega) ?_
  rintro i t1 hh hf hi ⟨e8, e7, rfl⟩
  (have e1 := hf 1 (by kernel_rfl); have e2 := hf 2 (by kernel_rfl); have e3 := hf 3 (by kernel_rfl); clear hf; simp [] at e1 e2 e3)
  simp (disch := omega) [e1, e2, e3, e7, e8]
  (with_reducible first | refine onBoolT (fun h6 => ?_) (fun h6 => ?_) | refine onBoolF (fun h6 => ?_) (fun h6 => ?_))
  · simp only [ltB_true, ltB_false, leB_true, leB_false, eqB_true, eqB_false, Bool.not_true, Bool.not_false] at h6
    simp (disch := omega) [e1, e2, e3, e7, e8, idx_L]
    refine onCall_eq (l1Join_ok t (ha _ (List.getElem_mem (show i < a.length by omega))) (hb _ (List.getElem_mem (show i < b.length by omega)))) (by simp) ?_
    have hst : z.take (i + 1) = z.take i ++ [s.join a[i] (b[i]'(by omega))] := by rw [List.take_succ_eq_append_getElem (by omega), hget i (by omega)]
    rw [hst]
    have hlt : (z.take i).length ≤ a.length := by simp; omega
    generalize z.take i = y at *
    have hap : appLV 1 (OU true false y) (.sl true false 1 [[N (s.join a[i] (b[i]'(by omega)))]]) = some (OU true false (y ++ [s.join a[i] (b[i]'(by omega))])) := app_ints (l := y) (r := [_]) (u := true) (nl := false) (by simp; omega)
    simp (disch := omega) [e1, e2, e3, e7, e8, idx_L, i64_wrap, chunks]
    rw [hap]
    simp (disch := omega) [e8, i64_wrap]
    omega
  · simp only [ltB_true, ltB_false, leB_true, leB_false, eqB_true, eqB_false, Bool.not_true, Bool.not_false] at h6
    simp (disch := omega) [e7]
    rw [List.take_of_length_le (by simp; omega)]
    simp
theorem l3With_ok (n1 n2 : Bool) (c f : GCtx) (hc : c.length ≤ 1000000) (hf : f.length ≤ 1000000) : Gives Tryz.prog n_spec_l3With [LC n1 c, LC n2 f] (· = .sl true false 1 ((f ++ c).map fun x => [eC x])) := by
  refine Gives.of_codeOf c_spec_l3With mixed (by simp) ⟨_, rfl, by simp⟩ ?_
  have h1 : f.length ≤ most := by unfold most; omega
  have h2 : f.length + c.length ≤ most := by unfold most; omega
  simp (disch := omega) [k_spec_l3With, chunks, appLV, h1, h2]
theorem l2Part_ok {size : Int} {l : List Int} (h : okL size l = true) (k : Int) (hk : kidsN (hd l) = some 1 ∨ kidsN (hd l) = some 2) : Gives Tryz.prog n_spec_l2Part [L false l, N k] (· = OU true false (if k = 0 then part0 l else part1 l)) := by
  have hl := okL_len h
  have hlok := wty_Lok (okL_wty h)
  have he : tEnd l 1 = 1 + (part0 l).length ∧ l = hd l :: (part0 l ++ part1 l) := by
    rcases hk with hk | hk
    · obtain ⟨q1, q2, q3⟩ := okL_one h hk
      obtain ⟨u, g1, g2, _⟩ := okL_iff.1 q3
      refine ⟨?_, by rw [q2, List.append_nil]; exact q1⟩
      unfold tEnd
      rw [if_pos (by omega), show (1 : Int).toNat = 1 from rfl]
      have e : l.drop 1 = u.flat ++ [] := by
        conv => lhs; rw [q1]
        rw [List.drop_one, List.tail_cons, g2, List.append_nil]
      have e2 : l.length = 1 + u.flat.length := by
        conv => lhs; rw [q1]
        rw [g2]; simp; omega
      rw [e, endOf_flat g1, e2, g2]; simp
    · obtain ⟨q1, q2, q3⟩ := okL_two h hk
      obtain ⟨u, g1, g2, _⟩ := okL_iff.1 q2
      refine ⟨?_, q1⟩
      unfold tEnd
      rw [if_pos (by omega), show (1 : Int).toNat = 1 from rfl]
      have e : l.drop 1 = u.flat ++ part1 l := by
        conv => lhs; rw [q1]
        rw [List.drop_one, List.tail_cons, g2]
      have e2 : l.length = 1 + (u.flat.length + (part1 l).length) := by
        conv => lhs; rw [q1]
        rw [g2]; simp; omega
      rw [e, endOf_flat g1, e2, g2]; omega
  have hlen : l.length = 1 + ((part0 l).length + (part1 l).length) := by
    have := congrArg List.length he.2
    simpa [Nat.add_comm] using this
  have c0 : cutLV 1 (L false l) (some 1) (some (1 + ((part0 l).length : Int))) none = some (L false (part0 l)) := by
    simp only [cutLV, Option.getD_none, Option.getD_some, List.length_map]
    rw [if_pos ⟨trivial, by omega, by omega, by omega, by omega⟩, show (1 + ((part0 l).length : Int)).toNat = 1 + (part0 l).length by omega, show (1 : Int).toNat = 1 from rfl, ← List.map_take, ← List.map_drop]
    have e : List.drop 1 (List.take (1 + (part0 l).length) l) = part0 l := by
      have h2 := he.2
      generalize part0 l = p0 at *
      generalize part1 l = p1 at *
      rw [h2, Nat.add_comm, List.take_succ_cons, List.drop_one, List.tail_cons, List.take_left]
    rw [e]; simp only [Option.isSome_none, Bool.false_and, row_share]
  have c1 : cutLV 1 (L false l) (some (1 + ((part0 l).length : Int))) none none = some (L false (part1 l)) := by
    have := cut_drop (n2 := false) (l := l) (k := 1 + (part0 l).length) (by omega)
    rw [show ((1 + (part0 l).length : Nat) : Int) = 1 + ((part0 l).length : Int) by omega] at this
    rw [this]
    have e : List.drop (1 + (part0 l).length) l = part1 l := by
      have h2 := he.2
      generalize part0 l = p0 at *
      generalize part1 l = p1 at *
      rw [h2, Nat.add_comm, List.drop_succ_cons, List.drop_left]
    rw [e]
  have hend := l2End_ok false l hlok 1 (by omega)
  rw [show ((1 : Nat) : Int) = 1 from rfl, he.1] at hend
  refine Gives.of_codeOf c_spec_l2Part mixed (by simp) ⟨_, rfl, by split <;> simp⟩ ?_
  simp (disch := omega) [k_spec_l2Part]
  refine onCall_eq hend (by simp) ?_
  simp (disch := omega)
  by_cases h0 : k = 0
  · subst h0
    have hz : eqB 0 0 = true := by rw [eqB_true]
    simp (disch := omega) [hz, c0]
    refine onCall_eq (l1Copy_ok false (part0 l) (by omega)) (by simp) ?_
    simp (disch := omega)
  · have hz : eqB k 0 = false := by rw [eqB_false]; exact h0
    simp (disch := omega) [hz, c1, h0]
    refine onCall_eq (l1Copy_ok false (part1 l) (by omega)) (by simp) ?_
    simp (disch := omega)
def Res.told : Res → LV → Prop
  | .ok x, r => ∃ u1 u2 u4 n4, r = .agg [OU u1 false x.ty, OU u2 false x.needs, N 0, .sl u4 n4 1 []]
  | .bad f p, r => f ≠ 0 ∧ ∃ u1 u2 u4 n4, r = .agg [.sl u1 true 1 [], .sl u2 true 1 [], N f, OU u4 n4 p]
theorem l3Bad_ok (f : Int) (hf : f ≠ 0) : Gives Tryz.prog n_spec_l3Bad [N f] (Res.bad f []).told := by
  refine Gives.of_codeOf c_spec_l3Bad mixed (by simp) ⟨.agg [.sl false true 1 [], .sl false true 1 [], N f, .sl false true 1 []], ⟨hf, false, false, false, true, by simp⟩, by simp⟩ ?_
  simp (disch := omega) [k_spec_l3Bad]
  exact ⟨hf, true, true, true, true, by simp⟩
def longR (ty nd : List Int) : Res := if ty.length ≤ 40 then .ok (.mk ty nd []) else .bad 3 []
theorem told_ex (x : Res) (h : ∀ f p, x = .bad f p → f ≠ 0) : ∃ r, x.told r ∧ Low 0 r := by
  cases x with
  | ok x => exact ⟨.agg [L false x.ty, L false x.needs, N 0, .sl false true 1 []], ⟨false, false, false, true, rfl⟩, by simp⟩
  | bad f p => exact ⟨.agg [.sl false true 1 [], .sl false true 1 [], N f, L true p], ⟨h f p rfl, false, false, false, true, rfl⟩, by simp⟩
theorem longR_bad {ty nd : List Int} {f : Int} {p : List Int} (h : longR ty nd = .bad f p) : f ≠ 0 := by
  unfold longR at h
  split at h
  · simp at h
  · simp at h; omega
theorem l3Done_ok (ty nd : List Int) : Gives Tryz.prog n_spec_l3Done [L false ty, L false nd] (longR ty nd).told := by
  refine Gives.of_codeOf c_spec_l3Done mixed (by simp) (told_ex _ fun f p h => longR_bad h) ?_
  simp (disch := omega) [k_spec_l3Done]
  by_cases h : ty.length ≤ 40
  · have hb : ltB 40 (ty.length : Int) = false := by rw [ltB_false]; omega
    simp (disch := omega) [hb, longR, h]
    exact ⟨false, false, true, true, by simp⟩
  · have hb : ltB 40 (ty.length : Int) = true := by rw [ltB_true]; omega
    simp (disch := omega) [hb, longR, h]
    refine onCall_gives (Gives.low (l3Bad_ok 3 (by omega))) (by simp) ?_
    rintro r ⟨⟨h3, u1, u2, u4, n4, rfl⟩, lo⟩
    simp (disch := omega)
    exact ⟨h3, u1, u2, u4, n4, by simp⟩
end Go.Proofs.YtclfngbealdbgaaGreat
namespace Go.Proofs.YtclfngbealdbgaaGreat
open Go Go.TL
open Go.Proofs.YtclfngbealdbgaaGreat.Ty
set_option linter.unusedSimpArgs false
set_option linter.unusedVariables false
set_option maxRecDepth 20000
set_option maxHeartbeats 4000000
def ofR (i : Nat) : Res → Res
  | .ok x => .ok x
  | .bad f p => .bad f ((i : Int) :: p)
def Res.fine : Res → Prop
  | .ok _ => True
  | .bad f p => f ≠ 0 ∧ p.length ≤ 1000000
theorem ofR_fine {i : Nat} {x : Res} (h : x.fine) : ∀ f p, ofR i x = .bad f p → f ≠ 0 := by
  intro f p e
  cases x with
  | ok x => simp [ofR] at e
  | bad f0 p0 => simp [ofR] at e; rw [← e.1]; exact h.1
theorem l3Of_ok (s : GSys) (op n : Int) (nl1 : Bool) (gty : List Int) (nl2 : Bool) (ks : List GTerm) (i : Nat) (hi : i < ks.length) (nlc : Bool) (ctx : GCtx) (R : Res) (hR : R.fine)
    (hk : Gives Tryz.prog n_spec_l3Tell [s.lv, LC nlc ctx, (ks[i]).lv] R.told) : Gives Tryz.prog n_spec_l3Of [s.lv, LC nlc ctx, (GTerm.mk op n nl1 gty nl2 ks).lv, N i] (ofR i R).told := by
  refine Gives.of_codeOf c_spec_l3Of mixed (by simp) (told_ex _ (ofR_fine hR)) ?_
  have hix := idx_T ks false nl2 i hi
  simp (disch := omega) [k_spec_l3Of, boxLV, frzLV, GTerm.cells, hix]
  refine onCall_gives (Gives.low hk) (by simp) ?_
  rintro r ⟨hr, lo⟩
  cases R with
  | ok x =>
    obtain ⟨u1, u2, u4, n4, rfl⟩ := hr
    have hz : eqB 0 0 = true := by rw [eqB_true]
    simp (disch := omega) [hz]
    exact ⟨u1, u2, u4, n4, by simp⟩
  | bad f p =>
    obtain ⟨hf, u1, u2, u4, n4, rfl⟩ := hr
    have hf0 : eqB f 0 = false := by rw [eqB_false]; exact hf
    have hpm : 1 + p.length ≤ most := by have := hR.2; unfold most; omega
    simp (disch := omega) [hf0, chunks, appLV, hpm]
    exact ⟨hf, u1, u2, true, false, by simp⟩
theorem sh_eq {size : Int} {l : List Int} (h : okL size l = true) : ((shapeOf (hd l)).1 = 0 ↔ hd l = 0) ∧ ((shapeOf (hd l)).1 = 1 ↔ hd l = 1) ∧ ((shapeOf (hd l)).1 = 2 ↔ hd l = 2) ∧ ((shapeOf (hd l)).1 = 3 ↔ isArrow (hd l) = true) ∧ ((shapeOf (hd l)).1 = 4 ↔ isBox (hd l) = true) := by
  have h1 := okL_hd h
  obtain ⟨a, b, c, d, e, _⟩ := shape_iff h1.2.1 h1.2.2.1
  exact ⟨a, b, c, d, e⟩
theorem sh00 : (shapeOf 0).1 = 0 := by decide
theorem fo2 {s : GSys} {n : Int} {i : Nat} : firstOkP s 2 n i 0 = 0 := by simp [firstOkP, wantP, sh00]
theorem fo3 {s : GSys} {n : Int} : firstOkP s 3 n 0 0 = 0 := by simp [firstOkP, wantP, sh00]
theorem fo_add {s : GSys} {n : Int} {i : Nat} {l : List Int} (h : okL s.size l = true) : firstOkP s 2 n i (hd l) = if hd l = 0 then 0 else 2 := by
  obtain ⟨a, b, c, d, e⟩ := sh_eq h
  by_cases q : hd l = 0
  · simp [firstOkP, wantP, q, sh00]
  · have : ¬ (shapeOf (hd l)).1 = 0 := fun h => q (a.1 h)
    simp [firstOkP, wantP, q, this]
theorem fo_if0 {s : GSys} {n : Int} {l : List Int} (h : okL s.size l = true) : firstOkP s 3 n 0 (hd l) = if hd l = 0 then 0 else 2 := by
  obtain ⟨a, b, c, d, e⟩ := sh_eq h
  by_cases q : hd l = 0
  · simp [firstOkP, wantP, q, sh00]
  · have : ¬ (shapeOf (hd l)).1 = 0 := fun h => q (a.1 h)
    simp [firstOkP, wantP, q, this]
theorem fo_no {s : GSys} {op n : Int} {i : Nat} {c : Int} (h : i ≠ 0) (h2 : op ≠ 2) : firstOkP s op n i c = 0 := by
  simp [firstOkP, wantP, h, h2]
theorem tell_add {s : GSys} {cx : List (List Int)} {n : Int} {nl1 nl2 : Bool} {gty : List Int} {a b : GTerm} {x : TT} (hA : tellG s cx a = .ok x) (hx : okL s.size x.ty = true) (h0 : hd x.ty = 0) (hb : ∀ y, tellG s cx b = .ok y → okL s.size y.ty = true) :
    tellG s cx (.mk 2 n nl1 gty nl2 [a, b]) = match tellG s cx b with
      | .bad f p => .bad f (1 :: p)
      | .ok y => if hd y.ty = 0 then .ok (.mk [0] (sumP s x.needs y.needs) [x, y]) else .bad 2 [] := by
  cases hB : tellG s cx b with
  | bad f p => simp [tellG, tellK, addedP, addsI, hA, hB, fo2, h0]
  | ok y =>
    have := hb y hB
    by_cases q : hd y.ty = 0
    · simp [tellG, tellK, addedP, addsI, hA, hB, fo2, h0, q, finP, ndP]
    · simp [tellG, tellK, addedP, addsI, hA, hB, fo2, fo_add this, h0, q]
theorem tell_if {s : GSys} {cx : List (List Int)} {n : Int} {nl1 nl2 : Bool} {gty : List Int} {a b c : GTerm} {x : TT} (hA : tellG s cx a = .ok x) (hx : okL s.size x.ty = true) (h0 : hd x.ty = 0) :
    tellG s cx (.mk 3 n nl1 gty nl2 [a, b, c]) = match tellG s cx b with
      | .bad f p => .bad f (1 :: p)
      | .ok y => match tellG s cx c with
        | .bad f p => .bad f (2 :: p)
        | .ok z => if y.ty = z.ty then .ok (.mk y.ty (sumP s x.needs (joinP s y.needs z.needs)) [x, y, z]) else .bad 3 [] := by
  cases hB : tellG s cx b with
  | bad f p => simp [tellG, tellK, addedP, addsI, hA, hB, fo3, h0]
  | ok y =>
    cases hC : tellG s cx c with
    | bad f p => simp [tellG, tellK, addedP, addsI, hA, hB, hC, fo3, h0, fo_no]
    | ok z =>
      by_cases q : y.ty = z.ty
      · simp [tellG, tellK, addedP, addsI, hA, hB, hC, fo3, h0, fo_no, finP, tyP, ndP, q]
      · simp [tellG, tellK, addedP, addsI, hA, hB, hC, fo3, h0, fo_no, finP, tyP, ndP, q]
end Go.Proofs.YtclfngbealdbgaaGreat
namespace Go.Proofs.YtclfngbealdbgaaGreat
open Go Go.TL
open Go.Proofs.YtclfngbealdbgaaGreat.Ty
set_option linter.unusedSimpArgs false
set_option linter.unusedVariables false
set_option maxRecDepth 20000
set_option maxHeartbeats 4000000
def longT (ty nd : List Int) (ks : List TT) : Res := if ty.length ≤ 40 then .ok (.mk ty nd ks) else .bad 3 []
section
variable {s : GSys} {cx : List (List Int)} {n : Int} {nl1 nl2 : Bool} {gty : List Int} {a b c : GTerm} {x : TT}
theorem tell_bad0 {op : Int} {ks : List GTerm} {f : Int} {p : List Int} (h : tellG s (addedP op gty 0 [] ++ cx) a = .bad f p) : tellG s cx (.mk op n nl1 gty nl2 (a :: ks)) = .bad f (0 :: p) := by
  have h' : tellG s (addedP op gty 0 (first []) ++ cx) a = .bad f p := h
  simp [tellG, tellK, h']
theorem tell_var : tellG s cx (.mk 0 n nl1 gty nl2 []) = .ok (.mk (cx.getD n.toNat []) ((zeros cx.length).set n.toNat 1) []) := by simp [tellG, tellK, finP]
theorem tell_num : tellG s cx (.mk 1 n nl1 gty nl2 []) = .ok (.mk [0] (zeros cx.length) []) := by simp [tellG, tellK, finP]
theorem fo_any {op n : Int} {i : Nat} {c : Int} (h : op = 4 ∨ op = 6 ∨ op = 7 ∨ op = 9 ∨ op = 11) : firstOkP s op n i c = 0 := by
  rcases h with rfl | rfl | rfl | rfl | rfl <;> simp [firstOkP, wantP]
theorem fo_sh {op n : Int} {w f : Int} {l : List Int} (hw : wantP op 0 = (w, f)) (hw0 : 0 ≤ w) (ho : op = 5 ∨ op = 8 ∨ op = 12) {q : Prop} [Decidable q] (hq : (shapeOf (hd l)).1 = w ↔ q) : firstOkP s op n 0 (hd l) = if q then (if s.le 1 n = true then 0 else 8) else f := by
  unfold firstOkP
  rw [hw]
  by_cases h : q
  · rw [if_neg (by simp [hq.2 h]), if_pos h]
    cases g : s.le 1 n <;> simp [ho]
  · have : (shapeOf (hd l)).1 ≠ w := fun e => h (hq.1 e)
    rw [if_pos ⟨hw0, this⟩, if_neg h]
theorem tell_pair (hA : tellG s cx a = .ok x) : tellG s cx (.mk 4 n nl1 gty nl2 [a, b]) = match tellG s cx b with
    | .bad f p => .bad f (1 :: p)
    | .ok y => longT (1 :: (x.ty ++ y.ty)) (sumP s x.needs y.needs) [x, y] := by
  cases hB : tellG s cx b with
  | bad f p => simp [tellG, tellK, addedP, addsI, hA, hB, fo_any]
  | ok y =>
    by_cases q : (1 :: (x.ty ++ y.ty)).length ≤ 40
    · simp [tellG, tellK, addedP, addsI, hA, hB, fo_any, finP, ndP, tyP, longP, longT, q]
      simp at q
      simp [q]
    · simp [tellG, tellK, addedP, addsI, hA, hB, fo_any, finP, ndP, tyP, longP, longT, q]
      simp at q
      simp [Nat.not_le.2 q]
theorem tell_left (hA : tellG s cx a = .ok x) : tellG s cx (.mk 6 n nl1 gty nl2 [a]) = longT (2 :: (x.ty ++ gty)) x.needs [x] := by
  by_cases q : (2 :: (x.ty ++ gty)).length ≤ 40
  · simp [tellG, tellK, addedP, addsI, hA, fo_any, finP, ndP, tyP, longP, longT, q]
    simp at q
    simp [q]
  · simp [tellG, tellK, addedP, addsI, hA, fo_any, finP, ndP, tyP, longP, longT, q]
    simp at q
    simp [Nat.not_le.2 q]
theorem tell_right (hA : tellG s cx a = .ok x) : tellG s cx (.mk 7 n nl1 gty nl2 [a]) = longT (2 :: (gty ++ x.ty)) x.needs [x] := by
  by_cases q : (2 :: (gty ++ x.ty)).length ≤ 40
  · simp [tellG, tellK, addedP, addsI, hA, fo_any, finP, ndP, tyP, longP, longT, q]
    simp at q
    simp [q]
  · simp [tellG, tellK, addedP, addsI, hA, fo_any, finP, ndP, tyP, longP, longT, q]
    simp at q
    simp [Nat.not_le.2 q]
theorem tell_fun (hA : tellG s (gty :: cx) a = .ok x) : tellG s cx (.mk 9 n nl1 gty nl2 [a]) = if usedOkP s (x.needs.take 1) n = true then longT ((3 + n) :: (gty ++ x.ty)) (x.needs.drop 1) [x] else .bad 9 [] := by
  by_cases u : usedOkP s (x.needs.take 1) n = true
  · rw [if_pos u]
    by_cases q : ((3 + n) :: (gty ++ x.ty)).length ≤ 40
    · simp [tellG, tellK, addedP, addsI, hA, fo_any, finP, ndP, tyP, usP, u, longP, longT, q]
      simp at q
      simp [q]
    · simp [tellG, tellK, addedP, addsI, hA, fo_any, finP, ndP, tyP, usP, u, longP, longT, q]
      simp at q
      simp [Nat.not_le.2 q]
  · rw [if_neg u]
    simp [tellG, tellK, addedP, addsI, hA, fo_any, finP, ndP, tyP, usP, u]
theorem tell_box (hA : tellG s cx a = .ok x) : tellG s cx (.mk 11 n nl1 gty nl2 [a]) = longT ((19 + n) :: x.ty) (scaledP s n x.needs) [x] := by
  by_cases q : ((19 + n) :: x.ty).length ≤ 40
  · simp [tellG, tellK, addedP, addsI, hA, fo_any, finP, ndP, tyP, longP, longT, q]
    simp at q
    simp [q]
  · simp [tellG, tellK, addedP, addsI, hA, fo_any, finP, ndP, tyP, longP, longT, q]
    simp at q
    simp [Nat.not_le.2 q]
theorem tell_app (hA : tellG s cx a = .ok x) (hx : okL s.size x.ty = true) : tellG s cx (.mk 10 n nl1 gty nl2 [a, b]) = if isArrow (hd x.ty) = true then (match tellG s cx b with
    | .bad f p => .bad f (1 :: p)
    | .ok y => if y.ty = part0 x.ty then .ok (.mk (part1 x.ty) (sumP s x.needs (scaledP s (shapeOf (hd x.ty)).2 y.needs)) [x, y]) else .bad 3 []) else .bad 6 [] := by
  have fo : firstOkP s 10 n 0 (hd x.ty) = if isArrow (hd x.ty) = true then 0 else 6 := by
    obtain ⟨_, _, _, d, _⟩ := sh_eq hx
    by_cases q : isArrow (hd x.ty) = true
    · simp [firstOkP, wantP, q, d.2 q]
    · have : ¬ (shapeOf (hd x.ty)).1 = 3 := fun h => q (d.1 h)
      simp [firstOkP, wantP, q, this]
  by_cases q : isArrow (hd x.ty) = true
  · rw [if_pos q]
    rw [if_pos q] at fo
    cases hB : tellG s cx b with
    | bad f p => simp [tellG, tellK, addedP, addsI, hA, hB, fo]
    | ok y =>
      by_cases e : y.ty = part0 x.ty
      · simp [tellG, tellK, addedP, addsI, hA, hB, fo, fo_no, first, tyP, e, finP, ndP]
      · simp [tellG, tellK, addedP, addsI, hA, hB, fo, fo_no, first, tyP, e]
  · rw [if_neg q]
    rw [if_neg q] at fo
    simp [tellG, tellK, addedP, addsI, hA, fo]
theorem tell_split (hA : tellG s cx a = .ok x) (hx : okL s.size x.ty = true) : tellG s cx (.mk 5 n nl1 gty nl2 [a, b]) = if hd x.ty = 1 then (if s.le 1 n = true then (match tellG s (part1 x.ty :: part0 x.ty :: cx) b with
    | .bad f p => .bad f (1 :: p)
    | .ok y => if usedOkP s (y.needs.take 2) n = true then .ok (.mk y.ty (sumP s (scaledP s n x.needs) (y.needs.drop 2)) [x, y]) else .bad 9 []) else .bad 8 []) else .bad 4 [] := by
  have fo := fo_sh (s := s) (op := 5) (n := n) (w := 1) (f := 4) (l := x.ty) rfl (by omega) (by simp) (sh_eq hx).2.1
  by_cases q : hd x.ty = 1
  · rw [if_pos q] at fo ⊢
    by_cases l : s.le 1 n = true
    · rw [if_pos l] at fo ⊢
      cases hB : tellG s (part1 x.ty :: part0 x.ty :: cx) b with
      | bad f p => simp [tellG, tellK, addedP, addsI, hA, hB, fo, first, tyP]
      | ok y =>
        by_cases u : usedOkP s (y.needs.take 2) n = true
        · simp [tellG, tellK, addedP, addsI, hA, hB, fo, fo_no, first, tyP, finP, ndP, usP, u]
        · simp [tellG, tellK, addedP, addsI, hA, hB, fo, fo_no, first, tyP, finP, ndP, usP, u]
    · rw [if_neg l] at fo ⊢
      simp [tellG, tellK, addedP, addsI, hA, fo]
  · rw [if_neg q] at fo ⊢
    simp [tellG, tellK, addedP, addsI, hA, fo]
theorem tell_open (hA : tellG s cx a = .ok x) (hx : okL s.size x.ty = true) : tellG s cx (.mk 12 n nl1 gty nl2 [a, b]) = if isBox (hd x.ty) = true then (if s.le 1 n = true then (match tellG s (part0 x.ty :: cx) b with
    | .bad f p => .bad f (1 :: p)
    | .ok y => if usedOkP s (y.needs.take 1) (s.tm n (shapeOf (hd x.ty)).2) = true then .ok (.mk y.ty (sumP s (scaledP s n x.needs) (y.needs.drop 1)) [x, y]) else .bad 9 []) else .bad 8 []) else .bad 7 [] := by
  have fo := fo_sh (s := s) (op := 12) (n := n) (w := 4) (f := 7) (l := x.ty) rfl (by omega) (by simp) (sh_eq hx).2.2.2.2
  by_cases q : isBox (hd x.ty) = true
  · rw [if_pos q] at fo ⊢
    by_cases l : s.le 1 n = true
    · rw [if_pos l] at fo ⊢
      cases hB : tellG s (part0 x.ty :: cx) b with
      | bad f p => simp [tellG, tellK, addedP, addsI, hA, hB, fo, first, tyP]
      | ok y =>
        by_cases u : usedOkP s (y.needs.take 1) (s.tm n (shapeOf (hd x.ty)).2) = true
        · simp [tellG, tellK, addedP, addsI, hA, hB, fo, fo_no, first, tyP, finP, ndP, usP, u]
        · simp [tellG, tellK, addedP, addsI, hA, hB, fo, fo_no, first, tyP, finP, ndP, usP, u]
    · rw [if_neg l] at fo ⊢
      simp [tellG, tellK, addedP, addsI, hA, fo]
  · rw [if_neg q] at fo ⊢
    simp [tellG, tellK, addedP, addsI, hA, fo]
theorem tell_case (hA : tellG s cx a = .ok x) (hx : okL s.size x.ty = true) : tellG s cx (.mk 8 n nl1 gty nl2 [a, b, c]) = if hd x.ty = 2 then (if s.le 1 n = true then (match tellG s (part0 x.ty :: cx) b with
    | .bad f p => .bad f (1 :: p)
    | .ok y => match tellG s (part1 x.ty :: cx) c with
      | .bad f p => .bad f (2 :: p)
      | .ok z => if y.ty = z.ty then (if usedOkP s (y.needs.take 1) n = true ∧ usedOkP s (z.needs.take 1) n = true then .ok (.mk y.ty (sumP s (scaledP s n x.needs) (joinP s (y.needs.drop 1) (z.needs.drop 1))) [x, y, z]) else .bad 9 []) else .bad 3 []) else .bad 8 []) else .bad 5 [] := by
  have fo := fo_sh (s := s) (op := 8) (n := n) (w := 2) (f := 5) (l := x.ty) rfl (by omega) (by simp) (sh_eq hx).2.2.1
  by_cases q : hd x.ty = 2
  · rw [if_pos q] at fo ⊢
    by_cases l : s.le 1 n = true
    · rw [if_pos l] at fo ⊢
      cases hB : tellG s (part0 x.ty :: cx) b with
      | bad f p => simp [tellG, tellK, addedP, addsI, hA, hB, fo, first, tyP]
      | ok y =>
        cases hC : tellG s (part1 x.ty :: cx) c with
        | bad f p => simp [tellG, tellK, addedP, addsI, hA, hB, hC, fo, fo_no, first, tyP]
        | ok z =>
          by_cases e : y.ty = z.ty
          · by_cases u : usedOkP s (y.needs.take 1) n = true ∧ usedOkP s (z.needs.take 1) n = true
            · simp [tellG, tellK, addedP, addsI, hA, hB, hC, fo, fo_no, first, tyP, finP, ndP, usP, u, e]
            · simp [tellG, tellK, addedP, addsI, hA, hB, hC, fo, fo_no, first, tyP, finP, ndP, usP, u, e]
          · simp [tellG, tellK, addedP, addsI, hA, hB, hC, fo, fo_no, first, tyP, finP, ndP, usP, e]
    · rw [if_neg l] at fo ⊢
      simp [tellG, tellK, addedP, addsI, hA, fo]
  · rw [if_neg q] at fo ⊢
    simp [tellG, tellK, addedP, addsI, hA, fo]
end
end Go.Proofs.YtclfngbealdbgaaGreat
namespace Go.Proofs.YtclfngbealdbgaaGreat
open Go Go.TL
open Go.Proofs.YtclfngbealdbgaaGreat.Ty
set_option linter.unusedSimpArgs false
set_option linter.unusedVariables false
set_option maxRecDepth 20000
set_option maxHeartbeats 4000000
theorem one_of {s : GSys} (hs : s.sys = true) {a : Int} (ha : s.G a) : s.pl 0 a = a ∧ s.tm 1 a = a := by
  unfold GSys.sys at hs
  rw [Bool.and_eq_true, allN_iff] at hs
  have h := hs.2 a.toNat (by have := ha.1; have := ha.2; omega)
  unfold GSys.sysB at h
  rw [Bool.and_eq_true] at h
  have h := h.1
  unfold GSys.one at h
  simp only [Bool.and_eq_true, eqB_true] at h
  have e1 : ((a.toNat : Nat) : Int) = a := by have := ha.1; omega
  rw [e1] at h
  exact ⟨h.1.1.1.1.1, h.1.1.1.1.2⟩
theorem zip_one {s : GSys} (hs : s.sys = true) : ∀ (a b : List Int), (∀ u ∈ b, s.G u) → zipP s a 1 b = sumP s a b
  | [], b, _ => by simp [zipP, sumP]
  | x :: a, [], _ => by simp [zipP, sumP]
  | x :: a, y :: b, h => by
    have := zip_one hs a b fun u hu => h u (by simp [hu])
    simp only [zipP, sumP, List.zipWith_cons_cons] at this ⊢
    rw [this, (one_of hs (h y (by simp))).2]
theorem zip_zero {s : GSys} (hs : s.sys = true) (g : Int) : ∀ (a : List Int), zipP s (zeros a.length) g a = scaledP s g a
  | [] => by simp [zipP, scaledP]
  | x :: a => by
    have := zip_zero hs g a
    simp only [zipP, scaledP, zeros, List.length_cons, List.replicate_succ, List.zipWith_cons_cons, List.map_cons] at this ⊢
    rw [this, (one_of hs (GSys.Gtm (GSys.sys_of hs) g x)).1]
theorem tellG_fine {s : GSys} {cx : List (List Int)} {g : GTerm} (h : g.size ≤ 1000000) : (tellG s cx g).fine := by
  cases e : tellG s cx g with
  | ok x => exact trivial
  | bad f p => exact ⟨tellG_bad g cx f p e, by have := tellG_path g cx f p e; omega⟩
abbrev aLV (x : TT) (n4 : Bool) : LV := .agg [L false x.ty, L false x.needs, N 0, .sl false n4 1 []]
section
variable {s : GSys} (hsy : s.sys = true) (nlc : Bool) (ctx : GCtx) (hcl : ctx.length ≤ 100000)
include hsy hcl
theorem l3Numbers_add (n : Int) (nl1 : Bool) (gty : List Int) (nl2 : Bool) (a b : GTerm) (x : TT) (n4 : Bool) (hxg : x.good s ctx.length) (hA : tellG s (ctx.map Prod.snd) a = .ok x) (h0 : hd x.ty = 0) (hbs : b.size ≤ 1000000)
    (hb : Gives Tryz.prog n_spec_l3Tell [s.lv, LC nlc ctx, b.lv] (tellG s (ctx.map Prod.snd) b).told) (hbg : ∀ y, tellG s (ctx.map Prod.snd) b = .ok y → y.good s ctx.length) :
    Gives Tryz.prog n_spec_l3Numbers [s.lv, LC nlc ctx, (GTerm.mk 2 n nl1 gty nl2 [a, b]).lv, aLV x n4] (tellG s (ctx.map Prod.snd) (GTerm.mk 2 n nl1 gty nl2 [a, b])).told := by
  have t := GSys.sys_of hsy
  have T := tell_add (n := n) (nl1 := nl1) (nl2 := nl2) (gty := gty) hA hxg.1 h0 (fun y h => (hbg y h).1)
  refine Gives.of_codeOf c_spec_l3Numbers mixed (by simp) (told_ex _ fun f p h => tellG_bad _ _ f p h) ?_
  have of := l3Of_ok s 2 n nl1 gty nl2 [a, b] 1 (by simp) nlc ctx _ (tellG_fine hbs) hb
  simp only [GTerm.lv, GTerm.cells] at of
  simp (disch := omega) [k_spec_l3Numbers, boxLV, frzLV, GTerm.cells]
  refine onCall_gives (Gives.low of) (by simp) ?_
  rintro r ⟨hr, lo⟩
  rw [T]
  cases hB : tellG s (ctx.map Prod.snd) b with
  | bad f p =>
    rw [hB] at hr
    simp only [ofR] at hr
    obtain ⟨hf, u1, u2, u4, n4', rfl⟩ := hr
    have hf0 : eqB f 0 = false := by rw [eqB_false]; exact hf
    simp (disch := omega) [boxLV, frzLV, hf0]
    exact ⟨hf, false, false, false, n4', by simp⟩
  | ok y =>
    have hyg := hbg y hB
    rw [hB] at hr
    simp only [ofR] at hr
    obtain ⟨u1, u2, u4, n4', rfl⟩ := hr
    have hz : eqB 0 0 = true := by rw [eqB_true]
    have hy := okL_hd hyg.1
    have hyi : idxLV 1 (L false y.ty) 0 = some (.rp [N (hd y.ty)]) := hd_idx hy.2.2.2.1
    by_cases q : hd y.ty = 0
    · have hn := okL_none hyg.1 (by rw [q]; decide)
      rw [q] at hn
      have hq0 : eqB (hd y.ty) 0 = true := by rw [eqB_true]; exact q
      simp (disch := omega) [boxLV, frzLV, hz, hyi, hq0]
      refine onCall_eq (l3Sum_ok t false false x.needs 1 (GSys.G1 t) y.needs (by rw [hxg.2.1]; omega) (by rw [hxg.2.1, hyg.2.1]) hxg.2.2 hyg.2.2) (by simp) ?_
      rw [zip_one hsy _ _ hyg.2.2]
      simp (disch := omega) [q, hn]
      exact ⟨false, true, true, true, by simp⟩
    · have hq0 : eqB (hd y.ty) 0 = false := by rw [eqB_false]; exact q
      simp (disch := omega) [boxLV, frzLV, hz, hyi, hq0]
      refine onCall_gives (Gives.low (l3Bad_ok 2 (by omega))) (by simp) ?_
      rintro r ⟨⟨h3, v1, v2, v4, m4, rfl⟩, lo⟩
      simp (disch := omega) [q]
      exact ⟨by omega, v1, v2, v4, m4, by simp⟩
theorem l3Numbers_if (n : Int) (nl1 : Bool) (gty : List Int) (nl2 : Bool) (a b c : GTerm) (x : TT) (n4 : Bool) (hxg : x.good s ctx.length) (hA : tellG s (ctx.map Prod.snd) a = .ok x) (h0 : hd x.ty = 0) (hbs : b.size ≤ 1000000) (hcs : c.size ≤ 1000000)
    (hb : Gives Tryz.prog n_spec_l3Tell [s.lv, LC nlc ctx, b.lv] (tellG s (ctx.map Prod.snd) b).told) (hbg : ∀ y, tellG s (ctx.map Prod.snd) b = .ok y → y.good s ctx.length)
    (hc : Gives Tryz.prog n_spec_l3Tell [s.lv, LC nlc ctx, c.lv] (tellG s (ctx.map Prod.snd) c).told) (hcg : ∀ y, tellG s (ctx.map Prod.snd) c = .ok y → y.good s ctx.length) :
    Gives Tryz.prog n_spec_l3Numbers [s.lv, LC nlc ctx, (GTerm.mk 3 n nl1 gty nl2 [a, b, c]).lv, aLV x n4] (tellG s (ctx.map Prod.snd) (GTerm.mk 3 n nl1 gty nl2 [a, b, c])).told := by
  have t := GSys.sys_of hsy
  have T := tell_if (n := n) (nl1 := nl1) (nl2 := nl2) (gty := gty) (b := b) (c := c) hA hxg.1 h0
  refine Gives.of_codeOf c_spec_l3Numbers mixed (by simp) (told_ex _ fun f p h => tellG_bad _ _ f p h) ?_
  have of := l3Of_ok s 3 n nl1 gty nl2 [a, b, c] 1 (by simp) nlc ctx _ (tellG_fine hbs) hb
  have of2 := l3Of_ok s 3 n nl1 gty nl2 [a, b, c] 2 (by simp) nlc ctx _ (tellG_fine hcs) hc
  simp only [GTerm.lv, GTerm.cells] at of of2
  have hz : eqB 0 0 = true := by rw [eqB_true]
  have e32 : eqB 3 2 = false := by rw [eqB_false]; omega
  simp (disch := omega) [k_spec_l3Numbers, boxLV, frzLV, GTerm.cells]
  refine onCall_gives (Gives.low of) (by simp) ?_
  rintro r ⟨hr, lo⟩
  rw [T]
  cases hB : tellG s (ctx.map Prod.snd) b with
  | bad f p =>
    rw [hB] at hr
    simp only [ofR] at hr
    obtain ⟨hf, u1, u2, u4, n4', rfl⟩ := hr
    have hf0 : eqB f 0 = false := by rw [eqB_false]; exact hf
    simp (disch := omega) [boxLV, frzLV, hf0]
    exact ⟨hf, false, false, false, n4', by simp⟩
  | ok y =>
    have hyg := hbg y hB
    rw [hB] at hr
    simp only [ofR] at hr
    obtain ⟨u1, u2, u4, n4', rfl⟩ := hr
    simp (disch := omega) [boxLV, frzLV, hz, e32]
    refine onCall_gives (Gives.low of2) (by simp) ?_
    rintro r ⟨hr, lo⟩
    cases hC : tellG s (ctx.map Prod.snd) c with
    | bad f p =>
      rw [hC] at hr
      simp only [ofR] at hr
      obtain ⟨hf, v1, v2, v4, m4', rfl⟩ := hr
      have hf0 : eqB f 0 = false := by rw [eqB_false]; exact hf
      simp (disch := omega) [boxLV, frzLV, hf0]
      exact ⟨hf, false, false, false, m4', by simp⟩
    | ok z =>
      have hzg := hcg z hC
      rw [hC] at hr
      simp only [ofR] at hr
      obtain ⟨v1, v2, v4, m4', rfl⟩ := hr
      simp (disch := omega) [boxLV, frzLV, hz]
      have ly := okL_len hyg.1
      have sm := l1Same_ok false false y.ty z.ty (by omega)
      refine onCall_eq sm (by simp) ?_
      cases he : (y.ty == z.ty)
      · have he' : y.ty ≠ z.ty := by simpa using he
        simp (disch := omega)
        refine onCall_gives (Gives.low (l3Bad_ok 3 (by omega))) (by simp) ?_
        rintro r ⟨⟨h3, w1, w2, w4, k4, rfl⟩, lo⟩
        simp (disch := omega) [he']
        exact ⟨by omega, w1, w2, w4, k4, by simp⟩
      · have he' : y.ty = z.ty := by simpa using he
        simp (disch := omega)
        have jn := l3Join_ok t false false y.needs z.needs (by rw [hyg.2.1]; omega) (by rw [hyg.2.1, hzg.2.1]) hyg.2.2 hzg.2.2
        refine onCall_eq jn (by simp) ?_
        have jl := zip_len (s := s) hyg.2.1 hzg.2.1
        have jg : ∀ u ∈ joinP s y.needs z.needs, s.G u := fun u hu => join_G hsy u hu hyg.2.2 hzg.2.2
        simp (disch := omega)
        have sm := l3Sum_ok t false false x.needs 1 (GSys.G1 t) (joinP s y.needs z.needs) (by rw [hxg.2.1]; omega) (by rw [hxg.2.1, jl]) hxg.2.2 jg
        refine onCall_eq sm (by simp) ?_
        rw [zip_one hsy _ _ jg]
        simp (disch := omega) [he']
        exact ⟨false, true, true, true, by simp [he']⟩
end
end Go.Proofs.YtclfngbealdbgaaGreat
namespace Go.Proofs.YtclfngbealdbgaaGreat
open Go Go.TL
open Go.Proofs.YtclfngbealdbgaaGreat.Ty
set_option linter.unusedSimpArgs false
set_option linter.unusedVariables false
set_option maxRecDepth 20000
set_option maxHeartbeats 4000000
theorem used1 {s : GSys} {l : List Int} {g : Int} (h : 1 ≤ l.length) : usedOkP s (l.take 1) g = s.le (l.getD 0 0) g := by
  cases l with
  | nil => simp at h
  | cons a l => simp [usedOkP]
theorem used2 {s : GSys} {l : List Int} {g : Int} (h : 2 ≤ l.length) : usedOkP s (l.take 2) g = (s.le (l.getD 0 0) g && s.le (l.getD 1 0) g) := by
  match l, h with
  | [], h => simp at h
  | [_], h => simp at h
  | a :: b :: l, _ => simp [usedOkP]
theorem getD_G {s : GSys} {l : List Int} {i : Nat} (h : ∀ u ∈ l, s.G u) (hi : i < l.length) : s.G (l.getD i 0) := by
  rw [List.getD_eq_getElem?_getD, List.getElem?_eq_getElem hi]; exact h _ (List.getElem_mem _)
theorem idx_n {l : List Int} {i : Nat} (hi : i < l.length) : idxLV 1 (L false l) (i : Int) = some (.rp [N (l.getD i 0)]) := by
  have := idx_L l false false i (by omega) (by omega)
  simpa using this
section
variable {s : GSys} (hsy : s.sys = true) (nlc : Bool) (ctx : GCtx) (hcl : ctx.length ≤ 100000)
include hsy hcl
theorem l3Taken_split (n : Int) (nl1 : Bool) (gty : List Int) (nl2 : Bool) (a b : GTerm) (x : TT) (n4 : Bool) (hn : s.G n) (hxg : x.good s ctx.length) (hA : tellG s (ctx.map Prod.snd) a = .ok x) (hbs : b.size ≤ 1000000)
    (hb : hd x.ty = 1 → Gives Tryz.prog n_spec_l3Tell [s.lv, LC false ((false, part1 x.ty) :: (false, part0 x.ty) :: ctx), b.lv] (tellG s (part1 x.ty :: part0 x.ty :: ctx.map Prod.snd) b).told)
    (hbg : hd x.ty = 1 → ∀ y, tellG s (part1 x.ty :: part0 x.ty :: ctx.map Prod.snd) b = .ok y → y.good s (ctx.length + 2)) :
    Gives Tryz.prog n_spec_l3Taken [s.lv, LC nlc ctx, (GTerm.mk 5 n nl1 gty nl2 [a, b]).lv, aLV x n4] (tellG s (ctx.map Prod.snd) (GTerm.mk 5 n nl1 gty nl2 [a, b])).told := by
  have t := GSys.sys_of hsy
  have T := tell_split (n := n) (nl1 := nl1) (nl2 := nl2) (gty := gty) (b := b) hA hxg.1
  refine Gives.of_codeOf c_spec_l3Taken mixed (by simp) (told_ex _ fun f p h => tellG_bad _ _ f p h) ?_
  rw [T]
  have hx := okL_hd hxg.1
  have hxi : idxLV 1 (L false x.ty) 0 = some (.rp [N (hd x.ty)]) := hd_idx hx.2.2.2.1
  have e55 : eqB 5 5 = true := by rw [eqB_true]
  have e58 : eqB 5 8 = false := by rw [eqB_false]; omega
  have e512 : eqB 5 12 = false := by rw [eqB_false]; omega
  have hz : eqB 0 0 = true := by rw [eqB_true]
  by_cases q : hd x.ty = 1
  · have hq : eqB (hd x.ty) 1 = true := by rw [eqB_true]; exact q
    have hk : kidsN (hd x.ty) = some 2 := by rw [q]; exact kids_pair.1
    simp (disch := omega) [k_spec_l3Taken, boxLV, frzLV, GTerm.cells, hxi, hq, e55, e58, e512]
    refine onCall_eq (l1Le_ok t (GSys.G1 t) hn) (by simp) ?_
    rw [if_pos q]
    cases hl : s.le 1 n
    · simp (disch := omega)
      refine onCall_gives (Gives.low (l3Bad_ok 8 (by omega))) (by simp) ?_
      rintro r ⟨⟨h3, w1, w2, w4, k4, rfl⟩, lo⟩
      simp (disch := omega)
      exact ⟨by omega, w1, w2, w4, k4, by simp⟩
    · have p0 := l2Part_ok hxg.1 0 (.inr hk)
      have p1 := l2Part_ok hxg.1 1 (.inr hk)
      simp (disch := omega)
      refine onCall_eq p0 (by simp) ?_
      simp (disch := omega) [chunks]
      refine onCall_eq p1 (by simp) ?_
      simp (disch := omega) [chunks]
      refine onCall_eq p0 (by simp) ?_
      simp (disch := omega) [chunks]
      have w := l3With_ok nlc false ctx [(false, part1 x.ty), (false, part0 x.ty)] (by omega) (by simp)
      simp only [List.map_cons, List.map_nil, List.cons_append, List.nil_append] at w
      refine onCall_eq w (by simp) ?_
      have of := l3Of_ok s 5 n nl1 gty nl2 [a, b] 1 (by simp) false ((false, part1 x.ty) :: (false, part0 x.ty) :: ctx) _ (tellG_fine hbs) (hb q)
      simp only [GTerm.lv, GTerm.cells, List.map_cons] at of
      simp (disch := omega) [chunks]
      refine onCall_gives (Gives.low of) (by simp) ?_
      rintro r ⟨hr, lo⟩
      cases hB : tellG s (part1 x.ty :: part0 x.ty :: ctx.map Prod.snd) b with
      | bad f p =>
        rw [hB] at hr
        simp only [ofR] at hr
        obtain ⟨hf, u1, u2, u4, n4', rfl⟩ := hr
        have hf0 : eqB f 0 = false := by rw [eqB_false]; exact hf
        simp (disch := omega) [boxLV, frzLV, hf0]
        exact ⟨hf, false, false, false, n4', by simp⟩
      | ok y =>
        have hyg := hbg q y hB
        rw [hB] at hr
        simp only [ofR] at hr
        obtain ⟨u1, u2, u4, n4', rfl⟩ := hr
        have hyl := hyg.2.1
        have c2 : cutLV 1 (L false y.needs) (some 2) none none = some (L false (y.needs.drop 2)) := cut_drop (k := 2) (by omega)
        have i0 : idxLV 1 (L false y.needs) 0 = some (.rp [N (y.needs.getD 0 0)]) := idx_n (i := 0) (by omega)
        have i1 : idxLV 1 (L false y.needs) 1 = some (.rp [N (y.needs.getD 1 0)]) := idx_n (i := 1) (by omega)
        have g0 := getD_G hyg.2.2 (show 0 < y.needs.length by omega)
        have g1 := getD_G hyg.2.2 (show 1 < y.needs.length by omega)
        have cp := l1Copy_ok false (y.needs.drop 2) (by simp; omega)
        have dl : (y.needs.drop 2).length = ctx.length := by simp; omega
        have dg : ∀ u ∈ y.needs.drop 2, s.G u := fun u hu => hyg.2.2 u (List.mem_of_mem_drop hu)
        have us := used2 (s := s) (l := y.needs) (g := n) (by omega)
        generalize y.needs.getD 0 0 = y0 at *
        generalize y.needs.getD 1 0 = y1 at *
        obtain ⟨yr, hyr⟩ : ∃ yr, yr = y.needs.drop 2 := ⟨_, rfl⟩
        rw [← hyr] at c2 cp dl dg
        simp (disch := omega) [boxLV, frzLV, hz, c2]
        refine onCall_eq cp (by simp) ?_
        simp (disch := omega) [e512, e55, i1]
        refine onCall_eq (l1Le_ok t g1 hn) (by simp) ?_
        cases hu1 : s.le y1 n
        · simp (disch := omega) [i0]
          refine onCall_gives (Gives.low (l3Bad_ok 9 (by omega))) (by simp) ?_
          rintro r ⟨⟨h3, w1, w2, w4, k4, rfl⟩, lo⟩
          simp (disch := omega) [us, hu1]
          exact ⟨by omega, w1, w2, w4, k4, by simp⟩
        · simp (disch := omega) [i0]
          refine onCall_eq (l1Le_ok t g0 hn) (by simp) ?_
          cases hu0 : s.le y0 n
          · simp (disch := omega)
            refine onCall_gives (Gives.low (l3Bad_ok 9 (by omega))) (by simp) ?_
            rintro r ⟨⟨h3, w1, w2, w4, k4, rfl⟩, lo⟩
            simp (disch := omega) [us, hu1, hu0]
            exact ⟨by omega, w1, w2, w4, k4, by simp⟩
          · have zr := l3Zero_ok ctx.length (by omega)
            have sc := l3Sum_ok t false false (zeros ctx.length) n hn x.needs (by simp [zeros]; omega) (by rw [hxg.2.1]; simp [zeros]) (zeros_ok t _).2 hxg.2.2
            have e1 := zip_zero hsy n x.needs
            rw [hxg.2.1] at e1
            rw [e1] at sc
            have so := scaled_ok t (g := n) hxg.2.1
            have s2 := l3Sum_ok t false false (scaledP s n x.needs) 1 (GSys.G1 t) yr (by rw [so.1]; omega) (by rw [so.1, dl]) so.2 dg
            rw [zip_one hsy _ _ dg] at s2
            simp (disch := omega)
            refine onCall_eq zr (by simp) ?_
            simp (disch := omega)
            refine onCall_eq sc (by simp) ?_
            simp (disch := omega)
            refine onCall_eq s2 (by simp) ?_
            simp (disch := omega) [us, hu1, hu0]
            exact ⟨false, true, true, true, by simp [hyr]⟩
  · have hq : eqB (hd x.ty) 1 = false := by rw [eqB_false]; exact q
    rw [if_neg q]
    simp (disch := omega) [k_spec_l3Taken, boxLV, frzLV, GTerm.cells, hxi, hq, e55, e58, e512]
    refine onCall_gives (Gives.low (l3Bad_ok 4 (by omega))) (by simp) ?_
    rintro r ⟨⟨h3, w1, w2, w4, k4, rfl⟩, lo⟩
    simp (disch := omega)
    exact ⟨by omega, w1, w2, w4, k4, by simp⟩
theorem l3Taken_open (n : Int) (nl1 : Bool) (gty : List Int) (nl2 : Bool) (a b : GTerm) (x : TT) (n4 : Bool) (hn : s.G n) (hxg : x.good s ctx.length) (hA : tellG s (ctx.map Prod.snd) a = .ok x) (hbs : b.size ≤ 1000000)
    (hb : isBox (hd x.ty) = true → Gives Tryz.prog n_spec_l3Tell [s.lv, LC false ((false, part0 x.ty) :: ctx), b.lv] (tellG s (part0 x.ty :: ctx.map Prod.snd) b).told)
    (hbg : isBox (hd x.ty) = true → ∀ y, tellG s (part0 x.ty :: ctx.map Prod.snd) b = .ok y → y.good s (ctx.length + 1)) :
    Gives Tryz.prog n_spec_l3Taken [s.lv, LC nlc ctx, (GTerm.mk 12 n nl1 gty nl2 [a, b]).lv, aLV x n4] (tellG s (ctx.map Prod.snd) (GTerm.mk 12 n nl1 gty nl2 [a, b])).told := by
  have t := GSys.sys_of hsy
  have T := tell_open (n := n) (nl1 := nl1) (nl2 := nl2) (gty := gty) (b := b) hA hxg.1
  refine Gives.of_codeOf c_spec_l3Taken mixed (by simp) (told_ex _ fun f p h => tellG_bad _ _ f p h) ?_
  rw [T]
  have hx := okL_hd hxg.1
  have hxi : idxLV 1 (L false x.ty) 0 = some (.rp [N (hd x.ty)]) := hd_idx hx.2.2.2.1
  have e55 : eqB 12 5 = false := by rw [eqB_false]; omega
  have e58 : eqB 12 8 = false := by rw [eqB_false]; omega
  have e512 : eqB 12 12 = true := by rw [eqB_true]
  have hz : eqB 0 0 = true := by rw [eqB_true]
  by_cases q : isBox (hd x.ty) = true
  · have hk : kidsN (hd x.ty) = some 1 := kids_bx q
    have hsg : (shapeOf (hd x.ty)).2 = gradeI (hd x.ty) := (shape_iff hx.2.1 hx.2.2.1).2.2.2.2.2 (.inr q)
    have hgc := okC_grade hx.1 (.inr q)
    have hgG : s.G (gradeI (hd x.ty)) := hgc
    rw [hsg]
    simp (disch := omega) [k_spec_l3Taken, boxLV, frzLV, GTerm.cells, hxi, e55, e58, e512]
    refine onCall_eq (box_ok (hd x.ty)) (by simp) ?_
    simp (disch := omega) [q]
    refine onCall_eq (l1Le_ok t (GSys.G1 t) hn) (by simp) ?_
    cases hl : s.le 1 n
    · simp (disch := omega)
      refine onCall_gives (Gives.low (l3Bad_ok 8 (by omega))) (by simp) ?_
      rintro r ⟨⟨h3, w1, w2, w4, k4, rfl⟩, lo⟩
      simp (disch := omega)
      exact ⟨by omega, w1, w2, w4, k4, by simp⟩
    · have p0 := l2Part_ok hxg.1 0 (.inl hk)
      simp (disch := omega)
      refine onCall_eq p0 (by simp) ?_
      simp (disch := omega) [chunks, e55]
      have w := l3With_ok nlc false ctx [(false, part0 x.ty)] (by omega) (by simp)
      simp only [List.map_cons, List.map_nil, List.cons_append, List.nil_append] at w
      refine onCall_eq w (by simp) ?_
      have of := l3Of_ok s 12 n nl1 gty nl2 [a, b] 1 (by simp) false ((false, part0 x.ty) :: ctx) _ (tellG_fine hbs) (hb q)
      simp only [GTerm.lv, GTerm.cells, List.map_cons] at of
      simp (disch := omega) [chunks]
      refine onCall_gives (Gives.low of) (by simp) ?_
      rintro r ⟨hr, lo⟩
      cases hB : tellG s (part0 x.ty :: ctx.map Prod.snd) b with
      | bad f p =>
        rw [hB] at hr
        simp only [ofR] at hr
        obtain ⟨hf, u1, u2, u4, n4', rfl⟩ := hr
        have hf0 : eqB f 0 = false := by rw [eqB_false]; exact hf
        simp (disch := omega) [boxLV, frzLV, hf0]
        exact ⟨hf, false, false, false, n4', by simp⟩
      | ok y =>
        have hyg := hbg q y hB
        rw [hB] at hr
        simp only [ofR] at hr
        obtain ⟨u1, u2, u4, n4', rfl⟩ := hr
        have hyl := hyg.2.1
        have c2 : cutLV 1 (L false y.needs) (some 1) none none = some (L false (y.needs.drop 1)) := cut_drop (k := 1) (by omega)
        have i0 : idxLV 1 (L false y.needs) 0 = some (.rp [N (y.needs.getD 0 0)]) := idx_n (i := 0) (by omega)
        have g0 := getD_G hyg.2.2 (show 0 < y.needs.length by omega)
        have cp := l1Copy_ok false (y.needs.drop 1) (by simp; omega)
        have dl : (y.needs.drop 1).length = ctx.length := by simp; omega
        have dg : ∀ u ∈ y.needs.drop 1, s.G u := fun u hu => hyg.2.2 u (List.mem_of_mem_drop hu)
        have us := used1 (s := s) (l := y.needs) (g := s.tm n (gradeI (hd x.ty))) (by omega)
        generalize y.needs.getD 0 0 = y0 at *
        obtain ⟨yr, hyr⟩ : ∃ yr, yr = y.needs.drop 1 := ⟨_, rfl⟩
        rw [← hyr] at c2 cp dl dg
        simp (disch := omega) [boxLV, frzLV, hz, c2]
        refine onCall_eq cp (by simp) ?_
        simp (disch := omega) [e512]
        refine onCall_eq (grade_ok (hd x.ty) (by unfold I64; omega) hx.2.1) (by simp) ?_
        simp (disch := omega)
        refine onCall_eq (l1Mul_ok t hn hgG) (by simp) ?_
        simp (disch := omega) [i0]
        refine onCall_eq (l1Le_ok t g0 (GSys.Gtm t _ _)) (by simp) ?_
        cases hu0 : s.le y0 (s.tm n (gradeI (hd x.ty)))
        · simp (disch := omega)
          refine onCall_gives (Gives.low (l3Bad_ok 9 (by omega))) (by simp) ?_
          rintro r ⟨⟨h3, w1, w2, w4, k4, rfl⟩, lo⟩
          simp (disch := omega) [us, hu0]
          exact ⟨by omega, w1, w2, w4, k4, by simp⟩
        · have zr := l3Zero_ok ctx.length (by omega)
          have sc := l3Sum_ok t false false (zeros ctx.length) n hn x.needs (by simp [zeros]; omega) (by rw [hxg.2.1]; simp [zeros]) (zeros_ok t _).2 hxg.2.2
          have e1 := zip_zero hsy n x.needs
          rw [hxg.2.1] at e1
          rw [e1] at sc
          have so := scaled_ok t (g := n) hxg.2.1
          have s2 := l3Sum_ok t false false (scaledP s n x.needs) 1 (GSys.G1 t) yr (by rw [so.1]; omega) (by rw [so.1, dl]) so.2 dg
          rw [zip_one hsy _ _ dg] at s2
          simp (disch := omega)
          refine onCall_eq zr (by simp) ?_
          simp (disch := omega)
          refine onCall_eq sc (by simp) ?_
          simp (disch := omega)
          refine onCall_eq s2 (by simp) ?_
          simp (disch := omega) [us, hu0]
          exact ⟨false, true, true, true, by simp [hyr]⟩
  · have q' : isBox (hd x.ty) = false := by simpa using q
    rw [if_neg q]
    simp (disch := omega) [k_spec_l3Taken, boxLV, frzLV, GTerm.cells, hxi, e55, e58, e512]
    refine onCall_eq (box_ok (hd x.ty)) (by simp) ?_
    simp (disch := omega) [q']
    refine onCall_gives (Gives.low (l3Bad_ok 7 (by omega))) (by simp) ?_
    rintro r ⟨⟨h3, w1, w2, w4, k4, rfl⟩, lo⟩
    simp (disch := omega)
    exact ⟨by omega, w1, w2, w4, k4, by simp⟩
theorem l3Taken_case (n : Int) (nl1 : Bool) (gty : List Int) (nl2 : Bool) (a b c : GTerm) (x : TT) (n4 : Bool) (hn : s.G n) (hxg : x.good s ctx.length) (hA : tellG s (ctx.map Prod.snd) a = .ok x) (hbs : b.size ≤ 1000000) (hcs : c.size ≤ 1000000)
    (hb : hd x.ty = 2 → Gives Tryz.prog n_spec_l3Tell [s.lv, LC false ((false, part0 x.ty) :: ctx), b.lv] (tellG s (part0 x.ty :: ctx.map Prod.snd) b).told)
    (hbg : hd x.ty = 2 → ∀ y, tellG s (part0 x.ty :: ctx.map Prod.snd) b = .ok y → y.good s (ctx.length + 1))
    (hc : hd x.ty = 2 → Gives Tryz.prog n_spec_l3Tell [s.lv, LC false ((false, part1 x.ty) :: ctx), c.lv] (tellG s (part1 x.ty :: ctx.map Prod.snd) c).told)
    (hcg : hd x.ty = 2 → ∀ y, tellG s (part1 x.ty :: ctx.map Prod.snd) c = .ok y → y.good s (ctx.length + 1)) :
    Gives Tryz.prog n_spec_l3Taken [s.lv, LC nlc ctx, (GTerm.mk 8 n nl1 gty nl2 [a, b, c]).lv, aLV x n4] (tellG s (ctx.map Prod.snd) (GTerm.mk 8 n nl1 gty nl2 [a, b, c])).told := by
  have t := GSys.sys_of hsy
  have T := tell_case (n := n) (nl1 := nl1) (nl2 := nl2) (gty := gty) (b := b) (c := c) hA hxg.1
  refine Gives.of_codeOf c_spec_l3Taken mixed (by simp) (told_ex _ fun f p h => tellG_bad _ _ f p h) ?_
  rw [T]
  have hx := okL_hd hxg.1
  have hxi : idxLV 1 (L false x.ty) 0 = some (.rp [N (hd x.ty)]) := hd_idx hx.2.2.2.1
  have e55 : eqB 8 5 = false := by rw [eqB_false]; omega
  have e58 : eqB 8 8 = true := by rw [eqB_true]
  have e512 : eqB 8 12 = false := by rw [eqB_false]; omega
  have hz : eqB 0 0 = true := by rw [eqB_true]
  by_cases q : hd x.ty = 2
  · have hq : eqB (hd x.ty) 2 = true := by rw [eqB_true]; exact q
    have hk : kidsN (hd x.ty) = some 2 := by rw [q]; exact kids_pair.2
    simp (disch := omega) [k_spec_l3Taken, boxLV, frzLV, GTerm.cells, hxi, hq, e55, e58, e512]
    refine onCall_eq (l1Le_ok t (GSys.G1 t) hn) (by simp) ?_
    rw [if_pos q]
    cases hl : s.le 1 n
    · simp (disch := omega)
      refine onCall_gives (Gives.low (l3Bad_ok 8 (by omega))) (by simp) ?_
      rintro r ⟨⟨h3, w1, w2, w4, k4, rfl⟩, lo⟩
      simp (disch := omega)
      exact ⟨by omega, w1, w2, w4, k4, by simp⟩
    · have p0 := l2Part_ok hxg.1 0 (.inr hk)
      have p1 := l2Part_ok hxg.1 1 (.inr hk)
      simp (disch := omega)
      refine onCall_eq p0 (by simp) ?_
      simp (disch := omega) [chunks, e55]
      have w := l3With_ok nlc false ctx [(false, part0 x.ty)] (by omega) (by simp)
      have w2 := l3With_ok nlc false ctx [(false, part1 x.ty)] (by omega) (by simp)
      simp only [List.map_cons, List.map_nil, List.cons_append, List.nil_append] at w w2
      refine onCall_eq w (by simp) ?_
      have of := l3Of_ok s 8 n nl1 gty nl2 [a, b, c] 1 (by simp) false ((false, part0 x.ty) :: ctx) _ (tellG_fine hbs) (hb q)
      have of2 := l3Of_ok s 8 n nl1 gty nl2 [a, b, c] 2 (by simp) false ((false, part1 x.ty) :: ctx) _ (tellG_fine hcs) (hc q)
      simp only [GTerm.lv, GTerm.cells, List.map_cons] at of of2
      simp (disch := omega) [chunks]
      refine onCall_gives (Gives.low of) (by simp) ?_
      rintro r ⟨hr, lo⟩
      cases hB : tellG s (part0 x.ty :: ctx.map Prod.snd) b with
      | bad f p =>
        rw [hB] at hr
        simp only [ofR] at hr
        obtain ⟨hf, u1, u2, u4, n4', rfl⟩ := hr
        have hf0 : eqB f 0 = false := by rw [eqB_false]; exact hf
        simp (disch := omega) [boxLV, frzLV, hf0]
        exact ⟨hf, false, false, false, n4', by simp⟩
      | ok y =>
        have hyg := hbg q y hB
        rw [hB] at hr
        simp only [ofR] at hr
        obtain ⟨u1, u2, u4, n4', rfl⟩ := hr
        have hyl := hyg.2.1
        have c2 : cutLV 1 (L false y.needs) (some 1) none none = some (L false (y.needs.drop 1)) := cut_drop (k := 1) (by omega)
        have i0 : idxLV 1 (L false y.needs) 0 = some (.rp [N (y.needs.getD 0 0)]) := idx_n (i := 0) (by omega)
        have g0 := getD_G hyg.2.2 (show 0 < y.needs.length by omega)
        have cp := l1Copy_ok false (y.needs.drop 1) (by simp; omega)
        have dl : (y.needs.drop 1).length = ctx.length := by simp; omega
        have dg : ∀ u ∈ y.needs.drop 1, s.G u := fun u hu => hyg.2.2 u (List.mem_of_mem_drop hu)
        have us := used1 (s := s) (l := y.needs) (g := n) (by omega)
        generalize y.needs.getD 0 0 = y0 at *
        obtain ⟨yr, hyr⟩ : ∃ yr, yr = y.needs.drop 1 := ⟨_, rfl⟩
        rw [← hyr] at c2 cp dl dg
        simp (disch := omega) [boxLV, frzLV, hz, c2]
        refine onCall_eq cp (by simp) ?_
        simp (disch := omega) [e512, e55, e58]
        refine onCall_eq p1 (by simp) ?_
        simp (disch := omega) [chunks]
        refine onCall_eq w2 (by simp) ?_
        simp (disch := omega) [chunks]
        refine onCall_gives (Gives.low of2) (by simp) ?_
        rintro r ⟨hr, lo⟩
        cases hC : tellG s (part1 x.ty :: ctx.map Prod.snd) c with
        | bad f p =>
          rw [hC] at hr
          simp only [ofR] at hr
          obtain ⟨hf, v1, v2, v4, m4', rfl⟩ := hr
          have hf0 : eqB f 0 = false := by rw [eqB_false]; exact hf
          simp (disch := omega) [boxLV, frzLV, hf0]
          exact ⟨hf, false, false, false, m4', by simp⟩
        | ok z =>
          have hzg := hcg q z hC
          rw [hC] at hr
          simp only [ofR] at hr
          obtain ⟨v1, v2, v4, m4', rfl⟩ := hr
          have hzl := hzg.2.1
          have d2 : cutLV 1 (L false z.needs) (some 1) none none = some (L false (z.needs.drop 1)) := cut_drop (k := 1) (by omega)
          have j0 : idxLV 1 (L false z.needs) 0 = some (.rp [N (z.needs.getD 0 0)]) := idx_n (i := 0) (by omega)
          have k0 := getD_G hzg.2.2 (show 0 < z.needs.length by omega)
          have el : (z.needs.drop 1).length = ctx.length := by simp; omega
          have eg : ∀ u ∈ z.needs.drop 1, s.G u := fun u hu => hzg.2.2 u (List.mem_of_mem_drop hu)
          have vs := used1 (s := s) (l := z.needs) (g := n) (by omega)
          generalize z.needs.getD 0 0 = z0 at *
          obtain ⟨zr, hzr⟩ : ∃ zr, zr = z.needs.drop 1 := ⟨_, rfl⟩
          rw [← hzr] at d2 el eg
          have ly := okL_len hyg.1
          simp (disch := omega) [boxLV, frzLV, hz]
          have sm := l1Same_ok false false y.ty z.ty (by omega)
          refine onCall_eq sm (by simp) ?_
          cases he : (y.ty == z.ty)
          · have he' : y.ty ≠ z.ty := by simpa using he
            simp (disch := omega)
            refine onCall_gives (Gives.low (l3Bad_ok 3 (by omega))) (by simp) ?_
            rintro r ⟨⟨h3, w1, w2, w4, k4, rfl⟩, lo⟩
            simp (disch := omega) [he']
            exact ⟨by omega, w1, w2, w4, k4, by simp⟩
          · have he' : y.ty = z.ty := by simpa using he
            simp (disch := omega) [j0]
            refine onCall_eq (l1Le_ok t k0 hn) (by simp) ?_
            simp (disch := omega) [d2]
            have jn := l3Join_ok t false false yr zr (by omega) (by omega) dg eg
            refine onCall_eq jn (by simp) ?_
            have jl := zip_len (s := s) dl el
            have jg : ∀ u ∈ joinP s yr zr, s.G u := fun u hu => join_G hsy u hu dg eg
            cases hv0 : s.le z0 n
            · simp (disch := omega)
              refine onCall_gives (Gives.low (l3Bad_ok 9 (by omega))) (by simp) ?_
              rintro r ⟨⟨h3, w1, w2, w4, k4, rfl⟩, lo⟩
              simp (disch := omega) [us, vs, hv0, he']
              exact ⟨by omega, w1, w2, w4, k4, by simp⟩
            · simp (disch := omega) [i0]
              refine onCall_eq (l1Le_ok t g0 hn) (by simp) ?_
              cases hu0 : s.le y0 n
              · simp (disch := omega)
                refine onCall_gives (Gives.low (l3Bad_ok 9 (by omega))) (by simp) ?_
                rintro r ⟨⟨h3, w1, w2, w4, k4, rfl⟩, lo⟩
                simp (disch := omega) [us, vs, hu0, hv0, he']
                exact ⟨by omega, w1, w2, w4, k4, by simp⟩
              · have zz := l3Zero_ok ctx.length (by omega)
                have sc := l3Sum_ok t false false (zeros ctx.length) n hn x.needs (by simp [zeros]; omega) (by rw [hxg.2.1]; simp [zeros]) (zeros_ok t _).2 hxg.2.2
                have e1 := zip_zero hsy n x.needs
                rw [hxg.2.1] at e1
                rw [e1] at sc
                have so := scaled_ok t (g := n) hxg.2.1
                have s2 := l3Sum_ok t false false (scaledP s n x.needs) 1 (GSys.G1 t) (joinP s yr zr) (by rw [so.1]; omega) (by rw [so.1, jl]) so.2 jg
                rw [zip_one hsy _ _ jg] at s2
                simp (disch := omega)
                refine onCall_eq zz (by simp) ?_
                simp (disch := omega)
                refine onCall_eq sc (by simp) ?_
                simp (disch := omega)
                refine onCall_eq s2 (by simp) ?_
                simp (disch := omega) [us, vs, hu0, hv0, he']
                exact ⟨false, true, true, true, by simp [hyr, hzr, he']⟩
  · have hq : eqB (hd x.ty) 2 = false := by rw [eqB_false]; exact q
    rw [if_neg q]
    simp (disch := omega) [k_spec_l3Taken, boxLV, frzLV, GTerm.cells, hxi, hq, e55, e58, e512]
    refine onCall_gives (Gives.low (l3Bad_ok 5 (by omega))) (by simp) ?_
    rintro r ⟨⟨h3, w1, w2, w4, k4, rfl⟩, lo⟩
    simp (disch := omega)
    exact ⟨by omega, w1, w2, w4, k4, by simp⟩
end
end Go.Proofs.YtclfngbealdbgaaGreat
namespace Go.Proofs.YtclfngbealdbgaaGreat
open Go Go.TL
set_option linter.unusedSimpArgs false
set_option linter.unusedVariables false
set_option linter.unusedSectionVars false
set_option maxRecDepth 20000
set_option maxHeartbeats 4000000
def marksF {α : Type} (f : Int → α) (k : Int) : Nat → List α
  | 0 => []
  | n + 1 => f k :: marksF f (k + 1) n
@[simp] theorem marksF_length {α : Type} (f : Int → α) (k : Int) (n : Nat) : (marksF f k n).length = n := by
  induction n generalizing k with
  | zero => rfl
  | succ n ih => simp [marksF, ih]
theorem marksF_snoc {α : Type} (f : Int → α) (k : Int) (n : Nat) : marksF f k (n + 1) = marksF f k n ++ [f (k + n)] := by
  induction n generalizing k with
  | zero => simp [marksF]
  | succ n ih =>
    rw [marksF, ih]
    simp only [marksF, List.cons_append, Int.natCast_add, Int.natCast_one]
    rw [show k + 1 + (n : Int) = k + (n + 1) by omega]
theorem marksF_get {α : Type} (f : Int → α) (k : Int) (n i : Nat) (h : i < n) : (marksF f k n)[i]'(by simpa using h) = f (k + i) := by
  induction n generalizing k i with
  | zero => omega
  | succ n ih =>
    cases i with
    | zero => simp [marksF]
    | succ i =>
      simp only [marksF, List.getElem_cons_succ]
      rw [ih (k + 1) i (by omega)]
      congr 1
      simp only [Int.natCast_add, Int.natCast_one]
      omega
def mI (k : Int) : Int := k
def mB (k : Int) : Bool := eqB (k.tmod 3) 0
abbrev rowsE {α : Type} (e : α → LV) (l : List α) : List (List LV) := l.map fun x => [e x]
theorem thRow_sc {α : Type} (v : α → Value) : ∀ (l : List α) (n : Nat) (cells : List LV) (bs : List Box), ThRow (rowsE (fun x => .sc (v x)) l) 1 n cells bs ↔ cells = l.map (fun x => .sc (v x)) ∧ bs = []
  | [], n, cells, bs => by simp [ThRow]
  | x :: l, n, cells, bs => by
    simp only [rowsE, List.map_cons, ThRow, ThAll, Th]
    constructor
    · rintro ⟨c1, b1, c2, b2, _, ⟨y, b3, ys', b4, ⟨rfl, rfl⟩, ⟨rfl, rfl⟩, rfl, rfl⟩, h2, rfl, rfl⟩
      obtain ⟨rfl, rfl⟩ := (thRow_sc v l _ _ _).1 h2
      simp
    · rintro ⟨rfl, rfl⟩
      exact ⟨[.sc (v x)], [], l.map (fun x => .sc (v x)), [], rfl, ⟨.sc (v x), [], [], [], ⟨rfl, rfl⟩, ⟨rfl, rfl⟩, rfl, rfl⟩, (thRow_sc v l _ _ _).2 ⟨rfl, rfl⟩, rfl, rfl⟩
theorem th_sc {α : Type} (v : α → Value) {u nl : Bool} {l : List α} {n : Nat} {y : LV} {bs : List Box} : Th (.sl u nl 1 (rowsE (fun x => .sc (v x)) l)) n y bs ↔ (l = [] ∧ y = .sl false nl 1 [] ∧ bs = []) ∨
    (nl = false ∧ l ≠ [] ∧ ∃ slack cap, (l.length ≤ cap ∧ l.length * 1 + slack = cap * 1) ∧ y = .ha n 1 0 l.length cap ∧ bs = [some (l.map (fun x => .sc (v x)) ++ List.replicate slack .dead)]) := by
  simp only [Th, thRow_sc, List.length_map, List.map_eq_nil_iff]
  constructor
  · rintro (⟨h1, h2, h3⟩ | ⟨h1, h2, cells, bs', slack, cap, ⟨rfl, rfl⟩, h3, h4, h5⟩)
    · exact .inl ⟨h1, h2, h3⟩
    · exact .inr ⟨h1, by simpa using h2, slack, cap, h3, by simpa using h4, by simpa using h5⟩
  · rintro (⟨h1, h2, h3⟩ | ⟨h1, h2, slack, cap, h3, h4, h5⟩)
    · exact .inl ⟨h1, h2, h3⟩
    · exact .inr ⟨h1, by simpa using h2, _, [], slack, cap, ⟨rfl, rfl⟩, h3, by simpa using h4, by simpa using h5⟩
theorem whole_sc {α : Type} (v : α → Value) (u nl : Bool) (l : List α) (h : l = [] ∨ (u = true ∧ nl = false)) : Whole (.sl u nl 1 (rowsE (fun x => .sc (v x)) l)) := by
  simp only [Whole]
  refine ⟨?_, ?_⟩
  · rcases h with rfl | ⟨rfl, rfl⟩
    · left; rfl
    · right; simp
  · clear h
    induction l with
    | nil => simp [WholeRow]
    | cons x l ih => simp only [rowsE, List.map_cons, WholeRow, WholeAll, Whole]; exact ⟨⟨trivial, trivial⟩, ih⟩
theorem splice_mark {α : Type} (v : α → Value) (f : Int → α) (k : Int) (l : List α) (rest : List LV) (i : Nat) (h : i < l.length) :
    splice ((marksF f k i ++ l.drop i).map (fun x => LV.sc (v x)) ++ rest) i [.sc (v (f (k + i)))] = (marksF f k (i + 1) ++ l.drop (i + 1)).map (fun x => LV.sc (v x)) ++ rest := by
  unfold splice
  rw [List.drop_eq_getElem_cons h, marksF_snoc]
  simp only [List.map_append, List.map_cons, List.append_assoc, List.cons_append]
  rw [take_done _ _ _ (by simp), drop_done _ _ _ _ (by simp)]
  simp
@[simp] theorem bin_rem3 {a : Int} : binLV .num .rem (.sc (.int .i64 a)) (.sc (.int .i64 3)) = some (.sc (.int .i64 (a.tmod 3))) := by simp [binLV, intBin]
theorem markIntS_ok (u nl : Bool) (l : List Int) (k : Int) (hk : 0 ≤ k ∧ k + l.length ≤ 4611686018427387904) (h1 h2 : List Box) (y : LV) (bs : List Box) (ht : Th (OU u nl l) h1.length y bs) :
    LCalls Tryz.prog n_laws_markIntS [y, N k] (h1 ++ bs ++ h2) (fun r h' => r = N (k + l.length) ∧ ∃ bs', bs'.length = bs.length ∧ Th (OU u nl (marksF mI k l.length)) h1.length y bs' ∧ h' = h1 ++ bs' ++ h2) := by
  rcases (th_sc (fun n : Int => Value.int .i64 n)).1 ht with ⟨rfl, rfl, rfl⟩ | ⟨rfl, hne, slack, cap, hcap, rfl, rfl⟩
  · refine LCalls.of_codeOf c_laws_markIntS mixed (by simp) ⟨_, _, rfl, [], rfl, (th_sc (fun n : Int => Value.int .i64 n)).2 (.inl ⟨rfl, rfl, rfl⟩), rfl⟩ ?_
    simp (disch := omega) [k_laws_markIntS]
    refine wpC_for 0 0 (fun i t h => t 5 = N 0 ∧ t 1 = N k ∧ h = h1 ++ h2) (by simp) (by omega) ?_
    rintro i t1 hh hf hi ⟨e5, e1, rfl⟩
    (have e0 := hf 0 (by kernel_rfl); clear hf; simp [] at e0)
    simp (disch := omega) [e0, e1, e5]
    refine post_tmp (.inr rfl) (by simp) ?_
    simp [Th, marksF]
  · have hm : (marksF mI k l.length).length = l.length := marksF_length _ k l.length
    have hne2 : marksF mI k l.length ≠ [] := by
      intro h; rw [h] at hm; exact hne (List.eq_nil_of_length_eq_zero (by simpa using hm.symm))
    refine LCalls.of_codeOf c_laws_markIntS mixed (by simp) ⟨_, _, rfl, [some ((marksF mI k l.length).map (fun x => .sc ((fun n : Int => Value.int .i64 n) x)) ++ List.replicate slack .dead)], rfl, (th_sc (fun n : Int => Value.int .i64 n)).2 (.inr ⟨rfl, hne2, slack, cap, by rw [hm]; exact hcap, by rw [hm], rfl⟩), rfl⟩ ?_
    simp (disch := omega) [k_laws_markIntS]
    refine wpC_for l.length 0 (fun i t h => t 5 = N i ∧ t 1 = N (k + i) ∧ h = h1 ++ some ((marksF mI k i ++ l.drop i).map (fun x => .sc ((fun n : Int => Value.int .i64 n) x)) ++ List.replicate slack .dead) :: h2) (by simp [marksF]) (by omega) ?_
    rintro i t1 hh hf hi ⟨e5, e1, rfl⟩
    (have e0 := hf 0 (by kernel_rfl); clear hf; simp [] at e0)
    simp (disch := omega) [e0, e1, e5]
    (with_reducible first | refine onBoolT (fun h5 => ?_) (fun h5 => ?_) | refine onBoolF (fun h5 => ?_) (fun h5 => ?_))
    · simp only [ltB_true, ltB_false, leB_true, leB_false, eqB_true, eqB_false, Bool.not_true, Bool.not_false] at h5
      have hsp := splice_mark (fun n : Int => Value.int .i64 n) mI k l (List.replicate slack .dead) i (by omega)
      simp (disch := omega) [e0, e1, e5, idx_ha, i64_wrap]
      exact ⟨by omega, by omega, by omega, by simpa [splice, mI, mB] using hsp⟩
    · simp only [ltB_true, ltB_false, leB_true, leB_false, eqB_true, eqB_false, Bool.not_true, Bool.not_false] at h5
      simp (disch := omega) [e1]
      refine post_tmp (.inr rfl) (by simp) ⟨by simp; omega, [some ((marksF mI k l.length).map (fun x => .sc ((fun n : Int => Value.int .i64 n) x)) ++ List.replicate slack .dead)], rfl, (th_sc (fun n : Int => Value.int .i64 n)).2 (.inr ⟨rfl, hne2, slack, cap, by rw [hm]; exact hcap, by rw [hm], rfl⟩), ?_⟩
      rw [show i = l.length by omega]; simp
theorem markBoolS_ok (u nl : Bool) (l : List Bool) (k : Int) (hk : 0 ≤ k ∧ k + l.length ≤ 4611686018427387904) (h1 h2 : List Box) (y : LV) (bs : List Box) (ht : Th (OB u nl l) h1.length y bs) :
    LCalls Tryz.prog n_laws_markBoolS [y, N k] (h1 ++ bs ++ h2) (fun r h' => r = N (k + l.length) ∧ ∃ bs', bs'.length = bs.length ∧ Th (OB u nl (marksF mB k l.length)) h1.length y bs' ∧ h' = h1 ++ bs' ++ h2) := by
  rcases (th_sc (fun b : Bool => Value.bool b)).1 ht with ⟨rfl, rfl, rfl⟩ | ⟨rfl, hne, slack, cap, hcap, rfl, rfl⟩
  · refine LCalls.of_codeOf c_laws_markBoolS mixed (by simp) ⟨_, _, rfl, [], rfl, (th_sc (fun b : Bool => Value.bool b)).2 (.inl ⟨rfl, rfl, rfl⟩), rfl⟩ ?_
    simp (disch := omega) [k_laws_markBoolS]
    refine wpC_for 0 0 (fun i t h => t 5 = N 0 ∧ t 1 = N k ∧ h = h1 ++ h2) (by simp) (by omega) ?_
    rintro i t1 hh hf hi ⟨e5, e1, rfl⟩
    (have e0 := hf 0 (by kernel_rfl); clear hf; simp [] at e0)
    simp (disch := omega) [e0, e1, e5]
    refine post_tmp (.inr rfl) (by simp) ?_
    simp [Th, marksF]
  · have hm : (marksF mB k l.length).length = l.length := marksF_length _ k l.length
    have hne2 : marksF mB k l.length ≠ [] := by
      intro h; rw [h] at hm; exact hne (List.eq_nil_of_length_eq_zero (by simpa using hm.symm))
    refine LCalls.of_codeOf c_laws_markBoolS mixed (by simp) ⟨_, _, rfl, [some ((marksF mB k l.length).map (fun x => .sc ((fun b : Bool => Value.bool b) x)) ++ List.replicate slack .dead)], rfl, (th_sc (fun b : Bool => Value.bool b)).2 (.inr ⟨rfl, hne2, slack, cap, by rw [hm]; exact hcap, by rw [hm], rfl⟩), rfl⟩ ?_
    simp (disch := omega) [k_laws_markBoolS]
    refine wpC_for l.length 0 (fun i t h => t 5 = N i ∧ t 1 = N (k + i) ∧ h = h1 ++ some ((marksF mB k i ++ l.drop i).map (fun x => .sc ((fun b : Bool => Value.bool b) x)) ++ List.replicate slack .dead) :: h2) (by simp [marksF]) (by omega) ?_
    rintro i t1 hh hf hi ⟨e5, e1, rfl⟩
    (have e0 := hf 0 (by kernel_rfl); clear hf; simp [] at e0)
    simp (disch := omega) [e0, e1, e5]
    (with_reducible first | refine onBoolT (fun h5 => ?_) (fun h5 => ?_) | refine onBoolF (fun h5 => ?_) (fun h5 => ?_))
    · simp only [ltB_true, ltB_false, leB_true, leB_false, eqB_true, eqB_false, Bool.not_true, Bool.not_false] at h5
      have hsp := splice_mark (fun b : Bool => Value.bool b) mB k l (List.replicate slack .dead) i (by omega)
      simp (disch := omega) [e0, e1, e5, idx_ha, i64_wrap]
      exact ⟨by omega, by omega, by omega, by simpa [splice, mI, mB] using hsp⟩
    · simp only [ltB_true, ltB_false, leB_true, leB_false, eqB_true, eqB_false, Bool.not_true, Bool.not_false] at h5
      simp (disch := omega) [e1]
      refine post_tmp (.inr rfl) (by simp) ⟨by simp; omega, [some ((marksF mB k l.length).map (fun x => .sc ((fun b : Bool => Value.bool b) x)) ++ List.replicate slack .dead)], rfl, (th_sc (fun b : Bool => Value.bool b)).2 (.inr ⟨rfl, hne2, slack, cap, by rw [hm]; exact hcap, by rw [hm], rfl⟩), ?_⟩
      rw [show i = l.length by omega]; simp
theorem heldIntS_ok (nl : Bool) (k : Int) (n : Nat) (hk : 0 ≤ k ∧ k + n ≤ 4611686018427387904) : Gives Tryz.prog n_laws_heldIntS [L nl (marksF mI k n), N k] (· = N (k + n)) := by
  refine Gives.of_codeOf c_laws_heldIntS mixed (by simp) ⟨_, rfl, by simp⟩ ?_
  have hlen : (marksF mI k n).length = n := marksF_length _ k n
  simp (disch := omega) [k_laws_heldIntS]
  refine wpC_for n 0 (fun i t _ => t 5 = N i ∧ t 1 = N (k + i)) (by simp) (by omega) ?_
  rintro i t1 hh hf hi ⟨e5, e1⟩
  (have e0 := hf 0 (by kernel_rfl); clear hf; simp [] at e0)
  simp (disch := omega) [e0, e1, e5, hlen]
  (with_reducible first | refine onBoolT (fun h5 => ?_) (fun h5 => ?_) | refine onBoolF (fun h5 => ?_) (fun h5 => ?_))
  · simp only [ltB_true, ltB_false, leB_true, leB_false, eqB_true, eqB_false, Bool.not_true, Bool.not_false] at h5
    have hg : (marksF mI k n)[i]'(by omega) = mI (k + i) := marksF_get mI k n i (by omega)
    simp (disch := omega) [e0, e1, e5, idx_L, hlen, hg]
    repeat' (first
    | (with_reducible (first | refine onBoolT (fun hb_ => ?_) (fun hb_ => ?_) | refine onBoolF (fun hb_ => ?_) (fun hb_ => ?_)) <;> simp (disch := omega) [hb_, e0, e1, e5, idx_L, hlen, hg, mI, mB, i64_wrap])
    | simp (disch := omega) [e0, e1, e5, idx_L, hlen, hg, mI, mB, i64_wrap])
    all_goals first | omega | (simp [mI, mB] at hb_)
  · simp only [ltB_true, ltB_false, leB_true, leB_false, eqB_true, eqB_false, Bool.not_true, Bool.not_false] at h5
    simp (disch := omega) [e1]
    rw [show i = n by omega]
theorem markSystem_ok (u1 n1 u2 n2 u3 n3 : Bool) (size : Int) (p t : List Int) (b : List Bool) (k : Int) (hk : 0 ≤ k ∧ k + (p.length + t.length + b.length) ≤ 4611686018427387904) (h1 h2 : List Box) (y1 y2 y3 : LV) (b1 b2 b3 : List Box)
    (t1 : Th (OU u1 n1 p) h1.length y1 b1) (t2 : Th (OU u2 n2 t) (h1 ++ b1).length y2 b2) (t3 : Th (OB u3 n3 b) (h1 ++ b1 ++ b2).length y3 b3) :
    LCalls Tryz.prog n_laws_markSystem [.agg [N size, y1, y2, y3], N k] (h1 ++ b1 ++ b2 ++ b3 ++ h2) (fun r h' => r = N (k + p.length + t.length + b.length) ∧ ∃ c1 c2 c3, c1.length = b1.length ∧ c2.length = b2.length ∧ c3.length = b3.length ∧
      Th (OU u1 n1 (marksF mI k p.length)) h1.length y1 c1 ∧ Th (OU u2 n2 (marksF mI (k + p.length) t.length)) (h1 ++ c1).length y2 c2 ∧ Th (OB u3 n3 (marksF mB (k + p.length + t.length) b.length)) (h1 ++ c1 ++ c2).length y3 c3 ∧ ∃ ex, h' = h1 ++ c1 ++ c2 ++ c3 ++ h2 ++ ex) := by
  have s1 := Th.share _ _ _ _ t1
  have s2 := Th.share _ _ _ _ t2
  have s3 := Th.share _ _ _ _ t3
  have big : ∀ (l : List Int), (marksF mI k l.length).length = l.length := fun l => marksF_length _ _ _
  obtain ⟨H, hH⟩ : ∃ H, h1 ++ b1 ++ b2 ++ b3 ++ h2 = H := ⟨_, rfl⟩
  rw [hH]
  have m1 := markIntS_ok u1 n1 p k (by omega) h1 (b2 ++ b3 ++ h2 ++ [none]) y1 b1 t1
  rw [show h1 ++ b1 ++ (b2 ++ b3 ++ h2 ++ [none]) = H ++ [none] by rw [← hH]; simp] at m1
  refine LCalls.of_codeOf c_laws_markSystem mixed (by simp) ?_ ?_
  · obtain ⟨r1, _, rfl, c1, l1, g1, rfl⟩ := m1.2.1
    obtain ⟨r2, _, rfl, c2, l2, g2, rfl⟩ := (markIntS_ok u2 n2 t (k + p.length) (by omega) (h1 ++ c1) (b3 ++ h2 ++ [none]) y2 b2 (by rw [List.length_append, l1, ← List.length_append]; exact t2)).2.1
    obtain ⟨r3, _, rfl, c3, l3, g3, rfl⟩ := (markBoolS_ok u3 n3 b (k + p.length + t.length) (by omega) (h1 ++ c1 ++ c2) (h2 ++ [none]) y3 b3 (by simp only [List.length_append, l1, l2] at t3 ⊢; exact t3)).2.1
    exact ⟨_, _, rfl, c1, c2, c3, l1, l2, l3, g1, g2, g3, [], rfl⟩
  · simp (disch := omega) [k_laws_markSystem, boxLV, frzLV, s1, s2, s3]
    refine onCall_any m1 ?_
    rintro r h' ⟨rfl, c1, l1, g1, rfl⟩
    have m2 := markIntS_ok u2 n2 t (k + p.length) (by omega) (h1 ++ c1) (b3 ++ h2 ++ [none]) y2 b2 (by rw [List.length_append, l1, ← List.length_append]; exact t2)
    rw [show h1 ++ c1 ++ b2 ++ (b3 ++ h2 ++ [none]) = h1 ++ c1 ++ (b2 ++ b3 ++ h2 ++ [none]) by simp] at m2
    generalize hH2 : h1 ++ c1 ++ (b2 ++ b3 ++ h2 ++ [none]) = H2 at *
    simp (disch := omega) [s1, s2, s3]
    refine onCall_any m2 ?_
    rintro r h' ⟨rfl, c2, l2, g2, rfl⟩
    have m3 := markBoolS_ok u3 n3 b (k + p.length + t.length) (by omega) (h1 ++ c1 ++ c2) (h2 ++ [none]) y3 b3 (by simp only [List.length_append, l1, l2] at t3 ⊢; exact t3)
    rw [show h1 ++ c1 ++ c2 ++ b3 ++ (h2 ++ [none]) = h1 ++ c1 ++ c2 ++ (b3 ++ h2 ++ [none]) by simp] at m3
    generalize hH3 : h1 ++ c1 ++ c2 ++ (b3 ++ h2 ++ [none]) = H3 at *
    simp (disch := omega) [s1, s2, s3]
    refine onCall_any m3 ?_
    rintro r h' ⟨rfl, c3, l3, g3, rfl⟩
    simp (disch := omega) [s1, s2, s3]
    have hl := congrArg List.length hH
    simp only [List.length_append] at hl
    refine post_tmp (.inr rfl) (by simp; omega) ⟨by simp, c1, l1, c2, l2, c3, l3, g1, by simpa using g2, by simpa using g3, [none], by simp⟩
end Go.Proofs.YtclfngbealdbgaaGreat
namespace Go.Proofs.YtclfngbealdbgaaGreat
open Go Go.TL
open Go.Proofs.YtclfngbealdbgaaGreat.Ty
set_option linter.unusedSimpArgs false
set_option linter.unusedVariables false
set_option linter.unusedSectionVars false
set_option maxRecDepth 20000
set_option maxHeartbeats 4000000
theorem frz_at {H : List Box} {p sz n cap : Nat} {xs : List LV} (hl : H[p]? = some (some xs)) (hx : xs.length = cap * sz) (hn : n ≤ cap) : frzLV H (.ha p sz 0 n cap) = some (.sl true false sz (chunks sz n xs), H.set p none) := by
  simp only [frzLV, hl]
  rw [if_pos ⟨hx, hn⟩]
theorem chunks_ints (l : List Int) (ex : List LV) : ∀ n, n ≤ l.length → chunks 1 n (l.map N ++ ex) = (l.take n).map fun x => [N x] := by
  induction l with
  | nil => intro n hn; have : n = 0 := by simpa using hn
           subst this; rfl
  | cons a l ih =>
    intro n hn
    cases n with
    | zero => rfl
    | succ n =>
      have := ih n (by simpa using hn)
      simp only [chunks, List.map_cons, List.cons_append, List.take_succ_cons, List.take_zero, List.drop_succ_cons, List.drop_zero, this]
theorem splice_ints (l : List Int) (ex : List LV) (i : Nat) (v : Int) (h : i < l.length) : splice (l.map N ++ ex) i [N v] = (l.set i v).map N ++ ex := by
  unfold splice
  rw [List.take_append_of_le_length (by simp; omega), List.drop_append_of_le_length (by simp; omega), List.set_eq_take_append_cons_drop, if_pos h]
  simp
theorem chunks_store (l : List Int) (ex : List LV) (i : Nat) (v : Int) (h : i < l.length) : chunks 1 l.length (List.take i (l.map N ++ ex) ++ N v :: List.drop (i + 1) (l.map N ++ ex)) = (l.set i v).map fun x => [N x] := by
  have h1 := splice_ints l ex i v h
  have e : List.take i (l.map N ++ ex) ++ N v :: List.drop (i + 1) (l.map N ++ ex) = splice (l.map N ++ ex) i [N v] := by unfold splice; simp
  rw [e, h1]
  have h2 := chunks_ints (l.set i v) ex l.length (by simp)
  rw [h2, List.take_of_length_le (by simp)]
end Go.Proofs.YtclfngbealdbgaaGreat
namespace Go.Proofs.YtclfngbealdbgaaGreat
open Go Go.TL
open Go.Proofs.YtclfngbealdbgaaGreat.Ty
set_option linter.unusedSimpArgs false
set_option linter.unusedVariables false
set_option maxRecDepth 20000
set_option maxHeartbeats 4000000
theorem kids0 {ks : List GTerm} (h : (ks.length : Int) = 0) : ks = [] := by cases ks with
  | nil => rfl
  | cons a l => simp at h; omega
theorem kids1 {ks : List GTerm} (h : (ks.length : Int) = 1) : ∃ a, ks = [a] := by
  match ks, h with
  | [a], _ => exact ⟨a, rfl⟩
  | [], h => simp at h
  | _ :: _ :: _, h => simp at h; omega
theorem kids2 {ks : List GTerm} (h : (ks.length : Int) = 2) : ∃ a b, ks = [a, b] := by
  match ks, h with
  | [a, b], _ => exact ⟨a, b, rfl⟩
  | [], h => simp at h
  | [_], h => simp at h
  | _ :: _ :: _ :: _, h => simp at h; omega
theorem kids3 {ks : List GTerm} (h : (ks.length : Int) = 3) : ∃ a b c, ks = [a, b, c] := by
  match ks, h with
  | [a, b, c], _ => exact ⟨a, b, c, rfl⟩
  | [], h => simp at h
  | [_], h => simp at h
  | [_, _], h => simp at h
  | _ :: _ :: _ :: _ :: _, h => simp at h; omega
theorem tell_fb0 {s : GSys} {cx : List (List Int)} {op n : Int} {nl1 nl2 : Bool} {gty : List Int} {a : GTerm} {ks : List GTerm} {x : TT} (h : tellG s (addedP op gty 0 [] ++ cx) a = .ok x) (h2 : firstOkP s op n 0 (hd x.ty) ≠ 0) :
    tellG s cx (.mk op n nl1 gty nl2 (a :: ks)) = .bad (firstOkP s op n 0 (hd x.ty)) [] := by
  have h' : tellG s (addedP op gty 0 (first []) ++ cx) a = .ok x := h
  simp [tellG, tellK, h', h2]
theorem told_long {ty nd : List Int} {ks : List TT} {r : LV} (h : (longR ty nd).told r) : (longT ty nd ks).told r := by
  unfold longR at h
  unfold longT
  split at h
  · rename_i q; rw [if_pos q]; exact h
  · rename_i q; rw [if_neg q]; exact h
theorem zip_scaled {s : GSys} (g : Int) : ∀ (a b : List Int), zipP s a g b = sumP s a (scaledP s g b)
  | [], b => by simp [zipP, sumP]
  | x :: a, [] => by simp [zipP, sumP, scaledP]
  | x :: a, y :: b => by
    have := zip_scaled (s := s) g a b
    simp only [zipP, sumP, scaledP, List.zipWith_cons_cons, List.map_cons] at this ⊢
    rw [this]
structure KidT (s : GSys) (cx : GCtx) (k : GTerm) : Prop where
  tell : ∀ nl, Gives Tryz.prog n_spec_l3Tell [s.lv, LC nl cx, k.lv] (tellG s (cx.map Prod.snd) k).told
  good : ∀ y, tellG s (cx.map Prod.snd) k = .ok y → y.good s cx.length
  small : k.size ≤ 1000000
theorem l3Tell_ok {s : GSys} (hsy : s.sys = true) (d : Nat) : ∀ (g : GTerm) (nlc : Bool) (ctx : GCtx), g.size ≤ d → g.wf → g.fl → (∀ c ∈ ctx, okL s.size c.2 = true) → (∀ c ∈ ctx, c.1 = false) → ctx.length + 2 * g.size ≤ 100000 → formB ctx.length s.size true g = true →
    Gives Tryz.prog n_spec_l3Tell [s.lv, LC nlc ctx, g.lv] (tellG s (ctx.map Prod.snd) g).told := by
  induction d with
  | zero => intro g _ _ h; have := g.size_pos; omega
  | succ d ih =>
    rintro ⟨op, n, nl1, gty, nl2, ks⟩ nlc ctx hsz hw hfl hc hcf hlen hform
    have t := GSys.sys_of hsy
    have h16 := t.hi
    simp only [formB, Bool.and_eq_true] at hform
    obtain ⟨hnode, hforms⟩ := hform
    have no := nodeOk_of hnode
    simp only [GTerm.wf] at hw
    obtain ⟨wop, wn, wty, wk, wks⟩ := hw
    simp only [GTerm.fl] at hfl
    obtain ⟨fl1, flk⟩ := hfl
    simp only [GTerm.size] at hsz hlen
    obtain ⟨many, hvar, hgr, hty, o1, o2⟩ := no
    have kid : ∀ (i : Nat) (hi : i < ks.length) (more : GCtx), more.length = (addsI op i).toNat → (∀ c ∈ more, okL s.size c.2 = true) → (∀ c ∈ more, c.1 = false) → KidT s (more ++ ctx) ks[i] := by
      intro i hi more hml hmo hmf
      have ha := addsI_range op i
      have hf := forms_at hforms i hi
      simp only [Nat.zero_add] at hf
      have hks := size_kid hi
      have e : (((more ++ ctx).length : Nat) : Int) = ctx.length + addsI op i := by rw [List.length_append]; omega
      have hok : ∀ c ∈ more ++ ctx, okL s.size c.2 = true := fun c h => (List.mem_append.1 h).elim (hmo c) (hc c)
      have hfl' : ∀ c ∈ more ++ ctx, c.1 = false := fun c h => (List.mem_append.1 h).elim (hmf c) (hcf c)
      refine ⟨fun nl => ih ks[i] nl (more ++ ctx) (by omega) ((wfs_iff.1 wks) _ (List.getElem_mem hi)) ((fls_iff.1 flk) _ (List.getElem_mem hi)) hok hfl' (by rw [List.length_append]; omega) (by rw [e]; exact hf), fun y hy => ?_, by omega⟩
      have := tellG_good t ks[i] ((more ++ ctx).map Prod.snd) y (fun l hl => by
        obtain ⟨c, h1, rfl⟩ := List.mem_map.1 hl
        exact hok c h1) (by rw [List.length_map, e]; exact hf) hy
      rw [List.length_map] at this
      exact this
    have hops : op = 0 ∨ op = 1 ∨ op = 2 ∨ op = 3 ∨ op = 4 ∨ op = 5 ∨ op = 6 ∨ op = 7 ∨ op = 8 ∨ op = 9 ∨ op = 10 ∨ op = 11 ∨ op = 12 := by omega
    have hz : eqB 0 0 = true := by rw [eqB_true]
    have hm : ctx.length ≤ 100000 := by omega
    refine Gives.of_codeOf c_spec_l3Tell mixed (by simp) (told_ex _ fun f p h => tellG_bad _ _ f p h) ?_
    rcases hops with e | e | e | e | e | e | e | e | e | e | e | e | e
    all_goals subst e
    all_goals simp [manyI] at many
    ·
      obtain rfl : ks = [] := by first | exact many | exact kids0 (by omega)
      obtain ⟨v0, v1⟩ := hvar rfl
      obtain ⟨v, rfl⟩ : ∃ v : Nat, n = v := ⟨n.toNat, by omega⟩
      have hv : v < ctx.length := by omega
      have hx := idx_C ctx nlc v hv
      have hxo := hc _ (List.getElem_mem hv)
      have hxf := hcf _ (List.getElem_mem hv)
      have hget : (ctx.map Prod.snd).getD v [] = ctx[v].2 := by simp [List.getD_eq_getElem?_getD, hv]
      generalize ctx[v] = c at hx hxo hxf hget
      obtain ⟨cf, cl⟩ := c
      simp only at hxo hxf hget
      subst hxf
      have hlen2 := okL_len hxo
      rw [tell_var, show ((v : Int)).toNat = v by omega, hget, List.length_map]
      simp (disch := omega) [k_spec_l3Tell, boxLV, frzLV, GTerm.cells, hz]
      refine onCall_thaw (l3Zero_ok ctx.length (by omega)) (by simp only [ViewAll, View]; exact ⟨_, [], rfl, rfl, rfl⟩) (by rintro r rfl; exact whole_sc (fun n : Int => Value.int .i64 n) true false _ (.inr ⟨rfl, rfl⟩)) ?_
      rintro tz y bs rfl hth
      rcases (th_sc (fun n : Int => Value.int .i64 n)).1 hth with ⟨h0, _, _⟩ | ⟨_, hne, slack, cap, ⟨hcap, hsl⟩, rfl, rfl⟩
      · exfalso
        have h9 := congrArg List.length h0
        rw [show (zeros ctx.length).length = ctx.length by simp [zeros]] at h9
        have h9 : ctx.length = 0 := h9
        omega
      have hzl : (zeros ctx.length).length = ctx.length := by simp [zeros]
      clear hth
      have hst := chunks_store (zeros ctx.length) (List.replicate slack .dead) v 1 (by omega)
      have hsp := splice_ints (zeros ctx.length) (List.replicate slack .dead) v 1 (by omega)
      simp (disch := omega) [hx, idx_ha (show v < (zeros ctx.length).length by omega)]
      refine ⟨by omega, ?_⟩
      rw [frz_at (xs := List.take v ((zeros ctx.length).map N ++ List.replicate slack .dead) ++ N 1 :: List.drop (v + 1) ((zeros ctx.length).map N ++ List.replicate slack .dead)) (by simp) (by simp; omega) hcap, hst]
      generalize (zeros ctx.length).set v 1 = zz
      simp (disch := omega) [hx]
      refine onCall_eq (l1Copy_ok false cl (by omega)) (by simp) ?_
      simp (disch := omega)
      exact ⟨true, true, true, true, by simp⟩
    ·
      obtain rfl : ks = [] := by first | exact many | exact kids0 (by omega)
      have e10 : eqB 1 0 = false := by rw [eqB_false]; omega
      have e11 : eqB 1 1 = true := by rw [eqB_true]
      rw [tell_num]
      simp (disch := omega) [k_spec_l3Tell, boxLV, frzLV, GTerm.cells, e10, e11, chunks]
      refine onCall_eq (l3Zero_ok ctx.length (by omega)) (by simp) ?_
      simp (disch := omega)
      exact ⟨true, true, true, true, by simp⟩
    · obtain ⟨a, b, rfl⟩ := kids2 (by omega)
      have ka := kid 0 (by simp) [] (by simp [addsI]) (by simp) (by simp)
      simp only [List.nil_append, List.getElem_cons_zero] at ka
      have kb := kid 1 (by simp) [] (by simp [addsI]) (by simp) (by simp)
      simp only [List.nil_append, List.getElem_cons_succ, List.getElem_cons_zero] at kb
      have E : ∀ k : Int, k ≠ 2 → eqB 2 k = false := fun k h => by rw [eqB_false]; omega
      have E2 : eqB 2 2 = true := by rw [eqB_true]
      have a0 : addedP 2 gty 0 [] ++ ctx.map Prod.snd = ctx.map Prod.snd := by simp [addedP, addsI]
      have of := l3Of_ok s 2 n nl1 gty nl2 [a, b] 0 (by simp) nlc ctx _ (tellG_fine ka.small) (ka.tell nlc)
      simp only [GTerm.lv, GTerm.cells] at of
      simp (disch := omega) [k_spec_l3Tell, boxLV, frzLV, GTerm.cells, E, E2]
      refine onCall_gives (Gives.low of) (by simp) ?_
      rintro r ⟨hr, lo⟩
      cases hA : tellG s (ctx.map Prod.snd) a with
      | bad f p =>
        rw [hA] at hr
        simp only [ofR] at hr
        obtain ⟨hf, u1, u2, u4, n4', rfl⟩ := hr
        have hf0 : eqB f 0 = false := by rw [eqB_false]; exact hf
        rw [tell_bad0 (by rw [a0]; exact hA)]
        simp (disch := omega) [boxLV, frzLV, hf0]
        exact ⟨hf, false, false, false, n4', by simp⟩
      | ok x =>
        have hxg := ka.good x hA
        rw [hA] at hr
        simp only [ofR] at hr
        obtain ⟨u1, u2, u4, n4', rfl⟩ := hr
        have hx := okL_hd hxg.1
        have lx := okL_len hxg.1
        have hxi : idxLV 1 (L false x.ty) 0 = some (.rp [N (hd x.ty)]) := hd_idx hx.2.2.2.1
        by_cases q : hd x.ty = 0
        · have hq : eqB (hd x.ty) 0 = true := by rw [eqB_true]; exact q
          simp (disch := omega) [boxLV, frzLV, hz, hxi, hq, E, E2]
          have tk := l3Numbers_add hsy nlc ctx hm n nl1 gty nl2 a b x n4' hxg hA q kb.small (kb.tell nlc) kb.good
          simp only [GTerm.lv, GTerm.cells] at tk
          refine onCall_gives (Gives.low tk) (by simp) ?_
          rintro r ⟨hr, lo⟩
          cases hT : tellG s (ctx.map Prod.snd) (GTerm.mk 2 n nl1 gty nl2 [a, b]) with
          | ok z =>
            rw [hT] at hr
            obtain ⟨v1, v2, v4, m4, rfl⟩ := hr
            simp (disch := omega)
            exact ⟨v1, v2, v4, m4, by simp⟩
          | bad f p =>
            rw [hT] at hr
            obtain ⟨hf, v1, v2, v4, m4, rfl⟩ := hr
            simp (disch := omega)
            exact ⟨hf, v1, v2, v4, m4, by simp⟩
        · have hq : eqB (hd x.ty) 0 = false := by rw [eqB_false]; exact q
          have fo := fo_add (n := n) (i := 0) hxg.1
          rw [if_neg q] at fo
          rw [tell_fb0 (by rw [a0]; exact hA) (by rw [fo]; omega), fo]
          simp (disch := omega) [boxLV, frzLV, hz, hxi, hq, E, E2]
          refine onCall_gives (Gives.low (l3Bad_ok 2 (by omega))) (by simp) ?_
          rintro r ⟨⟨h3, w1, w2, w4, k4, rfl⟩, lo⟩
          simp (disch := omega)
          exact ⟨by omega, w1, w2, w4, k4, by simp⟩
    · obtain ⟨a, b, c, rfl⟩ := kids3 (by omega)
      have ka := kid 0 (by simp) [] (by simp [addsI]) (by simp) (by simp)
      simp only [List.nil_append, List.getElem_cons_zero] at ka
      have kb := kid 1 (by simp) [] (by simp [addsI]) (by simp) (by simp)
      simp only [List.nil_append, List.getElem_cons_succ, List.getElem_cons_zero] at kb
      have kc := kid 2 (by simp) [] (by simp [addsI]) (by simp) (by simp)
      simp only [List.nil_append, List.getElem_cons_succ, List.getElem_cons_zero] at kc
      have E : ∀ k : Int, k ≠ 3 → eqB 3 k = false := fun k h => by rw [eqB_false]; omega
      have E2 : eqB 3 3 = true := by rw [eqB_true]
      have a0 : addedP 3 gty 0 [] ++ ctx.map Prod.snd = ctx.map Prod.snd := by simp [addedP, addsI]
      have of := l3Of_ok s 3 n nl1 gty nl2 [a, b, c] 0 (by simp) nlc ctx _ (tellG_fine ka.small) (ka.tell nlc)
      simp only [GTerm.lv, GTerm.cells] at of
      simp (disch := omega) [k_spec_l3Tell, boxLV, frzLV, GTerm.cells, E, E2]
      refine onCall_gives (Gives.low of) (by simp) ?_
      rintro r ⟨hr, lo⟩
      cases hA : tellG s (ctx.map Prod.snd) a with
      | bad f p =>
        rw [hA] at hr
        simp only [ofR] at hr
        obtain ⟨hf, u1, u2, u4, n4', rfl⟩ := hr
        have hf0 : eqB f 0 = false := by rw [eqB_false]; exact hf
        rw [tell_bad0 (by rw [a0]; exact hA)]
        simp (disch := omega) [boxLV, frzLV, hf0]
        exact ⟨hf, false, false, false, n4', by simp⟩
      | ok x =>
        have hxg := ka.good x hA
        rw [hA] at hr
        simp only [ofR] at hr
        obtain ⟨u1, u2, u4, n4', rfl⟩ := hr
        have hx := okL_hd hxg.1
        have lx := okL_len hxg.1
        have hxi : idxLV 1 (L false x.ty) 0 = some (.rp [N (hd x.ty)]) := hd_idx hx.2.2.2.1
        by_cases q : hd x.ty = 0
        · have hq : eqB (hd x.ty) 0 = true := by rw [eqB_true]; exact q
          simp (disch := omega) [boxLV, frzLV, hz, hxi, hq, E, E2]
          have tk := l3Numbers_if hsy nlc ctx hm n nl1 gty nl2 a b c x n4' hxg hA q kb.small kc.small (kb.tell nlc) kb.good (kc.tell nlc) kc.good
          simp only [GTerm.lv, GTerm.cells] at tk
          refine onCall_gives (Gives.low tk) (by simp) ?_
          rintro r ⟨hr, lo⟩
          cases hT : tellG s (ctx.map Prod.snd) (GTerm.mk 3 n nl1 gty nl2 [a, b, c]) with
          | ok z =>
            rw [hT] at hr
            obtain ⟨v1, v2, v4, m4, rfl⟩ := hr
            simp (disch := omega)
            exact ⟨v1, v2, v4, m4, by simp⟩
          | bad f p =>
            rw [hT] at hr
            obtain ⟨hf, v1, v2, v4, m4, rfl⟩ := hr
            simp (disch := omega)
            exact ⟨hf, v1, v2, v4, m4, by simp⟩
        · have hq : eqB (hd x.ty) 0 = false := by rw [eqB_false]; exact q
          have fo := fo_if0 (n := n) hxg.1
          rw [if_neg q] at fo
          rw [tell_fb0 (by rw [a0]; exact hA) (by rw [fo]; omega), fo]
          simp (disch := omega) [boxLV, frzLV, hz, hxi, hq, E, E2]
          refine onCall_gives (Gives.low (l3Bad_ok 2 (by omega))) (by simp) ?_
          rintro r ⟨⟨h3, w1, w2, w4, k4, rfl⟩, lo⟩
          simp (disch := omega)
          exact ⟨by omega, w1, w2, w4, k4, by simp⟩
    · obtain ⟨a, b, rfl⟩ := kids2 (by omega)
      have ka := kid 0 (by simp) [] (by simp [addsI]) (by simp) (by simp)
      simp only [List.nil_append, List.getElem_cons_zero] at ka
      have kb := kid 1 (by simp) [] (by simp [addsI]) (by simp) (by simp)
      simp only [List.nil_append, List.getElem_cons_succ, List.getElem_cons_zero] at kb
      have E : ∀ k : Int, k ≠ 4 → eqB 4 k = false := fun k h => by rw [eqB_false]; omega
      have E2 : eqB 4 4 = true := by rw [eqB_true]
      have a0 : addedP 4 gty 0 [] ++ ctx.map Prod.snd = ctx.map Prod.snd := by simp [addedP, addsI]
      have of := l3Of_ok s 4 n nl1 gty nl2 [a, b] 0 (by simp) nlc ctx _ (tellG_fine ka.small) (ka.tell nlc)
      simp only [GTerm.lv, GTerm.cells] at of
      simp (disch := omega) [k_spec_l3Tell, boxLV, frzLV, GTerm.cells, E, E2]
      refine onCall_gives (Gives.low of) (by simp) ?_
      rintro r ⟨hr, lo⟩
      cases hA : tellG s (ctx.map Prod.snd) a with
      | bad f p =>
        rw [hA] at hr
        simp only [ofR] at hr
        obtain ⟨hf, u1, u2, u4, n4', rfl⟩ := hr
        have hf0 : eqB f 0 = false := by rw [eqB_false]; exact hf
        rw [tell_bad0 (by rw [a0]; exact hA)]
        simp (disch := omega) [boxLV, frzLV, hf0]
        exact ⟨hf, false, false, false, n4', by simp⟩
      | ok x =>
        have hxg := ka.good x hA
        rw [hA] at hr
        simp only [ofR] at hr
        obtain ⟨u1, u2, u4, n4', rfl⟩ := hr
        have hx := okL_hd hxg.1
        have lx := okL_len hxg.1
        have hxi : idxLV 1 (L false x.ty) 0 = some (.rp [N (hd x.ty)]) := hd_idx hx.2.2.2.1
        simp (disch := omega) [boxLV, frzLV, hz, hxi, E, E2]
        rw [tell_pair hA]
        have of2 := l3Of_ok s 4 n nl1 gty nl2 [a, b] 1 (by simp) nlc ctx _ (tellG_fine kb.small) (kb.tell nlc)
        simp only [GTerm.lv, GTerm.cells] at of2
        refine onCall_gives (Gives.low of2) (by simp) ?_
        rintro r ⟨hr, lo⟩
        cases hB : tellG s (ctx.map Prod.snd) b with
        | bad f p =>
          rw [hB] at hr
          simp only [ofR] at hr
          obtain ⟨hf, v1, v2, v4, m4', rfl⟩ := hr
          have hf0 : eqB f 0 = false := by rw [eqB_false]; exact hf
          simp (disch := omega) [boxLV, frzLV, hf0]
          exact ⟨hf, false, false, false, m4', by simp⟩
        | ok y =>
          have hyg := kb.good y hB
          rw [hB] at hr
          simp only [ofR] at hr
          obtain ⟨v1, v2, v4, m4', rfl⟩ := hr
          have ly := okL_len hyg.1
          have s1 := l3Sum_ok t false false x.needs 1 (GSys.G1 t) y.needs (by rw [hxg.2.1]; omega) (by rw [hxg.2.1, hyg.2.1]) hxg.2.2 hyg.2.2
          rw [zip_one hsy _ _ hyg.2.2] at s1
          obtain ⟨z, hzz⟩ : ∃ z, z = 1 :: (x.ty ++ y.ty) := ⟨_, rfl⟩
          have gl := l3Glue2_ok 1 false false false x.ty y.ty (by omega) (by omega)
          dsimp only
          rw [← hzz] at gl ⊢
          simp (disch := omega) [boxLV, frzLV, hz, chunks]
          refine onCall_eq gl (by simp) ?_
          simp (disch := omega)
          refine onCall_eq s1 (by simp) ?_
          simp (disch := omega)
          have dn := l3Done_ok z (sumP s x.needs y.needs)
          refine onCall_gives (Gives.low dn) (by simp) ?_
          rintro r ⟨hr, lo⟩
          have hl := told_long (ks := [x, y]) hr
          unfold longT at hl ⊢
          by_cases q9 : z.length ≤ 40
          · rw [if_pos q9] at hl ⊢
            obtain ⟨v1, v2, v4, m4, rfl⟩ := hl
            simp (disch := omega)
            exact ⟨v1, v2, v4, m4, by simp⟩
          · rw [if_neg q9] at hl ⊢
            obtain ⟨hf, v1, v2, v4, m4, rfl⟩ := hl
            simp (disch := omega)
            exact ⟨hf, v1, v2, v4, m4, by simp⟩
    · obtain ⟨a, b, rfl⟩ := kids2 (by omega)
      have ka := kid 0 (by simp) [] (by simp [addsI]) (by simp) (by simp)
      simp only [List.nil_append, List.getElem_cons_zero] at ka
      have E : ∀ k : Int, k ≠ 5 → eqB 5 k = false := fun k h => by rw [eqB_false]; omega
      have E2 : eqB 5 5 = true := by rw [eqB_true]
      have a0 : addedP 5 gty 0 [] ++ ctx.map Prod.snd = ctx.map Prod.snd := by simp [addedP, addsI]
      have of := l3Of_ok s 5 n nl1 gty nl2 [a, b] 0 (by simp) nlc ctx _ (tellG_fine ka.small) (ka.tell nlc)
      simp only [GTerm.lv, GTerm.cells] at of
      simp (disch := omega) [k_spec_l3Tell, boxLV, frzLV, GTerm.cells, E, E2]
      refine onCall_gives (Gives.low of) (by simp) ?_
      rintro r ⟨hr, lo⟩
      cases hA : tellG s (ctx.map Prod.snd) a with
      | bad f p =>
        rw [hA] at hr
        simp only [ofR] at hr
        obtain ⟨hf, u1, u2, u4, n4', rfl⟩ := hr
        have hf0 : eqB f 0 = false := by rw [eqB_false]; exact hf
        rw [tell_bad0 (by rw [a0]; exact hA)]
        simp (disch := omega) [boxLV, frzLV, hf0]
        exact ⟨hf, false, false, false, n4', by simp⟩
      | ok x =>
        have hxg := ka.good x hA
        rw [hA] at hr
        simp only [ofR] at hr
        obtain ⟨u1, u2, u4, n4', rfl⟩ := hr
        have hx := okL_hd hxg.1
        have lx := okL_len hxg.1
        have hxi : idxLV 1 (L false x.ty) 0 = some (.rp [N (hd x.ty)]) := hd_idx hx.2.2.2.1
        have kb : hd x.ty = 1 → KidT s ([(false, part1 x.ty), (false, part0 x.ty)] ++ ctx) b := fun q => by
          have two := okL_two hxg.1 (by rw [q]; exact kids_pair.1)
          have := kid 1 (by simp) [(false, part1 x.ty), (false, part0 x.ty)] (by simp [addsI]) (by simp [two.2.1, two.2.2]) (by simp)
          simpa using this
        have hgn := hgr (by simp [hasB, eqB_true])
        simp (disch := omega) [boxLV, frzLV, hz, hxi, E, E2]
        have tk := l3Taken_split hsy nlc ctx hm n nl1 gty nl2 a b x n4' hgn hxg hA (by have := size_kid (ks := [a, b]) (i := 1) (by simp); simp at this; omega) (fun q => (kb q).tell false) (fun q y hy => (kb q).good y hy)
        simp only [GTerm.lv, GTerm.cells] at tk
        refine onCall_gives (Gives.low tk) (by simp) ?_
        rintro r ⟨hr, lo⟩
        cases hT : tellG s (ctx.map Prod.snd) (GTerm.mk 5 n nl1 gty nl2 [a, b]) with
        | ok z =>
          rw [hT] at hr
          obtain ⟨v1, v2, v4, m4, rfl⟩ := hr
          simp (disch := omega)
          exact ⟨v1, v2, v4, m4, by simp⟩
        | bad f p =>
          rw [hT] at hr
          obtain ⟨hf, v1, v2, v4, m4, rfl⟩ := hr
          simp (disch := omega)
          exact ⟨hf, v1, v2, v4, m4, by simp⟩
    · obtain ⟨a, rfl⟩ := kids1 (by omega)
      have ka := kid 0 (by simp) [] (by simp [addsI]) (by simp) (by simp)
      simp only [List.nil_append, List.getElem_cons_zero] at ka
      have E : ∀ k : Int, k ≠ 6 → eqB 6 k = false := fun k h => by rw [eqB_false]; omega
      have E2 : eqB 6 6 = true := by rw [eqB_true]
      have a0 : addedP 6 gty 0 [] ++ ctx.map Prod.snd = ctx.map Prod.snd := by simp [addedP, addsI]
      have of := l3Of_ok s 6 n nl1 gty nl2 [a] 0 (by simp) nlc ctx _ (tellG_fine ka.small) (ka.tell nlc)
      simp only [GTerm.lv, GTerm.cells] at of
      simp (disch := omega) [k_spec_l3Tell, boxLV, frzLV, GTerm.cells, E, E2]
      refine onCall_gives (Gives.low of) (by simp) ?_
      rintro r ⟨hr, lo⟩
      cases hA : tellG s (ctx.map Prod.snd) a with
      | bad f p =>
        rw [hA] at hr
        simp only [ofR] at hr
        obtain ⟨hf, u1, u2, u4, n4', rfl⟩ := hr
        have hf0 : eqB f 0 = false := by rw [eqB_false]; exact hf
        rw [tell_bad0 (by rw [a0]; exact hA)]
        simp (disch := omega) [boxLV, frzLV, hf0]
        exact ⟨hf, false, false, false, n4', by simp⟩
      | ok x =>
        have hxg := ka.good x hA
        rw [hA] at hr
        simp only [ofR] at hr
        obtain ⟨u1, u2, u4, n4', rfl⟩ := hr
        have hx := okL_hd hxg.1
        have lx := okL_len hxg.1
        have hxi : idxLV 1 (L false x.ty) 0 = some (.rp [N (hd x.ty)]) := hd_idx hx.2.2.2.1
        have hgt := hty (by simp [typedB, eqB_true])
        have lg := okL_len hgt
        rw [tell_left hA]
        obtain ⟨z, hzz⟩ : ∃ z, z = 2 :: (x.ty ++ gty) := ⟨_, rfl⟩
        have gl := l3Glue2_ok 2 false false nl1 x.ty gty (by omega) (by omega)
        rw [← hzz] at gl ⊢
        simp (disch := omega) [boxLV, frzLV, hz, hxi, E, E2, chunks]
        refine onCall_eq gl (by simp) ?_
        simp (disch := omega)
        have dn := l3Done_ok z x.needs
        refine onCall_gives (Gives.low dn) (by simp) ?_
        rintro r ⟨hr, lo⟩
        have hl := told_long (ks := [x]) hr
        unfold longT at hl ⊢
        by_cases q9 : z.length ≤ 40
        · rw [if_pos q9] at hl ⊢
          obtain ⟨v1, v2, v4, m4, rfl⟩ := hl
          simp (disch := omega)
          exact ⟨v1, v2, v4, m4, by simp⟩
        · rw [if_neg q9] at hl ⊢
          obtain ⟨hf, v1, v2, v4, m4, rfl⟩ := hl
          simp (disch := omega)
          exact ⟨hf, v1, v2, v4, m4, by simp⟩
    · obtain ⟨a, rfl⟩ := kids1 (by omega)
      have ka := kid 0 (by simp) [] (by simp [addsI]) (by simp) (by simp)
      simp only [List.nil_append, List.getElem_cons_zero] at ka
      have E : ∀ k : Int, k ≠ 7 → eqB 7 k = false := fun k h => by rw [eqB_false]; omega
      have E2 : eqB 7 7 = true := by rw [eqB_true]
      have a0 : addedP 7 gty 0 [] ++ ctx.map Prod.snd = ctx.map Prod.snd := by simp [addedP, addsI]
      have of := l3Of_ok s 7 n nl1 gty nl2 [a] 0 (by simp) nlc ctx _ (tellG_fine ka.small) (ka.tell nlc)
      simp only [GTerm.lv, GTerm.cells] at of
      simp (disch := omega) [k_spec_l3Tell, boxLV, frzLV, GTerm.cells, E, E2]
      refine onCall_gives (Gives.low of) (by simp) ?_
      rintro r ⟨hr, lo⟩
      cases hA : tellG s (ctx.map Prod.snd) a with
      | bad f p =>
        rw [hA] at hr
        simp only [ofR] at hr
        obtain ⟨hf, u1, u2, u4, n4', rfl⟩ := hr
        have hf0 : eqB f 0 = false := by rw [eqB_false]; exact hf
        rw [tell_bad0 (by rw [a0]; exact hA)]
        simp (disch := omega) [boxLV, frzLV, hf0]
        exact ⟨hf, false, false, false, n4', by simp⟩
      | ok x =>
        have hxg := ka.good x hA
        rw [hA] at hr
        simp only [ofR] at hr
        obtain ⟨u1, u2, u4, n4', rfl⟩ := hr
        have hx := okL_hd hxg.1
        have lx := okL_len hxg.1
        have hxi : idxLV 1 (L false x.ty) 0 = some (.rp [N (hd x.ty)]) := hd_idx hx.2.2.2.1
        have hgt := hty (by simp [typedB, eqB_true])
        have lg := okL_len hgt
        rw [tell_right hA]
        obtain ⟨z, hzz⟩ : ∃ z, z = 2 :: (gty ++ x.ty) := ⟨_, rfl⟩
        have gl := l3Glue2_ok 2 false nl1 false gty x.ty (by omega) (by omega)
        rw [← hzz] at gl ⊢
        simp (disch := omega) [boxLV, frzLV, hz, hxi, E, E2, chunks]
        refine onCall_eq gl (by simp) ?_
        simp (disch := omega)
        have dn := l3Done_ok z x.needs
        refine onCall_gives (Gives.low dn) (by simp) ?_
        rintro r ⟨hr, lo⟩
        have hl := told_long (ks := [x]) hr
        unfold longT at hl ⊢
        by_cases q9 : z.length ≤ 40
        · rw [if_pos q9] at hl ⊢
          obtain ⟨v1, v2, v4, m4, rfl⟩ := hl
          simp (disch := omega)
          exact ⟨v1, v2, v4, m4, by simp⟩
        · rw [if_neg q9] at hl ⊢
          obtain ⟨hf, v1, v2, v4, m4, rfl⟩ := hl
          simp (disch := omega)
          exact ⟨hf, v1, v2, v4, m4, by simp⟩
    · obtain ⟨a, b, c, rfl⟩ := kids3 (by omega)
      have ka := kid 0 (by simp) [] (by simp [addsI]) (by simp) (by simp)
      simp only [List.nil_append, List.getElem_cons_zero] at ka
      have E : ∀ k : Int, k ≠ 8 → eqB 8 k = false := fun k h => by rw [eqB_false]; omega
      have E2 : eqB 8 8 = true := by rw [eqB_true]
      have a0 : addedP 8 gty 0 [] ++ ctx.map Prod.snd = ctx.map Prod.snd := by simp [addedP, addsI]
      have of := l3Of_ok s 8 n nl1 gty nl2 [a, b, c] 0 (by simp) nlc ctx _ (tellG_fine ka.small) (ka.tell nlc)
      simp only [GTerm.lv, GTerm.cells] at of
      simp (disch := omega) [k_spec_l3Tell, boxLV, frzLV, GTerm.cells, E, E2]
      refine onCall_gives (Gives.low of) (by simp) ?_
      rintro r ⟨hr, lo⟩
      cases hA : tellG s (ctx.map Prod.snd) a with
      | bad f p =>
        rw [hA] at hr
        simp only [ofR] at hr
        obtain ⟨hf, u1, u2, u4, n4', rfl⟩ := hr
        have hf0 : eqB f 0 = false := by rw [eqB_false]; exact hf
        rw [tell_bad0 (by rw [a0]; exact hA)]
        simp (disch := omega) [boxLV, frzLV, hf0]
        exact ⟨hf, false, false, false, n4', by simp⟩
      | ok x =>
        have hxg := ka.good x hA
        rw [hA] at hr
        simp only [ofR] at hr
        obtain ⟨u1, u2, u4, n4', rfl⟩ := hr
        have hx := okL_hd hxg.1
        have lx := okL_len hxg.1
        have hxi : idxLV 1 (L false x.ty) 0 = some (.rp [N (hd x.ty)]) := hd_idx hx.2.2.2.1
        have kb : hd x.ty = 2 → KidT s ([(false, part0 x.ty)] ++ ctx) b := fun q => by
          have two := okL_two hxg.1 (by rw [q]; exact kids_pair.2)
          have := kid 1 (by simp) [(false, part0 x.ty)] (by simp [addsI]) (by simp [two.2.1, two.2.2]) (by simp)
          simpa using this
        have kc : hd x.ty = 2 → KidT s ([(false, part1 x.ty)] ++ ctx) c := fun q => by
          have two := okL_two hxg.1 (by rw [q]; exact kids_pair.2)
          have := kid 2 (by simp) [(false, part1 x.ty)] (by simp [addsI]) (by simp [two.2.1, two.2.2]) (by simp)
          simpa using this
        have hgn := hgr (by simp [hasB, eqB_true])
        simp (disch := omega) [boxLV, frzLV, hz, hxi, E, E2]
        have tk := l3Taken_case hsy nlc ctx hm n nl1 gty nl2 a b c x n4' hgn hxg hA (by have := size_kid (ks := [a, b, c]) (i := 1) (by simp); simp at this; omega) (by have := size_kid (ks := [a, b, c]) (i := 2) (by simp); simp at this; omega) (fun q => (kb q).tell false) (fun q y hy => (kb q).good y hy) (fun q => (kc q).tell false) (fun q y hy => (kc q).good y hy)
        simp only [GTerm.lv, GTerm.cells] at tk
        refine onCall_gives (Gives.low tk) (by simp) ?_
        rintro r ⟨hr, lo⟩
        cases hT : tellG s (ctx.map Prod.snd) (GTerm.mk 8 n nl1 gty nl2 [a, b, c]) with
        | ok z =>
          rw [hT] at hr
          obtain ⟨v1, v2, v4, m4, rfl⟩ := hr
          simp (disch := omega)
          exact ⟨v1, v2, v4, m4, by simp⟩
        | bad f p =>
          rw [hT] at hr
          obtain ⟨hf, v1, v2, v4, m4, rfl⟩ := hr
          simp (disch := omega)
          exact ⟨hf, v1, v2, v4, m4, by simp⟩
    · obtain ⟨a, rfl⟩ := kids1 (by omega)
      have hgt := hty (by simp [typedB, eqB_true])
      have lg := okL_len hgt
      have hn1 : nl1 = false := by
        cases hn : nl1 with
        | false => rfl
        | true => have := fl1 hn; subst this; simp at lg
      subst hn1
      have hgn := hgr (by simp [hasB, eqB_true])
      have ka : KidT s ([(false, gty)] ++ ctx) a := by
        have := kid 0 (by simp) [(false, gty)] (by simp [addsI]) (by simp [hgt]) (by simp)
        simpa using this
      have E : ∀ k : Int, k ≠ 9 → eqB 9 k = false := fun k h => by rw [eqB_false]; omega
      have E2 : eqB 9 9 = true := by rw [eqB_true]
      have a0 : addedP 9 gty 0 [] ++ ctx.map Prod.snd = gty :: ctx.map Prod.snd := by simp [addedP]
      have of := l3Of_ok s 9 n false gty nl2 [a] 0 (by simp) false ((false, gty) :: ctx) _ (tellG_fine ka.small) (ka.tell false)
      have w := l3With_ok nlc false ctx [(false, gty)] (by omega) (by simp)
      simp only [GTerm.lv, GTerm.cells, List.map_cons, List.map_nil, List.cons_append, List.nil_append] at of w
      simp (disch := omega) [k_spec_l3Tell, boxLV, frzLV, GTerm.cells, E, E2, chunks]
      refine onCall_eq w (by simp) ?_
      simp (disch := omega) [E, E2]
      refine onCall_gives (Gives.low of) (by simp) ?_
      rintro r ⟨hr, lo⟩
      cases hA : tellG s (gty :: ctx.map Prod.snd) a with
      | bad f p =>
        rw [hA] at hr
        simp only [ofR] at hr
        obtain ⟨hf, u1, u2, u4, n4', rfl⟩ := hr
        have hf0 : eqB f 0 = false := by rw [eqB_false]; exact hf
        rw [tell_bad0 (by rw [a0]; exact hA)]
        simp (disch := omega) [boxLV, frzLV, hf0]
        exact ⟨hf, false, false, false, n4', by simp⟩
      | ok x =>
        have hxg := ka.good x hA
        rw [hA] at hr
        simp only [ofR] at hr
        obtain ⟨u1, u2, u4, n4', rfl⟩ := hr
        have lx := okL_len hxg.1
        have hxl : x.needs.length = ctx.length + 1 := by have := hxg.2.1; simpa using this
        have c2 : cutLV 1 (L false x.needs) (some 1) none none = some (L false (x.needs.drop 1)) := cut_drop (k := 1) (by omega)
        have i0 : idxLV 1 (L false x.needs) 0 = some (.rp [N (x.needs.getD 0 0)]) := idx_n (i := 0) (by omega)
        have g0 := getD_G hxg.2.2 (show 0 < x.needs.length by omega)
        have cp := l1Copy_ok false (x.needs.drop 1) (by simp; omega)
        have us := used1 (s := s) (l := x.needs) (g := n) (by omega)
        rw [tell_fun hA, us]
        generalize x.needs.getD 0 0 = y0 at *
        obtain ⟨yr, hyr⟩ : ∃ yr, yr = x.needs.drop 1 := ⟨_, rfl⟩
        rw [← hyr] at c2 cp ⊢
        obtain ⟨z, hzz⟩ : ∃ z, z = (3 + n) :: (gty ++ x.ty) := ⟨_, rfl⟩
        have gl := l3Glue2_ok (3 + n) false false false gty x.ty (by omega) (by omega)
        rw [← hzz] at gl ⊢
        have wr : IntKind.i64.wrap (3 + n) = 3 + n := i64_wrap (by have := hgn.1; have := hgn.2; omega)
        simp (disch := omega) [boxLV, frzLV, hz, E, E2, i0]
        refine onCall_eq (l1Le_ok t g0 hgn) (by simp) ?_
        cases hu : s.le y0 n
        · simp (disch := omega)
          refine onCall_gives (Gives.low (l3Bad_ok 9 (by omega))) (by simp) ?_
          rintro r ⟨⟨h3, w1, w2, w4, k4, rfl⟩, lo⟩
          simp (disch := omega)
          exact ⟨by omega, w1, w2, w4, k4, by simp⟩
        · simp (disch := omega) [chunks, wr, c2]
          refine onCall_eq gl (by simp) ?_
          simp (disch := omega) [c2]
          refine onCall_eq cp (by simp) ?_
          simp (disch := omega)
          have dn := l3Done_ok z yr
          refine onCall_gives (Gives.low dn) (by simp) ?_
          rintro r ⟨hr, lo⟩
          have hl := told_long (ks := [x]) hr
          unfold longT at hl ⊢
          by_cases q9 : z.length ≤ 40
          · rw [if_pos q9] at hl ⊢
            obtain ⟨v1, v2, v4, m4, rfl⟩ := hl
            simp (disch := omega)
            exact ⟨v1, v2, v4, m4, by simp⟩
          · rw [if_neg q9] at hl ⊢
            obtain ⟨hf, v1, v2, v4, m4, rfl⟩ := hl
            simp (disch := omega)
            exact ⟨hf, v1, v2, v4, m4, by simp⟩
    · obtain ⟨a, b, rfl⟩ := kids2 (by omega)
      have ka := kid 0 (by simp) [] (by simp [addsI]) (by simp) (by simp)
      simp only [List.nil_append, List.getElem_cons_zero] at ka
      have kb := kid 1 (by simp) [] (by simp [addsI]) (by simp) (by simp)
      simp only [List.nil_append, List.getElem_cons_succ, List.getElem_cons_zero] at kb
      have E : ∀ k : Int, k ≠ 10 → eqB 10 k = false := fun k h => by rw [eqB_false]; omega
      have E2 : eqB 10 10 = true := by rw [eqB_true]
      have a0 : addedP 10 gty 0 [] ++ ctx.map Prod.snd = ctx.map Prod.snd := by simp [addedP, addsI]
      have of := l3Of_ok s 10 n nl1 gty nl2 [a, b] 0 (by simp) nlc ctx _ (tellG_fine ka.small) (ka.tell nlc)
      simp only [GTerm.lv, GTerm.cells] at of
      simp (disch := omega) [k_spec_l3Tell, boxLV, frzLV, GTerm.cells, E, E2]
      refine onCall_gives (Gives.low of) (by simp) ?_
      rintro r ⟨hr, lo⟩
      cases hA : tellG s (ctx.map Prod.snd) a with
      | bad f p =>
        rw [hA] at hr
        simp only [ofR] at hr
        obtain ⟨hf, u1, u2, u4, n4', rfl⟩ := hr
        have hf0 : eqB f 0 = false := by rw [eqB_false]; exact hf
        rw [tell_bad0 (by rw [a0]; exact hA)]
        simp (disch := omega) [boxLV, frzLV, hf0]
        exact ⟨hf, false, false, false, n4', by simp⟩
      | ok x =>
        have hxg := ka.good x hA
        rw [hA] at hr
        simp only [ofR] at hr
        obtain ⟨u1, u2, u4, n4', rfl⟩ := hr
        have hx := okL_hd hxg.1
        have lx := okL_len hxg.1
        have hxi : idxLV 1 (L false x.ty) 0 = some (.rp [N (hd x.ty)]) := hd_idx hx.2.2.2.1
        rw [tell_app hA hxg.1]
        simp (disch := omega) [boxLV, frzLV, hz, hxi, E, E2]
        refine onCall_eq (arrow_ok (hd x.ty)) (by simp) ?_
        cases q : isArrow (hd x.ty)
        · simp (disch := omega)
          refine onCall_gives (Gives.low (l3Bad_ok 6 (by omega))) (by simp) ?_
          rintro r ⟨⟨h3, w1, w2, w4, k4, rfl⟩, lo⟩
          simp (disch := omega)
          exact ⟨by omega, w1, w2, w4, k4, by simp⟩
        · simp (disch := omega)
          have of2 := l3Of_ok s 10 n nl1 gty nl2 [a, b] 1 (by simp) nlc ctx _ (tellG_fine kb.small) (kb.tell nlc)
          simp only [GTerm.lv, GTerm.cells] at of2
          refine onCall_gives (Gives.low of2) (by simp) ?_
          rintro r ⟨hr, lo⟩
          cases hB : tellG s (ctx.map Prod.snd) b with
          | bad f p =>
            rw [hB] at hr
            simp only [ofR] at hr
            obtain ⟨hf, v1, v2, v4, m4', rfl⟩ := hr
            have hf0 : eqB f 0 = false := by rw [eqB_false]; exact hf
            simp (disch := omega) [boxLV, frzLV, hf0]
            exact ⟨hf, false, false, false, m4', by simp⟩
          | ok y =>
            have hyg := kb.good y hB
            rw [hB] at hr
            simp only [ofR] at hr
            obtain ⟨v1, v2, v4, m4', rfl⟩ := hr
            have ly := okL_len hyg.1
            have s1 := l3Sum_ok t false false x.needs 1 (GSys.G1 t) y.needs (by rw [hxg.2.1]; omega) (by rw [hxg.2.1, hyg.2.1]) hxg.2.2 hyg.2.2
            rw [zip_one hsy _ _ hyg.2.2] at s1
            have hk := kids_arr q
            have p0 := l2Part_ok hxg.1 0 (.inr hk)
            have p1 := l2Part_ok hxg.1 1 (.inr hk)
            have hsg : (shapeOf (hd x.ty)).2 = gradeI (hd x.ty) := (shape_iff hx.2.1 hx.2.2.1).2.2.2.2.2 (.inl q)
            have hgG : s.G (gradeI (hd x.ty)) := okC_grade hx.1 (.inl q)
            simp (disch := omega) [boxLV, frzLV, hz, chunks]
            refine onCall_eq p0 (by simp) ?_
            simp (disch := omega)
            refine onCall_eq (l1Same_ok false false y.ty (part0 x.ty) (by omega)) (by simp) ?_
            cases he : (y.ty == part0 x.ty)
            · have he' : y.ty ≠ part0 x.ty := by simpa using he
              simp (disch := omega)
              refine onCall_gives (Gives.low (l3Bad_ok 3 (by omega))) (by simp) ?_
              rintro r ⟨⟨h3, w1, w2, w4, k4, rfl⟩, lo⟩
              simp (disch := omega) [he']
              exact ⟨by omega, w1, w2, w4, k4, by simp⟩
            · have he' : y.ty = part0 x.ty := by simpa using he
              simp (disch := omega)
              refine onCall_eq p1 (by simp) ?_
              simp (disch := omega) [hxi]
              refine onCall_eq (grade_ok (hd x.ty) (by unfold I64; omega) hx.2.1) (by simp) ?_
              simp (disch := omega)
              have s3 := l3Sum_ok t false false x.needs (gradeI (hd x.ty)) hgG y.needs (by rw [hxg.2.1]; omega) (by rw [hxg.2.1, hyg.2.1]) hxg.2.2 hyg.2.2
              rw [zip_scaled] at s3
              refine onCall_eq s3 (by simp) ?_
              simp (disch := omega) [he', hsg]
              exact ⟨true, true, true, true, by simp⟩
    · obtain ⟨a, rfl⟩ := kids1 (by omega)
      have ka := kid 0 (by simp) [] (by simp [addsI]) (by simp) (by simp)
      simp only [List.nil_append, List.getElem_cons_zero] at ka
      have E : ∀ k : Int, k ≠ 11 → eqB 11 k = false := fun k h => by rw [eqB_false]; omega
      have E2 : eqB 11 11 = true := by rw [eqB_true]
      have a0 : addedP 11 gty 0 [] ++ ctx.map Prod.snd = ctx.map Prod.snd := by simp [addedP, addsI]
      have of := l3Of_ok s 11 n nl1 gty nl2 [a] 0 (by simp) nlc ctx _ (tellG_fine ka.small) (ka.tell nlc)
      simp only [GTerm.lv, GTerm.cells] at of
      simp (disch := omega) [k_spec_l3Tell, boxLV, frzLV, GTerm.cells, E, E2]
      refine onCall_gives (Gives.low of) (by simp) ?_
      rintro r ⟨hr, lo⟩
      cases hA : tellG s (ctx.map Prod.snd) a with
      | bad f p =>
        rw [hA] at hr
        simp only [ofR] at hr
        obtain ⟨hf, u1, u2, u4, n4', rfl⟩ := hr
        have hf0 : eqB f 0 = false := by rw [eqB_false]; exact hf
        rw [tell_bad0 (by rw [a0]; exact hA)]
        simp (disch := omega) [boxLV, frzLV, hf0]
        exact ⟨hf, false, false, false, n4', by simp⟩
      | ok x =>
        have hxg := ka.good x hA
        rw [hA] at hr
        simp only [ofR] at hr
        obtain ⟨u1, u2, u4, n4', rfl⟩ := hr
        have hx := okL_hd hxg.1
        have lx := okL_len hxg.1
        have hxi : idxLV 1 (L false x.ty) 0 = some (.rp [N (hd x.ty)]) := hd_idx hx.2.2.2.1
        have hgn := hgr (by simp [hasB, eqB_true])
        rw [tell_box hA]
        obtain ⟨z, hzz⟩ : ∃ z, z = (19 + n) :: x.ty := ⟨_, rfl⟩
        have gl := l3Glue1_ok (19 + n) false false x.ty (by omega)
        rw [← hzz] at gl ⊢
        have zr := l3Zero_ok ctx.length (by omega)
        have sc := l3Sum_ok t false false (zeros ctx.length) n hgn x.needs (by simp [zeros]; omega) (by rw [hxg.2.1]; simp [zeros]) (zeros_ok t _).2 hxg.2.2
        have e1 := zip_zero hsy n x.needs
        rw [hxg.2.1] at e1
        rw [e1] at sc
        have wr : IntKind.i64.wrap (19 + n) = 19 + n := i64_wrap (by have := hgn.1; have := hgn.2; omega)
        simp (disch := omega) [boxLV, frzLV, hz, hxi, E, E2, chunks, wr]
        refine onCall_eq gl (by simp) ?_
        simp (disch := omega)
        refine onCall_eq zr (by simp) ?_
        simp (disch := omega)
        refine onCall_eq sc (by simp) ?_
        simp (disch := omega)
        have dn := l3Done_ok z (scaledP s n x.needs)
        refine onCall_gives (Gives.low dn) (by simp) ?_
        rintro r ⟨hr, lo⟩
        have hl := told_long (ks := [x]) hr
        unfold longT at hl ⊢
        by_cases q9 : z.length ≤ 40
        · rw [if_pos q9] at hl ⊢
          obtain ⟨v1, v2, v4, m4, rfl⟩ := hl
          simp (disch := omega)
          exact ⟨v1, v2, v4, m4, by simp⟩
        · rw [if_neg q9] at hl ⊢
          obtain ⟨hf, v1, v2, v4, m4, rfl⟩ := hl
          simp (disch := omega)
          exact ⟨hf, v1, v2, v4, m4, by simp⟩
    · obtain ⟨a, b, rfl⟩ := kids2 (by omega)
      have ka := kid 0 (by simp) [] (by simp [addsI]) (by simp) (by simp)
      simp only [List.nil_append, List.getElem_cons_zero] at ka
      have E : ∀ k : Int, k ≠ 12 → eqB 12 k = false := fun k h => by rw [eqB_false]; omega
      have E2 : eqB 12 12 = true := by rw [eqB_true]
      have a0 : addedP 12 gty 0 [] ++ ctx.map Prod.snd = ctx.map Prod.snd := by simp [addedP, addsI]
      have of := l3Of_ok s 12 n nl1 gty nl2 [a, b] 0 (by simp) nlc ctx _ (tellG_fine ka.small) (ka.tell nlc)
      simp only [GTerm.lv, GTerm.cells] at of
      simp (disch := omega) [k_spec_l3Tell, boxLV, frzLV, GTerm.cells, E, E2]
      refine onCall_gives (Gives.low of) (by simp) ?_
      rintro r ⟨hr, lo⟩
      cases hA : tellG s (ctx.map Prod.snd) a with
      | bad f p =>
        rw [hA] at hr
        simp only [ofR] at hr
        obtain ⟨hf, u1, u2, u4, n4', rfl⟩ := hr
        have hf0 : eqB f 0 = false := by rw [eqB_false]; exact hf
        rw [tell_bad0 (by rw [a0]; exact hA)]
        simp (disch := omega) [boxLV, frzLV, hf0]
        exact ⟨hf, false, false, false, n4', by simp⟩
      | ok x =>
        have hxg := ka.good x hA
        rw [hA] at hr
        simp only [ofR] at hr
        obtain ⟨u1, u2, u4, n4', rfl⟩ := hr
        have hx := okL_hd hxg.1
        have lx := okL_len hxg.1
        have hxi : idxLV 1 (L false x.ty) 0 = some (.rp [N (hd x.ty)]) := hd_idx hx.2.2.2.1
        have kb : isBox (hd x.ty) = true → KidT s ([(false, part0 x.ty)] ++ ctx) b := fun q => by
          have two := okL_one hxg.1 (kids_bx q)
          have := kid 1 (by simp) [(false, part0 x.ty)] (by simp [addsI]) (by simp [two.2.2]) (by simp)
          simpa using this
        have hgn := hgr (by simp [hasB, eqB_true])
        simp (disch := omega) [boxLV, frzLV, hz, hxi, E, E2]
        have tk := l3Taken_open hsy nlc ctx hm n nl1 gty nl2 a b x n4' hgn hxg hA (by have := size_kid (ks := [a, b]) (i := 1) (by simp); simp at this; omega) (fun q => (kb q).tell false) (fun q y hy => (kb q).good y hy)
        simp only [GTerm.lv, GTerm.cells] at tk
        refine onCall_gives (Gives.low tk) (by simp) ?_
        rintro r ⟨hr, lo⟩
        cases hT : tellG s (ctx.map Prod.snd) (GTerm.mk 12 n nl1 gty nl2 [a, b]) with
        | ok z =>
          rw [hT] at hr
          obtain ⟨v1, v2, v4, m4, rfl⟩ := hr
          simp (disch := omega)
          exact ⟨v1, v2, v4, m4, by simp⟩
        | bad f p =>
          rw [hT] at hr
          obtain ⟨hf, v1, v2, v4, m4, rfl⟩ := hr
          simp (disch := omega)
          exact ⟨hf, v1, v2, v4, m4, by simp⟩
end Go.Proofs.YtclfngbealdbgaaGreat
namespace Go.Proofs.YtclfngbealdbgaaGreat
open Go Go.TL
open Go.Proofs.YtclfngbealdbgaaGreat.Ty
set_option linter.unusedSimpArgs false
set_option linter.unusedVariables false
set_option maxRecDepth 20000
set_option maxHeartbeats 4000000
theorem specIsTerm_ok {s : GSys} (hsw : s.wf) (g : GTerm) (hw : g.wf) (n : Int) (hn : I64 n) : Gives Tryz.prog n_spec_IsTerm [s.lv, g.lv, N n] (· = B (s.sys && g.termB s.size n)) := by
  refine Gives.of_codeOf c_spec_IsTerm mixed (by simp) ⟨_, rfl, by simp⟩ ?_
  simp (disch := omega) [k_spec_IsTerm, boxLV, frzLV]
  refine onCall_eq (specIsSystem_ok s hsw) (by simp) ?_
  cases hs : s.sys
  · simp (disch := omega)
  · have t := GSys.sys_of hs
    have h2 := t.lo; have h16 := t.hi
    simp (disch := omega)
    refine onCall_eq (in_ok n 0 8) (by simp) ?_
    cases hr : within n 0 8
    · simp (disch := omega) [GTerm.termB, hr]
    · rw [within_true] at hr
      have hr' : within n 0 8 = true := by rw [within_true]; exact hr
      have hl := l2Left_ok g.size g (by omega) hw 400 (by omega) (by omega)
      have h2' : leB 0 (leftI g.size 400) = decide (g.size ≤ 400) := by
        rw [Bool.eq_iff_iff]
        simp only [ltB_true, ltB_false, leB_true, leB_false, eqB_true, eqB_false, Bool.not_true, Bool.not_false, leftI, decide_eq_true_eq]
        split <;> omega
      simp (disch := omega)
      refine onCall_eq hl (by simp) ?_
      by_cases hsz : g.size ≤ 400
      · have hI : I64 s.size := ⟨by omega, by omega⟩
        have hf := l2Term_ok s.size true hI g.size g (by omega) hw n (by omega) (by omega)
        simp (disch := omega) [h2', hsz]
        refine onCall_eq hf (by simp) ?_
        simp (disch := omega) [GTerm.termB, hr', hsz]
      · simp (disch := omega) [h2', hsz, GTerm.termB]
theorem l3Input_ok {s : GSys} {ctx : GCtx} {g : GTerm} (a : Arg s ctx g) (nlc : Bool) : Gives Tryz.prog n_spec_l3Input [s.lv, LC nlc ctx, g.lv] (· = B (inB s ctx g)) := by
  refine Gives.of_codeOf c_spec_l3Input mixed (by simp) ⟨_, rfl, by simp⟩ ?_
  simp (disch := omega) [k_spec_l3Input, boxLV, frzLV]
  refine onCall_eq (specIsSystem_ok s a.sw) (by simp) ?_
  cases hs : s.sys
  · simp (disch := omega) [inB, hs]
  · have t := GSys.sys_of hs
    simp (disch := omega)
    refine onCall_eq (l3Context_ok s t nlc ctx a.cw) (by simp) ?_
    cases hc : ctxB s.size ctx
    · simp (disch := omega) [inB, hs, hc]
    · simp (disch := omega)
      have it := specIsTerm_ok a.sw g a.gw ctx.length (wf_I64len a.cw)
      rw [hs] at it
      refine onCall_eq it (by simp) ?_
      simp (disch := omega) [inB, hs, hc]
def told3s (x : Option TT) (r : LV) : Prop := match x with
  | some x => ∃ u1 u2, r = .tup [OU u1 false x.ty, OU u2 false x.needs, B true]
  | none => ∃ u1 u2, r = .tup [.sl u1 true 1 [], .sl u2 true 1 [], B false]
theorem specTypeOf_ok {s : GSys} {ctx : GCtx} {g : GTerm} (a : Arg s ctx g) (nlc : Bool) : Gives Tryz.prog n_spec_TypeOf [s.lv, LC nlc ctx, g.lv] (told3s (tellO s ctx g)) := by
  refine Gives.of_codeOf c_spec_TypeOf mixed (by simp) ?_ ?_
  · cases h : tellO s ctx g with
    | some x => exact ⟨.tup [OU true false x.ty, OU true false x.needs, B true], ⟨true, true, rfl⟩, by simp⟩
    | none => exact ⟨.tup [.sl false true 1 [], .sl false true 1 [], B false], ⟨false, false, rfl⟩, by simp⟩
  simp (disch := omega) [k_spec_TypeOf, boxLV, frzLV]
  refine onCall_eq (l3Input_ok a nlc) (by simp) ?_
  cases hin : inB s ctx g
  · have hx : tellO s ctx g = none := by simp [tellO, hin]
    rw [hx]
    simp (disch := omega) [told3s]
  · have hin' := hin
    unfold inB at hin'
    simp only [Bool.and_eq_true] at hin'
    obtain ⟨hs, hc, ht⟩ := hin'
    obtain ⟨f1, f2, f3⟩ := a.flags hc
    unfold GTerm.termB at ht
    simp only [Bool.and_eq_true, decide_eq_true_eq] at ht
    have tl := l3Tell_ok hs g.size g nlc ctx (Nat.le_refl _) a.gw a.gf f1 f2 (by omega) ht.2.2
    simp (disch := omega)
    refine onCall_gives (Gives.low tl) (by simp) ?_
    rintro r ⟨hr, lo⟩
    cases hT : tellG s (ctx.map Prod.snd) g with
    | ok x =>
      have hx : tellO s ctx g = some x := by simp [tellO, hin, hT]
      rw [hT] at hr
      obtain ⟨u1, u2, u4, n4, rfl⟩ := hr
      have hz : eqB 0 0 = true := by rw [eqB_true]
      rw [hx]
      simp (disch := omega) [boxLV, frzLV, hz, told3s]
    | bad f p =>
      have hx : tellO s ctx g = none := by simp [tellO, hin, hT]
      rw [hT] at hr
      obtain ⟨hf, u1, u2, u4, n4, rfl⟩ := hr
      have hf0 : eqB f 0 = false := by rw [eqB_false]; exact hf
      rw [hx]
      simp (disch := omega) [boxLV, frzLV, hf0, told3s]
end Go.Proofs.YtclfngbealdbgaaGreat
namespace Go.Proofs.YtclfngbealdbgaaGreat
open Go Go.TL
open Go.Proofs.YtclfngbealdbgaaGreat.Ty
set_option linter.unusedSimpArgs false
set_option linter.unusedVariables false
set_option maxRecDepth 20000
set_option maxHeartbeats 4000000
end Go.Proofs.YtclfngbealdbgaaGreat
namespace Go.Proofs.YtclfngbealdbgaaGreat
open Go Go.TL
open Go.Proofs.YtclfngbealdbgaaGreat.Ty
set_option linter.unusedSimpArgs false
set_option linter.unusedVariables false
set_option maxRecDepth 20000
set_option maxHeartbeats 4000000
end Go.Proofs.YtclfngbealdbgaaGreat
namespace Go.Proofs.YtclfngbealdbgaaGreat
open Go Go.TL
open Go.Proofs.YtclfngbealdbgaaGreat.Ty
set_option linter.unusedSimpArgs false
attribute [local simp low] onBool_some
attribute [local simp] onBool_leT onBool_leF onBool_ltT onBool_ltF onBool_eqT onBool_eqF
end Go.Proofs.YtclfngbealdbgaaGreat
namespace Go.Proofs.YtclfngbealdbgaaGreat
open Go Go.TL
open Go.Proofs.YtclfngbealdbgaaGreat.Ty
set_option linter.unusedSimpArgs false
set_option linter.unusedVariables false
set_option linter.unusedSectionVars false
set_option maxRecDepth 20000
set_option maxHeartbeats 4000000
abbrev OF (l : List Int) : LV := .sl (!l.isEmpty) l.isEmpty 1 (l.map fun n => [N n])
theorem app_F {l : List Int} {x : Int} (h : l.length < 1099511627776) : appLV 1 (OF l) (.sl true false 1 [[N x]]) = some (OF (l ++ [x])) := by
  simp only [appLV]
  rw [if_pos ⟨by cases l <;> simp, .inl trivial, .inl trivial, by simp [most]; omega⟩]
  cases l <;> simp
theorem shape_fin : ∀ n : Fin 37, eqB (shapeOf ((n.val : Nat) : Int)).1 4 = isBox ((n.val : Nat) : Int) ∧ eqB (shapeOf ((n.val : Nat) : Int)).1 3 = isArrow ((n.val : Nat) : Int) ∧ (isBox ((n.val : Nat) : Int) && isArrow ((n.val : Nat) : Int)) = false := by decide
theorem shape_is {c : Int} (h : 0 ≤ c ∧ c ≤ 36) : eqB (shapeOf c).1 4 = isBox c ∧ eqB (shapeOf c).1 3 = isArrow c ∧ (isBox c && isArrow c) = false := by
  have := shape_fin ⟨c.toNat, by omega⟩
  simp only [show ((c.toNat : Nat) : Int) = c by omega] at this
  exact this
theorem ForgetType_ok (nl : Bool) (l : List Int) (hl : Lok l) (hs : l.length ≤ 1000000) : Gives Tryz.prog n_impl_ForgetType [L nl l] (· = if wty l = true then OF (forgot l) else OF []) := by
  refine Gives.of_codeOf c_impl_ForgetType mixed (by simp) ⟨_, rfl, by split <;> simp⟩ ?_
  simp (disch := omega) [k_impl_ForgetType]
  refine onCall_eq (isWrittenType_ok nl l hl) (by simp) ?_
  simp (disch := omega)
  cases hw : wty l
  · simp (disch := omega)
  · simp (disch := omega)
    refine wpC_forM l.length 0 (fun i t _ => t 13 = N i ∧ t 3 = OF (forgot (l.take i))) (fun t _ => t 3 = OF (forgot l)) ⟨by simp, by simp [forgot]⟩ (by omega) ?_ ?_
    · rintro i t1 hh hf hi ⟨e13, e3⟩
      (have e11 := hf 11 (by kernel_rfl); have e12 := hf 12 (by kernel_rfl); clear hf; simp [] at e11 e12)
      have hfl := forgot_length (l.take i)
      simp at hfl
      by_cases h1 : i < l.length
      · have hb : ltB (i : Int) l.length = true := by rw [ltB_true]; omega
        have hx : l.getD i 0 = l[i] := by simp [List.getD_eq_getElem?_getD, h1]
        have hcode := wty_codes hw i h1
        rw [hx] at hcode
        have hsn : forgot (l.take (i + 1)) = forgot (l.take i) ++ (if isBox l[i] = true then [] else if isArrow l[i] = true then [4] else [l[i]]) := by rw [List.take_succ_eq_append_getElem h1, forgot_snoc]
        have hsh := shape_ok l[i] (hl.at h1)
        have ap := fun x => app_F (x := x) (l := forgot (l.take i)) (by omega)
        simp (disch := omega) [e3, e11, e12, e13, hb, idx_L l false nl i (by omega) (by omega)]
        refine onCall_eq hsh (by simp) ?_
        obtain ⟨k1, k2, k3⟩ := shape_is hcode
        simp (disch := omega) [e3, e11, e12, e13, hb, k1, k2]
        rw [hsn]
        cases hB : isBox l[i]
        · cases hA : isArrow l[i]
          · simp (disch := omega) [e3, e11, e12, e13, hb, k1, k2, hA, ap, i64_wrap]
            omega
          · simp (disch := omega) [e3, e11, e12, e13, hb, k1, k2, hA, ap, i64_wrap]
            omega
        · simp (disch := omega) [e3, e11, e12, e13, hb, k1, k2, i64_wrap]
          omega
      · have hb : ltB (i : Int) l.length = false := by rw [ltB_false]; omega
        simp (disch := omega) [e3, e11, e12, e13, hb]
        rw [List.take_of_length_le (by omega)]
        exact ⟨rfl, rfl⟩
    · rintro t1 hh hf e3
      simp (disch := omega) [e3]
theorem forgot_app (a b : List Int) : forgot (a ++ b) = forgot a ++ forgot b := by simp [forgot]
theorem forgot_cons (c : Int) (l : List Int) : forgot (c :: l) = (if isBox c = true then [] else if isArrow c = true then [4] else [c]) ++ forgot l := by simp [forgot]
theorem b4 : isBox 4 = false ∧ isArrow 4 = true := by decide
theorem forgot_small {l : List Int} (h : ∀ n ∈ l, 0 ≤ n ∧ n ≤ 36) : ∀ n ∈ forgot l, n ≤ 4 := by
  intro n hn
  simp only [forgot, List.mem_flatMap] at hn
  obtain ⟨c, hc, hn⟩ := hn
  have := h c hc
  split at hn
  · simp at hn
  · split at hn
    · simp at hn; omega
    · rename_i h1 h2
      simp at hn
      subst hn
      rw [gl_box] at h1
      rw [gl_arrow] at h2
      omega
theorem kids_arrow {c : Int} (h : isArrow c = true) : kidsN c = some 2 := by
  unfold kidsN
  rw [gl_arrow] at h
  rw [if_neg (by omega), if_pos]
  right; right; rw [gl_arrow]; exact h
theorem kids_box {c : Int} (h : isBox c = true) : kidsN c = some 1 := by
  have h' := h
  rw [gl_box] at h
  unfold kidsN
  rw [if_neg (by omega), if_neg (by rw [gl_arrow]; omega), if_pos h']
mutual
theorem RT.forgot_tree : ∀ (t : RT), t.ok → ∃ u : RT, u.ok ∧ u.flat = forgot t.flat
  | .nd c ks, h => by
    simp only [RT.ok] at h
    obtain ⟨us, h1, h2, h3⟩ := forgotAll_tree ks h.2
    simp only [RT.flat, forgot_cons]
    by_cases hb : isBox c = true
    · rw [if_pos hb]
      have hk := kids_box hb
      rw [hk] at h
      have h4 : ks.length = 1 := by have := h.1; simp at this; omega
      obtain ⟨u, rfl⟩ : ∃ u, us = [u] := by
        match us, h1 with
        | [a], _ => exact ⟨a, rfl⟩
        | [], h1 => simp at h1; omega
        | _ :: _ :: _, h1 => simp at h1; omega
      simp only [oks] at h2
      exact ⟨u, h2.1, by rw [← h3]; simp [flats]⟩
    · rw [if_neg hb]
      by_cases ha : isArrow c = true
      · rw [if_pos ha]
        rw [kids_arrow ha] at h
        exact ⟨.nd 4 us, by simp only [RT.ok]; exact ⟨by rw [h1]; exact h.1 ▸ (by decide), h2⟩, by simp only [RT.flat]; rw [h3]; rfl⟩
      · rw [if_neg ha]
        exact ⟨.nd c us, by simp only [RT.ok]; exact ⟨by rw [h1]; exact h.1, h2⟩, by simp only [RT.flat]; rw [h3]; rfl⟩
theorem forgotAll_tree : ∀ (ts : List RT), oks ts → ∃ us : List RT, us.length = ts.length ∧ oks us ∧ flats us = forgot (flats ts)
  | [], _ => ⟨[], rfl, by simp [oks], by simp [flats, forgot]⟩
  | t :: ts, h => by
    simp only [oks] at h
    obtain ⟨u, h1, h2⟩ := RT.forgot_tree t h.1
    obtain ⟨us, h3, h4, h5⟩ := forgotAll_tree ts h.2
    exact ⟨u :: us, by simp [h3], by simp only [oks]; exact ⟨h1, h4⟩, by simp only [flats]; rw [h2, h5, forgot_app]⟩
end
end Go.Proofs.YtclfngbealdbgaaGreat
namespace Go.Proofs.YtclfngbealdbgaaGreat
open Go Go.TL
open Go.Proofs.YtclfngbealdbgaaGreat.Ty
set_option linter.unusedSimpArgs false
set_option linter.unusedVariables false
set_option linter.unusedSectionVars false
set_option maxRecDepth 20000
set_option maxHeartbeats 4000000
mutual
def GTerm.ownC : GTerm → List LV
  | .mk op n _ ty _ ks => [N op, N n, OF ty, .sl (!ks.isEmpty) ks.isEmpty 4 (ownCs ks)]
def ownCs : List GTerm → List (List LV)
  | [] => []
  | k :: ks => k.ownC :: ownCs ks
end
mutual
def GTerm.nm : GTerm → GTerm
  | .mk op n _ ty _ ks => .mk op n ty.isEmpty ty ks.isEmpty (nms ks)
def nms : List GTerm → List GTerm
  | [] => []
  | k :: ks => k.nm :: nms ks
end
theorem ownCs_eq : ∀ ks : List GTerm, ownCs ks = ks.map GTerm.ownC
  | [] => by simp [ownCs]
  | k :: ks => by simp [ownCs, ownCs_eq ks]
theorem nms_eq : ∀ ks : List GTerm, nms ks = ks.map GTerm.nm
  | [] => by simp [nms]
  | k :: ks => by simp [nms, nms_eq ks]
@[simp] theorem ownCs_length (ks : List GTerm) : (ownCs ks).length = ks.length := by simp [ownCs_eq]
@[simp] theorem nms_length (ks : List GTerm) : (nms ks).length = ks.length := by simp [nms_eq]
theorem nms_empty (ks : List GTerm) : (nms ks).isEmpty = ks.isEmpty := by cases ks <;> simp [nms]
@[simp] theorem ownC_length (t : GTerm) : t.ownC.length = 4 := by cases t; simp [GTerm.ownC]
@[simp] theorem take_ownC (t : GTerm) : t.ownC.take 4 = t.ownC := List.take_of_length_le (by simp)
@[simp] theorem alive_ownC (t : GTerm) : aliveAll t.ownC = true := by cases t; simp [GTerm.ownC]
mutual
theorem share_ownC : ∀ t : GTerm, shareAll t.ownC = t.nm.cells
  | .mk op n nl1 ty nl2 ks => by
    simp only [GTerm.ownC, GTerm.nm, GTerm.cells, shareAll, share, share_ownCs ks]
    congr 3
    simp
theorem share_ownCs : ∀ ks : List GTerm, shareRow (ownCs ks) = rowsOf (nms ks)
  | [] => by simp [ownCs, nms, rowsOf, shareRow]
  | k :: ks => by simp only [ownCs, nms, rowsOf, shareRow, share_ownC k, share_ownCs ks]
end
attribute [simp] share_ownC share_ownCs
mutual
theorem low_ownC (k : Nat) : ∀ t : GTerm, LowAll k t.ownC
  | .mk op n nl1 ty nl2 ks => by
    have := low_ownCs k ks
    simp [GTerm.ownC, this]
theorem low_ownCs (k : Nat) : ∀ ks : List GTerm, LowRow k (ownCs ks)
  | [] => by simp [ownCs]
  | t :: ks => by simp [ownCs, low_ownC k t, low_ownCs k ks]
end
attribute [simp] low_ownC low_ownCs
mutual
theorem whole_ownC : ∀ t : GTerm, WholeAll t.ownC
  | .mk op n nl1 ty nl2 ks => by
    have h := whole_ownCs ks
    have w := whole_sc (fun n : Int => Value.int .i64 n) (!ty.isEmpty) ty.isEmpty ty (by cases ty <;> simp)
    simp only [GTerm.ownC, WholeAll, Whole] at w ⊢
    refine ⟨trivial, trivial, w, ⟨?_, h⟩, trivial⟩
    cases ks with
    | nil => simp [ownCs]
    | cons k ks => exact .inr ⟨by simp, by simp, fun r hr => by rw [ownCs_eq] at hr; obtain ⟨g, _, rfl⟩ := List.mem_map.1 hr; simp⟩
theorem whole_ownCs : ∀ ks : List GTerm, WholeRow (ownCs ks)
  | [] => by simp [ownCs, WholeRow]
  | t :: ks => by simp only [ownCs, WholeRow]; exact ⟨whole_ownC t, whole_ownCs ks⟩
end
mutual
theorem size_nm : ∀ a : GTerm, a.nm.size = a.size
  | .mk op n nl1 ty nl2 ks => by simp [GTerm.nm, GTerm.size, sizes_nms ks]
theorem sizes_nms : ∀ a : List GTerm, sizes (nms a) = sizes a
  | [] => by simp [nms, sizes]
  | a :: a' => by simp [nms, sizes, size_nm a, sizes_nms a']
end
mutual
theorem wf_nm : ∀ a : GTerm, a.wf → a.nm.wf
  | .mk op n nl1 ty nl2 ks, h => by
    simp only [GTerm.wf, GTerm.nm] at *
    exact ⟨h.1, h.2.1, h.2.2.1, by rw [nms_length]; exact h.2.2.2.1, wfs_nms ks h.2.2.2.2⟩
theorem wfs_nms : ∀ a : List GTerm, wfs a → wfs (nms a)
  | [], _ => by simp [nms, wfs]
  | a :: a', h => by
    simp only [wfs, nms] at *
    exact ⟨wf_nm a h.1, wfs_nms a' h.2⟩
end
mutual
theorem form_nm {nv size : Int} {closed : Bool} : ∀ a : GTerm, formB nv size closed a.nm = formB nv size closed a
  | .mk op n nl1 ty nl2 ks => by simp [GTerm.nm, formB, forms_nm ks]
theorem forms_nm {nv size : Int} {closed : Bool} {op : Int} {k : Nat} : ∀ a : List GTerm, formsB nv size closed op k (nms a) = formsB nv size closed op k a
  | [] => by simp [nms, formsB]
  | a :: a' => by simp [nms, formsB, form_nm a, forms_nm a']
end
theorem termB_nm (size n : Int) (a : GTerm) : a.nm.termB size n = a.termB size n := by simp [GTerm.termB, size_nm, form_nm]
theorem added_zero (op : Int) (ty f f' : List Int) : addedP op ty 0 f = addedP op ty 0 f' := by
  unfold addedP
  split
  · rfl
  · rename_i h9
    have : addsI op ((0 : Nat) : Int) = 0 := by unfold addsI; rw [if_neg (by omega), if_neg (by omega)]
    rw [if_pos this, if_pos this]
theorem first_app {ds : List TT} (h : ds ≠ []) (xs : List TT) : first (ds ++ xs) = first ds := by
  cases ds with
  | nil => exact absurd rfl h
  | cons a l => simp [first, tyP]
theorem tellK_each {s : GSys} {ctx : List (List Int)} {op n : Int} {ty : List Int} : ∀ (ks : List GTerm) (ds ds' : List TT), tellK s ctx op n ty ds ks = .ok ds' →
    (∃ xs, ds' = ds ++ xs ∧ xs.length = ks.length) ∧ ∀ (i : Nat) (h : i < ks.length), ∃ x, ds'[ds.length + i]? = some x ∧ tellG s (addedP op ty (ds.length + i) (first ds') ++ ctx) ks[i] = .ok x
  | [], ds, ds', h => by
    simp only [tellK, KRes.ok.injEq] at h
    subst h
    exact ⟨⟨[], by simp, rfl⟩, fun i h => by simp at h⟩
  | k :: ks, ds, ds', h => by
    rw [tellK] at h
    split at h
    · simp at h
    · rename_i x hx
      split at h
      · simp at h
      · split at h
        · simp at h
        · obtain ⟨⟨xs, rfl, hl⟩, hi⟩ := tellK_each ks _ ds' h
          refine ⟨⟨x :: xs, by simp, by simp [hl]⟩, fun i hik => ?_⟩
          cases i with
          | zero =>
            refine ⟨x, by simp, ?_⟩
            have e : addedP op ty (ds.length + 0) (first (ds ++ [x] ++ xs)) = addedP op ty ds.length (first ds) := by
              by_cases hd : ds = []
              · subst hd; exact added_zero _ _ _ _
              · rw [List.append_assoc, first_app hd]; rfl
            rw [e]; exact hx
          | succ i =>
            obtain ⟨y, h1, h2⟩ := hi i (by simpa using hik)
            refine ⟨y, by rw [← h1]; congr 1; simp; omega, ?_⟩
            rw [show ds.length + (i + 1) = (ds ++ [x]).length + i by simp; omega]
            exact h2
structure Told (s : GSys) (ctx : List (List Int)) (op n : Int) (ty : List Int) (ks : List GTerm) (ds : List TT) : Prop where
  node : NodeOk s ctx.length op n ty ks.length
  len : ds.length = ks.length
  kids : KidsOk s ctx.length op n ds
  fin : (finP s ctx op n ty ds).1 = 0
  each : ∀ (i : Nat) (h : i < ks.length), ∃ y, ds[i]? = some y ∧ tellG s (addedP op ty i (first ds) ++ ctx) ks[i] = .ok y ∧ (∀ l ∈ addedP op ty i (first ds) ++ ctx, okL s.size l = true) ∧
    formB (((addedP op ty i (first ds) ++ ctx).length : Nat) : Int) s.size true ks[i] = true ∧ (addedP op ty i (first ds) ++ ctx).length ≤ ctx.length + 2
theorem tell_inv {s : GSys} (t : s.Tab) {ctx : List (List Int)} {op n : Int} {nl1 nl2 : Bool} {ty : List Int} {ks : List GTerm} {x : TT} (hc : ∀ l ∈ ctx, okL s.size l = true)
    (hf : formB ctx.length s.size true (.mk op n nl1 ty nl2 ks) = true) (h : tellG s ctx (.mk op n nl1 ty nl2 ks) = .ok x) :
    Told s ctx op n ty ks x.kids ∧ x.ty = (finP s ctx op n ty x.kids).2.1 ∧ x.needs = (finP s ctx op n ty x.kids).2.2 := by
  simp only [formB, Bool.and_eq_true] at hf
  have nd := nodeOk_of hf.1
  rw [tellG] at h
  split at h
  · simp at h
  · rename_i ds hd
    split at h
    · rename_i h0
      simp only [Res.ok.injEq] at h
      subst h
      obtain ⟨k, hl⟩ := tellK_good t ks ctx op n ty [] ds hc (fun h9 => nd.typed (by subst h9; simp [typedB, eqB_true])) (by simpa using hf.2) ⟨fun i x h => by simp at h, fun _ x h => by simp at h⟩ hd
      obtain ⟨⟨xs, hxs, hxl⟩, hi⟩ := tellK_each ks [] ds hd
      simp only [List.nil_append] at hxs
      subst hxs
      show Told s ctx op n ty ks ds ∧ _
      refine ⟨⟨nd, hxl, k, h0, fun i hik => ?_⟩, rfl, rfl⟩
      obtain ⟨y, h1, h2⟩ := hi i hik
      simp only [List.length_nil, Nat.zero_add] at h1 h2
      have hlen : (addedP op ty i (first ds) ++ ctx).length = ctx.length + (addsI op i).toNat := by
        rw [List.length_append, added_len]; omega
      have := addsI_range op i
      refine ⟨y, h1, h2, fun l hl => ?_, ?_, by omega⟩
      · rcases List.mem_append.1 hl with hl | hl
        · exact added_ok (fun h9 => nd.typed (by subst h9; simp [typedB, eqB_true])) (fun hi0 => by
            have := k.first (by rintro rfl; simp at hxl; omega)
            exact ⟨this.1, this.2.1⟩) l hl
        · exact hc l hl
      · have hf2 := forms_at hf.2 i hik
        rw [hlen, show ((ctx.length + (addsI op i).toNat : Nat) : Int) = ctx.length + addsI op i by omega]
        simpa using hf2
    · simp at h
mutual
def fgG : GTerm → TT → GTerm
  | .mk op n _ ty _ ks, x =>
    if op = 11 then (fgK ks x.kids).headD (.mk 0 0 true [] true [])
    else if op = 12 then .mk 10 0 true [] false [.mk 9 1 false (forgot (part0 (tyP x.kids 0))) false [(fgK ks x.kids).getD 1 (.mk 0 0 true [] true [])], (fgK ks x.kids).headD (.mk 0 0 true [] true [])]
    else .mk op (if hasB op = true then 1 else n) true (forgot ty) true (fgK ks x.kids)
def fgK : List GTerm → List TT → List GTerm
  | [], _ => []
  | k :: ks, xs => fgG k (xs.headD (.mk [] [] [])) :: fgK ks xs.tail
end
theorem fgK_length : ∀ (ks : List GTerm) (xs : List TT), (fgK ks xs).length = ks.length
  | [], _ => by simp [fgK]
  | k :: ks, xs => by simp [fgK, fgK_length ks]
theorem fgK_get : ∀ (ks : List GTerm) (xs : List TT) (i : Nat) (h : i < ks.length) (x : TT), xs[i]? = some x → (fgK ks xs)[i]'(by rw [fgK_length]; exact h) = fgG ks[i] x
  | [], _, i, h, _, _ => by simp at h
  | k :: ks, [], i, h, x, hx => by simp at hx
  | k :: ks, y :: xs, 0, h, x, hx => by simp at hx; subst hx; simp [fgK]
  | k :: ks, y :: xs, i + 1, h, x, hx => by
    simp only [fgK, List.tail_cons, List.getElem_cons_succ]
    exact fgK_get ks xs i (by simpa using h) x (by simpa using hx)
theorem fgK_take {ks : List GTerm} {xs : List TT} {i : Nat} (h : i < ks.length) {x : TT} (hx : xs[i]? = some x) : (fgK ks xs).take (i + 1) = (fgK ks xs).take i ++ [fgG ks[i] x] := by
  rw [List.take_succ_eq_append_getElem (by rw [fgK_length]; exact h), fgK_get ks xs i h x hx]
end Go.Proofs.YtclfngbealdbgaaGreat
namespace Go.TL
mutual
def nz : LV → LV
  | .sc v => .sc v
  | .sl u nl sz xs => if nl && xs.isEmpty then .sl false true 0 [] else .sl u nl sz (nzRow xs)
  | .ha l sz off n cap => .ha l sz off n cap
  | .raw sz => .raw sz
  | .ptr l o => .ptr l o
  | .rp xs => .rp (nzAll xs)
  | .fn f caps => .fn f (nzAll caps)
  | .fnm f first => .fnm f (nzAll first)
  | .agg xs => .agg (nzAll xs)
  | .tup xs => .tup (nzAll xs)
  | .dead => .dead
  | .both u t => .both u (nz t)
def nzAll : List LV → List LV
  | [] => []
  | x :: xs => nz x :: nzAll xs
def nzRow : List (List LV) → List (List LV)
  | [] => []
  | x :: xs => nzAll x :: nzRow xs
end
theorem nzAll_length : ∀ xs : List LV, (nzAll xs).length = xs.length
  | [] => rfl
  | _ :: xs => by simp only [nzAll, List.length_cons, nzAll_length xs]
theorem nzRow_length : ∀ xs : List (List LV), (nzRow xs).length = xs.length
  | [] => rfl
  | _ :: xs => by simp only [nzRow, List.length_cons, nzRow_length xs]
theorem nzRow_nil : ∀ xs : List (List LV), nzRow xs = [] ↔ xs = []
  | [] => by simp [nzRow]
  | _ :: xs => by simp [nzRow]
mutual
theorem rep_nz (A : GM) (μ : List Nat) : ∀ (x : LV) (v : Value) (O : List Own), Rep A μ (nz x) v O ↔ Rep A μ x v O
  | .sc u, v, O => by simp only [nz]
  | .sl u nl sz xs, v, O => by
    by_cases h : (nl && xs.isEmpty) = true
    · have h' := h
      simp only [Bool.and_eq_true, List.isEmpty_iff] at h'
      obtain ⟨rfl, rfl⟩ := h'
      simp only [nz, h, if_true, Rep, Bool.true_eq_false, false_and, or_false]
    · simp only [nz, if_neg h, Rep, nzRow_length, nzRow_nil, repRow_nz A μ xs]
  | .ha l sz off n cap, v, O => by simp only [nz]
  | .raw sz, v, O => by simp only [nz]
  | .ptr l o, v, O => by simp only [nz]
  | .rp xs, v, O => by simp only [nz, Rep, repCells_nz A μ xs]
  | .fn f caps, v, O => by simp only [nz, Rep, repVals_nz A μ caps]
  | .fnm f first, v, O => by simp only [nz, Rep, repVals_nz A μ first]
  | .agg xs, v, O => by simp only [nz, Rep, repVals_nz A μ xs]
  | .tup xs, v, O => by simp only [nz, Rep, repVals_nz A μ xs]
  | .dead, v, O => by simp only [nz]
  | .both u t, v, O => by simp only [nz, Rep, rep_nz A μ t]
theorem repRow_nz (A : GM) (μ : List Nat) : ∀ (xs : List (List LV)) (sz b off : Nat) (O : List Own), RepRow A μ (nzRow xs) sz b off O ↔ RepRow A μ xs sz b off O
  | [], sz, b, off, O => by simp only [nzRow]
  | x :: xs, sz, b, off, O => by simp only [nzRow, RepRow, nzAll_length, repCells_nz A μ x, repRow_nz A μ xs]
theorem repCells_nz (A : GM) (μ : List Nat) : ∀ (xs : List LV) (b off : Nat) (O : List Own), RepCells A μ (nzAll xs) b off O ↔ RepCells A μ xs b off O
  | [], b, off, O => by simp only [nzAll]
  | x :: xs, b, off, O => by simp only [nzAll, RepCells, rep_nz A μ x, repCells_nz A μ xs]
theorem repVals_nz (A : GM) (μ : List Nat) : ∀ (xs : List LV) (vs : List Value) (O : List Own), RepVals A μ (nzAll xs) vs O ↔ RepVals A μ xs vs O
  | [], vs, O => by simp only [nzAll]
  | x :: xs, vs, O => by simp only [nzAll, RepVals, rep_nz A μ x, repVals_nz A μ xs]
end
theorem LCalls.nz {P : Program} {f : FuncId} {args args' : List LV} {h : List Box} {R : LV → List Box → Prop} (c : LCalls P f args' h R) (e : nzAll args = nzAll args') : LCalls P f args h R := by
  obtain ⟨h1, h2, h3⟩ := c
  refine ⟨h1, h2, fun w A μ OH vals Oa hv hi => h3 w A μ OH vals Oa ?_ hi⟩
  rw [← repVals_nz, ← e, repVals_nz]
  exact hv
theorem Gives.nz {P : Program} {f : FuncId} {args args' : List LV} {R : LV → Prop} (c : Gives P f args' R) (e : nzAll args = nzAll args') : Gives P f args R := LCalls.nz c e
theorem LCalls.nzR {P : Program} {f : FuncId} {args : List LV} {h : List Box} {R R' : LV → List Box → Prop} (c : LCalls P f args h R) (hr : ∀ r h', R r h' → ∃ r', Go.TL.nz r' = Go.TL.nz r ∧ R' r' h') : LCalls P f args h R' := by
  obtain ⟨h1, ⟨r, h', hR⟩, h2⟩ := c
  obtain ⟨r', _, hR'⟩ := hr r h' hR
  refine ⟨h1, ⟨r', h', hR'⟩, fun w A μ OH vals Oa hv hi => (h2 w A μ OH vals Oa hv hi).mono fun e w' he => ?_⟩
  obtain ⟨v, r, h', B, ν, OH', O', g1, g2, g3, g4⟩ := he
  obtain ⟨r', he', hR'⟩ := hr r h' g2
  exact ⟨v, r', h', B, ν, OH', O', g1, hR', (by rw [← rep_nz, he', rep_nz]; exact g3), g4⟩
def idxT (sz : Nat) (v : LV) (i : Int) : Option LV :=
  match v with
  | .sl _ _ sz' xs => if sz' = sz ∧ 0 ≤ i ∧ i < xs.length then some (.rp (xs.getD i.toNat [])) else none
  | _ => none
@[simp] theorem step_indexT {s : St} {d sz : Nat} {x i : X} : step (.indexT d sz x i) s = ((intOf (get s.t i)).bind (idxT sz (get s.t x))).map ((s.give x).put d) := by
  simp only [step]
  cases hi : intOf (get s.t i) with
  | none => cases get s.t x <;> simp
  | some i => cases get s.t x <;> simp [idxT] <;> (try split) <;> simp_all
@[simp] theorem step_loadT {s : St} {d sz : Nat} {ag : Bool} {x : X} : step (.loadT d ag sz x) s = (rdLV ag sz (get s.t x)).map ((s.give x).put d) := by
  simp only [step, rdLV]
  cases get s.t x <;> simp
  split
  · split <;> simp_all
  · simp_all
def prtC (i : Nat) : LV → Option (LV × LV)
  | .sl u nl z rows => if i < rows.length then some (.sl u nl z (rows.set i (shareAll (rows.getD i []))), .sl false nl z ((shareRow rows).set i (rows.getD i []))) else none
  | _ => none
theorem step_loadP {s : St} {d i : Nat} {l o : Nat} {xs : List LV} {y z v : LV} {x : X} (hg : get s.t x = .ptr l o) (hl : s.h[l]? = some (some xs)) (hx : xs[o]? = some y) (hp : prtC i y = some (z, v)) :
    step (.loadP d i false 1 x) s = some ({ s with h := s.h.set l (some (splice xs o [z])) }.put d v) := by
  have ho : o < xs.length := by
    rcases Nat.lt_or_ge o xs.length with h | h
    · exact h
    · rw [List.getElem?_eq_none h] at hx; simp at hx
  have hd : (xs.drop o).take 1 = [y] := by
    rw [List.getElem?_eq_getElem ho] at hx
    simp only [Option.some.injEq] at hx
    rw [List.drop_eq_getElem_cons ho, hx]; simp
  unfold prtC at hp
  split at hp
  · split at hp
    · rename_i h1
      simp only [Option.some.injEq, Prod.mk.injEq] at hp
      obtain ⟨rfl, rfl⟩ := hp
      simp only [step, hg, hl, hd]
      simp only [true_and]
      rw [if_pos (by omega), if_pos h1]
    · simp at hp
  · simp at hp
@[simp] theorem idxT_sl {u nl : Bool} {sz : Nat} {xs : List (List LV)} {i : Int} (h : 0 ≤ i ∧ i < xs.length) : idxT sz (.sl u nl sz xs) i = some (.rp (xs.getD i.toNat [])) := by
  simp [idxT, h.1, h.2]
end Go.TL
namespace Go.Proofs.YtclfngbealdbgaaGreat
open Go Go.TL
open Go.Proofs.YtclfngbealdbgaaGreat.Ty
set_option linter.unusedSimpArgs false
set_option linter.unusedVariables false
set_option linter.unusedSectionVars false
set_option maxRecDepth 20000
set_option maxHeartbeats 4000000
def KS (ks : List GTerm) : LV := if ks.isEmpty = true then .sl true true 1 [] else .sl true false 4 (ownCs ks)
theorem KS_app {ks : List GTerm} {k : GTerm} (h : ks.length < 1099511627776) : appLV 4 (KS ks) (.sl true false 4 [k.ownC]) = some (KS (ks ++ [k])) := by
  cases ks with
  | nil => simp [KS, appLV, ownCs, most]
  | cons a l =>
    simp only [KS, List.isEmpty_cons, Bool.false_eq_true, if_false, List.cons_append, appLV]
    rw [if_pos ⟨.inl trivial, .inl trivial, .inl trivial, by simp [most] at h ⊢; omega⟩]
    simp [ownCs_eq]
theorem KS_flat (ks : List GTerm) : (KS ks).flat = true := by unfold KS; split <;> rfl
theorem KS_cells (ks : List GTerm) : (KS ks).cells = [KS ks] := by unfold KS; split <;> rfl
theorem KS_alive (ks : List GTerm) : (KS ks).alive = true := by unfold KS; split <;> rfl
theorem KS_nz (ks : List GTerm) : nz (KS ks) = nz (.sl (!ks.isEmpty) ks.isEmpty 4 (ownCs ks)) := by
  cases ks with
  | nil => simp [KS, nz, ownCs]
  | cons a l => simp [KS]
theorem KS_low (ks : List GTerm) : Low 0 (KS ks) := by unfold KS; split <;> simp
theorem KS_pos {ks : List GTerm} (h : 0 < ks.length) : KS ks = .sl true false 4 (ownCs ks) := by
  cases ks with
  | nil => simp at h
  | cons a l => simp [KS]
theorem KS_prt {ks : List GTerm} {i : Nat} (h : i < ks.length) : prtC i (KS ks) = some (.sl true false 4 ((ownCs ks).set i (ks[i]).nm.cells), .sl false false 4 ((rowsOf (nms ks)).set i (ks[i]).ownC)) := by
  rw [KS_pos (by omega)]
  simp only [prtC]
  rw [if_pos (by simpa using h)]
  have e : (ownCs ks).getD i [] = (ks[i]).ownC := by simp [List.getD_eq_getElem?_getD, ownCs_eq, h]
  rw [e, share_ownC, share_ownCs]
theorem Gives.nzR {P : Program} {f : FuncId} {args : List LV} {R R' : LV → Prop} (c : Gives P f args R) (hr : ∀ r, R r → ∃ r', Go.TL.nz r' = Go.TL.nz r ∧ R' r' ∧ Low 0 r') : Gives P f args R' :=
  LCalls.nzR c fun r h' h => by obtain ⟨r', h1, h2, h3⟩ := hr r h.1; exact ⟨r', h1, h2, h3⟩
theorem wpC_assoc {P : Program} {a b c : C} {Q : Exit → St → Prop} {s : St} : wpC P (.seq a (.seq b c)) Q s ↔ wpC P (.seq (.seq a b) c) Q s := by
  have e : thenL (wpC P b (thenL (wpC P c Q) Q)) Q = thenL (wpC P b (thenL (wpC P c Q) Q)) (thenL (wpC P c Q) Q) := by
    funext e s; cases e <;> rfl
  show wpC P a (thenL (wpC P b (thenL (wpC P c Q) Q)) Q) s ↔ wpC P a (thenL (wpC P b (thenL (wpC P c Q) Q)) (thenL (wpC P c Q) Q)) s
  rw [e]
theorem forgetTerm_ok {s : GSys} (hsy : s.sys = true) (d : Nat) : ∀ (g : GTerm) (ctx : List (List Int)) (x : TT) (r0 : LV), g.size ≤ d → g.wf → (∀ l ∈ ctx, okL s.size l = true) → formB ctx.length s.size true g = true → tellG s ctx g = .ok x → x.is r0 →
    Gives Tryz.prog n_impl_forgetTerm [g.lv, r0] (· = .agg (fgG g x).ownC) := by
  induction d with
  | zero => intro g _ _ _ h; have := g.size_pos; omega
  | succ d ih =>
    rintro ⟨op, n, nl1, gty, nl2, ks⟩ ctx x r0 hd hw hc hf htl hx
    have t := GSys.sys_of hsy
    obtain ⟨T, _, _⟩ := tell_inv t hc hf htl
    simp only [GTerm.wf] at hw
    obtain ⟨hop, hn, hty, hk, hks⟩ := hw
    simp only [GTerm.size, GTerm.lv, GTerm.cells] at hd ⊢
    obtain ⟨xty, xnd, xs⟩ := x
    simp only [TT.kids_mk] at T
    have hxs := is_share _ _ hx
    simp only [TT.is] at hx
    obtain ⟨n3, n4, rows, rfl, hr⟩ := hx
    have hxs1 := hxs.1
    have hrs := (are_share _ rows hr).1
    have hrl := are_len _ rows hr
    have hin : within op 0 12 = true := by rw [within_true]; exact T.node.op13
    have hgl := hty.1
    have hte : typedB op = false → gty = [] := fun h => by
      simp only [formB, Bool.and_eq_true, nodeB] at hf
      have := hf.1.2.2
      rw [tyB, if_neg (by simp [h]), eqB_true] at this
      exact List.eq_nil_of_length_eq_zero (by omega)
    have hwt : 0 < gty.length → wty gty = true := fun h => by
      cases ht : typedB op
      · rw [hte ht] at h; simp at h
      · exact okL_wty (T.node.typed ht)
    refine Gives.nzR (R := fun r => nz r = nz (.agg (fgG (.mk op n nl1 gty nl2 ks) (.mk xty xnd xs)).ownC)) ?_ (fun r h => ⟨_, h.symm, rfl, by simp⟩)
    refine Gives.of_codeOf c_impl_forgetTerm mixed (by simp) ⟨_, rfl, by simp⟩ ?_
    simp only [k_impl_forgetTerm]
    rw [wpC_assoc, wpC_assoc, wpC_assoc]
    refine wpC_cut (fun t h => t 2 = .rp [N op, N n, L nl1 gty, .sl false nl2 4 (rowsOf ks)] ∧ t 4 = .ptr 1 0 ∧ t 5 = .ptr 2 0 ∧ ∃ u nl rs F, LowRow 0 rs ∧ nz (.sl u nl 1 rs) = nz (OF (forgot gty)) ∧
      h = [none, some [N 0, N 0, .sl true true 1 [], .sl true true 1 []], some [N op, N (if hasB op = true then 1 else n), .sl u nl 1 rs, .sl true true 1 []], some F]) ?_ ?_
    · simp (disch := omega) [boxLV, frzLV, hxs]
      refine onCall_eq (formOf_ok op) (by simp) ?_
      rw [formV, if_pos hin]
      simp (disch := omega) [hxs]
      cases hb : hasB op <;> simp (disch := omega) [hxs]
      all_goals
        by_cases h0 : 0 < gty.length
        · have FT := ForgetType_ok nl1 gty hty (by have := wty_len (hwt h0); omega)
          rw [if_pos (hwt h0)] at FT
          have hl0 : ltB 0 (gty.length : Int) = true := by rw [ltB_true]; omega
          simp (disch := omega) [hxs, hl0]
          refine onCall_eq FT (by simp) ?_
          simp (disch := omega) [hxs]
          cases hz : forgot gty <;> simp [hz] <;> rfl
        · have hl0 : ltB 0 (gty.length : Int) = false := by rw [ltB_false]; omega
          simp (disch := omega) [hxs, hl0]
          have e : gty = [] := List.eq_nil_of_length_eq_zero (by omega)
          subst e
          simp [forgot, nz]
    rintro t1 hh hf1 ⟨a2, a4, a5, u, nl, rs, F, hlr, hnz, rfl⟩
    (have a1 := hf1 1 (by kernel_rfl); clear hf1; simp [] at a1)
    simp (disch := omega) [a1, a2, a4, a5]
    refine wpC_forM ks.length 0 (fun i t h => t 36 = N i ∧ ∃ tl, h = none :: some [N 0, N 0, .sl true true 1 [], .sl true true 1 []] :: some [N op, N (if hasB op = true then 1 else n), .sl u nl 1 rs, KS ((fgK ks xs).take i)] :: tl)
      (fun t h => ∃ tl, h = none :: some [N 0, N 0, .sl true true 1 [], .sl true true 1 []] :: some [N op, N (if hasB op = true then 1 else n), .sl u nl 1 rs, KS (fgK ks xs)] :: tl) ⟨by simp, ⟨[some F], by simp [KS]⟩⟩ (by omega) ?_ ?_
    · rintro i t1 hh hf2 hi ⟨e36, tl, rfl⟩
      (have e1 := hf2 1 (by kernel_rfl); have e2 := hf2 2 (by kernel_rfl); have e4 := hf2 4 (by kernel_rfl); have e5 := hf2 5 (by kernel_rfl); have e34 := hf2 34 (by kernel_rfl); have e35 := hf2 35 (by kernel_rfl); clear hf2; simp [a1, a2, a4, a5] at e1 e2 e4 e5 e34 e35)
      by_cases h6 : i < ks.length
      · have hb : ltB (i : Int) ks.length = true := by rw [ltB_true]; omega
        obtain ⟨y, hy1, hy2, hy3, hy4, hy5⟩ := T.each i h6
        have hyx : i < xs.length := by rw [T.len]; exact h6
        obtain ⟨yr, hyr1, hyr2⟩ := are_at xs rows i hyx hr
        have hkw : (ks[i]).wf := (wfs_iff.1 hks) _ (List.getElem_mem h6)
        have hsk := size_kid h6
        have hxy : xs[i] = y := by rw [List.getElem?_eq_getElem hyx] at hy1; simpa using hy1
        rw [hxy] at hyr2
        have recu := ih ks[i] _ y yr (by omega) hkw hy3 hy4 hy2 hyr2
        have hap := KS_app (ks := (fgK ks xs).take i) (k := fgG ks[i] y) (by rw [List.length_take]; omega)
        rw [← fgK_take h6 hy1] at hap
        have hidx : idxLV 1 (.sl false n3 1 rows) (i : Int) = some (.rp [yr]) := by
          simp only [idxLV]
          rw [if_pos ⟨trivial, by omega, by omega⟩]
          have := (is_share _ _ hyr2).1
          simp [List.getD_eq_getElem?_getD, hyr1, this]
        have hys := (is_share _ _ hyr2).1
        have hfl := KS_flat ((fgK ks xs).take i)
        have hal := KS_alive ((fgK ks xs).take i)
        have hfl2 := KS_flat ((fgK ks xs).take (i + 1))
        have hce2 := KS_cells ((fgK ks xs).take (i + 1))
        have hal1 : aliveAll [KS ((fgK ks xs).take i)] = true := by simp [aliveAll, hal]
        simp (disch := omega) [e1, e2, e4, e5, e34, e35, e36, hb, idx_T, hrs, hal, hidx, hys]
        refine onCall_eq recu (by simp [(is_share _ _ hyr2).2]) ?_
        simp (disch := omega) [e1, e2, e4, e5, e34, e35, e36, hap, hfl2, hce2, i64_wrap, h6, chunks]
      · have hb : ltB (i : Int) ks.length = false := by rw [ltB_false]; omega
        have hik : i = ks.length := by omega
        have e := List.take_of_length_le (l := fgK ks xs) (i := i) (by rw [fgK_length]; omega)
        simp (disch := omega) [e36, e35, hb, e]
    · rintro t2 hh hf2 ⟨tl, rfl⟩
      (have e1 := hf2 1 (by kernel_rfl); have e2 := hf2 2 (by kernel_rfl); have e4 := hf2 4 (by kernel_rfl); have e5 := hf2 5 (by kernel_rfl); clear hf2; simp [a1, a2, a4, a5] at e1 e2 e4 e5)
      simp (disch := omega) [e1, e2, e4, e5]
      have hkl := fgK_length ks xs
      have many := T.node.many
      by_cases h11 : op = 11
      · subst h11
        have hkk : ks.length = 1 := by simp [manyI] at many; omega
        have hp := KS_prt (ks := fgK ks xs) (i := 0) (by omega)
        have hg : fgG (.mk 11 n nl1 gty nl2 ks) (.mk xty xnd xs) = (fgK ks xs)[0]'(by omega) := by
          simp only [fgG, if_true, TT.kids_mk]
          rw [List.headD_eq_head?_getD, List.head?_eq_getElem?, List.getElem?_eq_getElem (by omega)]; rfl
        have e1 : eqB 11 11 = true := by rw [eqB_true]
        rw [hg]
        have hix : idxT 4 (.sl false false 4 ((rowsOf (nms (fgK ks xs))).set 0 ((fgK ks xs)[0]'(by omega)).ownC)) 0 = some (.rp ((fgK ks xs)[0]'(by omega)).ownC) := by
          rw [idxT_sl (by simp; omega)]
          have : 0 < ((fgK ks xs)).length := by omega
          simp [List.getD_eq_getElem?_getD, this]
        simp (disch := omega) [e1, e2, e4, e5]
        rw [step_loadP (l := 2) (o := 3) (by simp) (by simp; rfl) (by simp) hp]
        simp (disch := omega) [e1, e2, e4, e5, hix, rdLV]
      · by_cases h12 : op = 12
        · subst h12
          have hkk : ks.length = 2 := by simp [manyI] at many; omega
          obtain ⟨k0, k1, hK⟩ : ∃ k0 k1, fgK ks xs = [k0, k1] := by
            have : (fgK ks xs).length = 2 := by omega
            match h : fgK ks xs, this with
            | [a, b], _ => exact ⟨a, b, rfl⟩
          have hp1 : prtC 1 (KS [k0, k1]) = some (.sl true false 4 [k0.ownC, k1.nm.cells], .sl false false 4 [k0.nm.cells, k1.ownC]) := by simp [prtC, KS, ownCs, shareRow]
          have hp2 : prtC 0 (.sl true false 4 [k0.ownC, k1.nm.cells]) = some (.sl true false 4 [k0.nm.cells, k1.nm.cells], .sl false false 4 [k0.ownC, k1.nm.cells]) := by simp [prtC, shareRow]
          have hi1 : idxT 4 (.sl false false 4 [k0.nm.cells, k1.ownC]) 1 = some (.rp k1.ownC) := by simp [idxT]
          have hi2 : idxT 4 (.sl false false 4 [k0.ownC, k1.nm.cells]) 0 = some (.rp k0.ownC) := by simp [idxT]
          rw [hK]
          have hxl := T.len
          obtain ⟨y0, hy0⟩ : ∃ y0, xs[0]? = some y0 := ⟨_, List.getElem?_eq_getElem (by omega)⟩
          obtain ⟨hg0, hfo⟩ := T.kids.each 0 y0 hy0
          have hk0 := T.kids.first (by rintro rfl; simp at hy0)
          have hfirst : first xs = y0.ty := by simp [first, tyP, List.getD_eq_getElem?_getD, hy0]
          rw [hfirst] at hk0
          obtain ⟨yr, hyr1, hyr2⟩ := are_at xs rows 0 (by omega) hr
          have hxy : xs[0]'(by omega) = y0 := by rw [List.getElem?_eq_getElem (by omega)] at hy0; simpa using hy0
          rw [hxy] at hyr2
          have hys := is_share _ _ hyr2
          have hb0 := hk0.2.1.2.2.2.2 rfl
          have hw0 : wty y0.ty = true := okL_wty hk0.1
          have hp0 := okL_one hk0.1 (kids_bx hb0)
          have PT := partsF_ok hw0
          have hpl : partsL y0.ty = [part0 y0.ty] := by simp [partsL, kids_bx hb0]
          rw [hpl] at PT
          have FT := ForgetType_ok false (part0 y0.ty) (wty_Lok (okL_wty hp0.2.2)) (by have := okL_len hp0.2.2; omega)
          rw [if_pos (okL_wty hp0.2.2)] at FT
          have hpt : tyP xs 0 = y0.ty := hfirst
          obtain ⟨yty, ynd, yks⟩ := y0
          simp only [TT.is] at hyr2
          obtain ⟨m3, m4, yrows, rfl, hyrr⟩ := hyr2
          have hyrs := (are_share _ yrows hyrr).1
          have hidx : idxLV 1 (.sl false n3 1 rows) 0 = some (.rp [.rp [L false yty, L false ynd, .sl false m3 1 yrows, N 0, .sl false m4 1 []]]) := by
            have : idxLV 1 (.sl false n3 1 rows) ((0 : Nat) : Int) = some (.rp [.rp [L false yty, L false ynd, .sl false m3 1 yrows, N 0, .sl false m4 1 []]]) := by
              simp only [idxLV]
              rw [if_pos ⟨trivial, by omega, by omega⟩]
              simp [List.getD_eq_getElem?_getD, hyr1, hyrs]
            simpa using this
          have e11 : eqB 12 11 = false := by rw [eqB_false]; omega
          have e12 : eqB 12 12 = true := by rw [eqB_true]
          simp only [TT.ty_mk] at PT FT hpl hpt
          simp (disch := omega) [e1, e2, e4, e5, e11, e12, hrs, hidx, hyrs]
          refine onCall_eq PT (by simp) ?_
          simp (disch := omega) [e1, e2, e4, e5, idxLV]
          refine onCall_eq FT (by simp) ?_
          have hfl : ∀ l, (OF l).flat = true ∧ (OF l).cells = [OF l] := fun l => ⟨rfl, rfl⟩
          simp (disch := omega) [e1, e2, e4, e5]
          rw [step_loadP (l := 2) (o := 3) (by simp) (by simp; rfl) (by simp) hp1]
          have hfz : ∀ a b c xs, frzLV (a :: b :: c :: (tl ++ [some xs])) (.ptr (tl.length + 1 + 1 + 1) 0) = some (.rp xs, a :: b :: c :: (tl ++ [none])) := by
            intro a b c xs; simp [frzLV]
          simp (disch := omega) [e1, e2, e4, e5, hi1, chunks, hfz]
          rw [step_loadP (l := 2) (o := 3) (by simp) (by simp; rfl) (by simp) hp2]
          simp (disch := omega) [e1, e2, e4, e5, hi2, chunks]
          have hg : fgG (.mk 12 n nl1 gty nl2 ks) (.mk xty xnd xs) = .mk 10 0 true [] false [.mk 9 1 false (forgot (part0 yty)) false [k1], k0] := by
            simp [fgG, hK, hpt]
          rw [hg]
          simp [GTerm.ownC, ownCs, nz, nzRow, nzAll]
        · have e11 : eqB op 11 = false := by rw [eqB_false]; omega
          have e12 : eqB op 12 = false := by rw [eqB_false]; omega
          have hal := KS_alive (fgK ks xs)
          have hfl := KS_flat (fgK ks xs)
          have hlo := KS_low (fgK ks xs)
          have hkn := KS_nz (fgK ks xs)
          have hg : fgG (.mk op n nl1 gty nl2 ks) (.mk xty xnd xs) = .mk op (if hasB op = true then 1 else n) true (forgot gty) true (fgK ks xs) := by
            simp [fgG, h11, h12]
          rw [hg]
          simp (disch := omega) [e1, e2, e4, e5, e11, e12, hal, hlo]
          refine ⟨hlr, ?_⟩
          simp only [GTerm.ownC, nz.eq_9, nzAll, hnz, hkn]
end Go.Proofs.YtclfngbealdbgaaGreat
namespace Go.Proofs.YtclfngbealdbgaaGreat
open Go Go.TL
open Go.Proofs.YtclfngbealdbgaaGreat.Ty
set_option linter.unusedSimpArgs false
set_option linter.unusedVariables false
set_option linter.unusedSectionVars false
set_option maxRecDepth 20000
set_option maxHeartbeats 4000000
def isCx (cx : List (List Int)) (r : LV) : Prop := ∃ (nl : Bool) (c : GCtx), share r = LC nl c ∧ c.map Prod.snd = cx ∧ ∀ x ∈ c, x.1 = false
theorem isCx_LC {nl : Bool} {ctx : GCtx} (h : ∀ x ∈ ctx, x.1 = false) : isCx (ctx.map Prod.snd) (LC nl ctx) := ⟨nl, ctx, by simp, rfl, h⟩
theorem isCx_own {f ctx : GCtx} (h : ∀ x ∈ ctx, x.1 = false) (hf : ∀ x ∈ f, x.1 = false) {cx : List (List Int)} (e : cx = f.map Prod.snd ++ ctx.map Prod.snd) : isCx cx (.sl true false 1 ((f ++ ctx).map fun x => [eC x])) :=
  ⟨false, f ++ ctx, by simp, by rw [e, List.map_append], fun x hx => (List.mem_append.1 hx).elim (hf x) (h x)⟩
theorem l7Inner_ok {s : GSys} (hsy : s.sys = true) (op n : Int) (nl1 : Bool) (gty : List Int) (nl2 : Bool) (ks : List GTerm) (nlc : Bool) (ctx : GCtx) (ds : List TT) (i : Nat) (hi : i < ks.length) (hw : (GTerm.mk op n nl1 gty nl2 ks).wf) (hfl : (GTerm.mk op n nl1 gty nl2 ks).fl)
    (hc : ∀ c ∈ ctx, okL s.size c.2 = true) (hcf : ∀ c ∈ ctx, c.1 = false) (hlen : ctx.length + 2 * (sizes ks + 1) ≤ 100000) (T : Told s (ctx.map Prod.snd) op n gty ks ds) :
    Gives Tryz.prog n_spec_l7Inner [s.lv, LC nlc ctx, (GTerm.mk op n nl1 gty nl2 ks).lv, N i] (fun r => isCx (addedP op gty i (first ds) ++ ctx.map Prod.snd) r) := by
  have t := GSys.sys_of hsy
  simp only [GTerm.wf] at hw
  obtain ⟨hop, hn, hty, hk, hks⟩ := hw
  simp only [GTerm.fl] at hfl
  obtain ⟨hf1, hfk⟩ := hfl
  refine Gives.of_codeOf c_spec_l7Inner mixed (by simp) ⟨LC false ((addedP op gty i (first ds)).map (fun l => (false, l)) ++ ctx), ⟨false, (addedP op gty i (first ds)).map (fun l => (false, l)) ++ ctx, by simp, by simp [Function.comp_def], fun x hx => ?_⟩, by simp⟩ ?_
  · rcases List.mem_append.1 hx with hx | hx
    · obtain ⟨l, _, rfl⟩ := List.mem_map.1 hx; rfl
    · exact hcf x hx
  simp (disch := omega) [k_spec_l7Inner, boxLV, frzLV, GTerm.cells]
  refine onCall_eq (l2Adds_ok op i) (by simp) ?_
  simp (disch := omega)
  by_cases h0 : addsI op i = 0
  · have e0 : eqB (addsI op i) 0 = true := by rw [eqB_true]; exact h0
    have h9 : op ≠ 9 := by rintro rfl; simp [addsI] at h0
    have ea : addedP op gty i (first ds) = [] := by simp [addedP, h9, h0]
    have := isCx_LC (nl := nlc) hcf
    simp (disch := omega) [e0, ea, this]
  · have e0 : eqB (addsI op i) 0 = false := by rw [eqB_false]; exact h0
    simp (disch := omega) [e0]
    by_cases h9 : op = 9
    · subst h9
      have ea : addedP 9 gty i (first ds) = [gty] := by simp [addedP]
      have e9 : eqB 9 9 = true := by rw [eqB_true]
      have hok := T.node.typed (by simp [typedB, eqB_true])
      have hnl : nl1 = false := by
        cases h : nl1 with
        | false => rfl
        | true => have := hf1 h; have := okL_len hok; simp_all
      subst hnl
      have LW := l3With_ok nlc false ctx [(false, gty)] (by omega) (by simp)
      have := isCx_own (f := [(false, gty)]) hcf (by simp) (cx := addedP 9 gty i (first ds) ++ ctx.map Prod.snd) (by simp [ea])
      simp (disch := omega) [e9, chunks]
      refine onCall_eq LW (by simp) ?_
      simp (disch := omega) [this]
      exact this
    · have e9 : eqB op 9 = false := by rw [eqB_false]; exact h9
      have hi0 : i ≠ 0 := by rintro rfl; apply h0; unfold addsI; rw [if_neg (by omega), if_neg (by omega)]
      have hxl := T.len
      obtain ⟨y0, hy0, hy2, hy3, hy4, _⟩ := T.each 0 (by omega)
      have ea0 : addedP op gty 0 (first ds) = [] := by
        have : addsI op ((0 : Nat) : Int) = 0 := by unfold addsI; rw [if_neg (by omega), if_neg (by omega)]
        simp only [addedP]; rw [if_neg h9, if_pos this]
      rw [ea0, List.nil_append] at hy2 hy4
      have hk0 := T.kids.first (by rintro rfl; simp at hy0)
      have hfirst : first ds = y0.ty := by simp [first, tyP, List.getD_eq_getElem?_getD, hy0]
      rw [hfirst] at hk0 ⊢
      have hsk := size_kid (ks := ks) (i := 0) (by omega)
      have tl := l3Tell_ok hsy (ks[0]'(by omega)).size (ks[0]'(by omega)) nlc ctx (Nat.le_refl _) ((wfs_iff.1 hks) _ (List.getElem_mem _)) ((fls_iff.1 hfk) _ (List.getElem_mem _)) hc hcf (by omega) (by rw [List.length_map] at hy4; exact hy4)
      rw [hy2] at tl
      have hix : idxLV 4 (.sl false nl2 4 (rowsOf ks)) 0 = some (.rp (ks[0]'(by omega)).cells) := by
        have := idx_T ks false nl2 0 (by omega); simpa using this
      simp (disch := omega) [e9, hix]
      refine onCall_gives (Gives.low tl) (by simp) ?_
      rintro r ⟨⟨u1, u2, u4, n4, rfl⟩, lo⟩
      obtain ⟨hk1, ⟨_, q5, q8, _, q12⟩, _⟩ := hk0
      have hpart := fun (k : Int) hk => l2Part_ok hk1 k hk
      generalize y0.ty = yt at *
      by_cases h5 : op = 5
      · subst h5
        have e5 : eqB 5 5 = true := by rw [eqB_true]
        have hk2 : kidsN (hd yt) = some 2 := by rw [q5 rfl]; exact kids_pair.1
        have hP1 := hpart 1 (.inr hk2)
        have hP0 := hpart 0 (.inr hk2)
        rw [if_neg (by omega)] at hP1
        rw [if_pos rfl] at hP0
        have ea : addedP 5 gty i yt = [part1 yt, part0 yt] := by simp [addedP, h0]
        have LW := l3With_ok nlc false ctx [(false, part1 yt), (false, part0 yt)] (by omega) (by simp)
        have := isCx_own (f := [(false, part1 yt), (false, part0 yt)]) hcf (by simp) (cx := addedP 5 gty i yt ++ ctx.map Prod.snd) (by simp [ea])
        simp (disch := omega) [e5, fldLV, ofCells]
        refine onCall_eq hP1 (by simp) ?_
        simp (disch := omega)
        refine onCall_eq hP0 (by simp) ?_
        simp (disch := omega) [chunks]
        refine onCall_eq LW (by simp) ?_
        simp (disch := omega)
        exact this
      · have e5 : eqB op 5 = false := by rw [eqB_false]; exact h5
        have hk12 : kidsN (hd yt) = some 1 ∨ kidsN (hd yt) = some 2 := by
          by_cases h8 : op = 8
          · rw [q8 h8]; exact .inr kids_pair.2
          · have : op = 12 := by
              unfold addsI at h0
              rw [if_neg (by omega)] at h0
              by_cases g : (op = 8 ∧ 0 < (i : Int)) ∨ op = 9 ∨ (op = 12 ∧ (i : Int) = 1)
              · omega
              · rw [if_neg g] at h0; simp at h0
            exact .inl (kids_bx (q12 this))
        have hP := hpart ((i : Int) - 1) hk12
        have ea : addedP op gty i yt = [if (i : Int) - 1 = 0 then part0 yt else part1 yt] := by
          unfold addedP
          rw [if_neg h9, if_neg h0, if_neg h5]
          by_cases h8 : op = 8
          · rw [if_pos h8]
            by_cases h1 : i = 1
            · rw [if_pos h1, if_pos (by omega)]
            · rw [if_neg h1, if_neg (by omega)]
          · rw [if_neg h8, if_pos]
            unfold addsI at h0
            rw [if_neg (by omega)] at h0
            by_cases g : (op = 8 ∧ 0 < (i : Int)) ∨ op = 9 ∨ (op = 12 ∧ (i : Int) = 1)
            · omega
            · rw [if_neg g] at h0; simp at h0
        rw [ea]
        generalize (if (i : Int) - 1 = 0 then part0 yt else part1 yt) = pt at *
        have LW := l3With_ok nlc false ctx [(false, pt)] (by omega) (by simp)
        have := isCx_own (f := [(false, pt)]) hcf (by simp) (cx := [pt] ++ ctx.map Prod.snd) (by simp)
        simp (disch := omega) [e5, i64_wrap, fldLV, ofCells]
        refine onCall_eq hP (by simp) ?_
        simp (disch := omega) [chunks]
        refine onCall_eq LW (by simp) ?_
        simp (disch := omega)
        exact this
end Go.Proofs.YtclfngbealdbgaaGreat
namespace Go.Proofs.YtclfngbealdbgaaGreat
open Go Go.TL
open Go.Proofs.YtclfngbealdbgaaGreat.Ty
set_option linter.unusedSimpArgs false
set_option linter.unusedVariables false
set_option linter.unusedSectionVars false
set_option maxRecDepth 20000
set_option maxHeartbeats 4000000
theorem specForgetType_ok (nl : Bool) (l : List Int) (hl : Lok l) (hw : wty l = true) : Gives Tryz.prog n_spec_ForgetType [L nl l] (· = OU true false (forgot l)) := by
  have hlen := wty_len hw
  refine Gives.of_codeOf c_spec_ForgetType mixed (by simp) ⟨_, rfl, by simp⟩ ?_
  simp (disch := omega) [k_spec_ForgetType]
  refine onCall_eq (l2Type_ok nl l hl) (by simp) ?_
  simp (disch := omega) [hw]
  refine wpC_for l.length 0 (fun i t _ => t 4 = N i ∧ t 3 = OU true false (forgot (l.take i))) (by simp [forgot]) (by omega) ?_
  rintro i t1 hh hf hi ⟨e4, e3⟩
  (have e0 := hf 0 (by kernel_rfl); clear hf; simp [] at e0)
  have hfl := forgot_length (l.take i)
  simp only [List.length_take] at hfl
  by_cases h1 : i < l.length
  · have hb : ltB (i : Int) l.length = true := by rw [ltB_true]; omega
    have hx : l.getD i 0 = l[i] := by simp [List.getD_eq_getElem?_getD, h1]
    have hcode := wty_codes hw i h1
    rw [hx] at hcode
    have hsn : forgot (l.take (i + 1)) = forgot (l.take i) ++ (if isBox l[i] = true then [] else if isArrow l[i] = true then [4] else [l[i]]) := by rw [List.take_succ_eq_append_getElem h1, forgot_snoc]
    have hix := idx_L l false nl i (by omega) (by omega)
    have ap : ∀ y : Int, appLV 1 (.sl true false 1 ((forgot (l.take i)).map fun n => [N n])) (.sl true false 1 [[N y]]) = some (OU true false (forgot (l.take i) ++ [y])) := by
      intro y
      simp only [appLV]
      rw [if_pos ⟨.inl trivial, .inl trivial, .inl trivial, by simp [most]; omega⟩]
      simp
    obtain ⟨_, _, k3⟩ := shape_is hcode
    generalize forgot (l.take i) = F at *
    simp (disch := omega) [e0, e3, e4, hb, hix]
    refine onCall_eq (arrow_ok l[i]) (by simp) ?_
    rw [hsn]
    cases hA : isArrow l[i]
    · simp (disch := omega) [e0, e3, e4, hix]
      refine onCall_eq (box_ok l[i]) (by simp) ?_
      cases hB : isBox l[i]
      · simp (disch := omega) [e0, e3, e4, hix, ap, i64_wrap, h1, chunks]
      · simp (disch := omega) [e0, e3, e4, hix, i64_wrap, h1]
    · have hB : isBox l[i] = false := by
        cases hB : isBox l[i]
        · rfl
        · simp [hA, hB] at k3
      simp (disch := omega) [e0, e3, e4, ap, hB, i64_wrap, h1, chunks]
  · have hb : ltB (i : Int) l.length = false := by rw [ltB_false]; omega
    simp (disch := omega) [e0, e3, e4, hb]
    rw [List.take_of_length_le (by omega)]
def isT (g : GTerm) (r : LV) : Prop := ∃ (w : GTerm) (cs : List LV), r = .agg cs ∧ shareAll cs = w.cells ∧ w.nm = g.nm
theorem len4 {cs : List LV} (h : cs.length = 4) : ∃ a b c d, cs = [a, b, c, d] := by
  match cs, h with
  | [a, b, c, d], _ => exact ⟨a, b, c, d, rfl⟩
theorem idx_share {rows : List (List LV)} {ws : List GTerm} (h : shareRow rows = rowsOf ws) (u nl : Bool) (i : Nat) (hi : i < ws.length) : idxLV 4 (.sl u nl 4 rows) (i : Int) = some (.rp (ws[i]'hi).cells) := by
  have hl : rows.length = ws.length := by rw [← shareRow_length, h, rowsOf_length]
  have e : shareAll (rows[i]'(by omega)) = (ws[i]).cells := by
    have := congrArg (fun l => l[i]?) h
    simp only [shareRow_eq_map, rowsOf_eq, List.getElem?_map, List.getElem?_eq_getElem hi, List.getElem?_eq_getElem (show i < rows.length by omega), Option.map_some, Option.some.injEq] at this
    rw [shareAll_eq_map]; exact this
  simp only [idxLV]
  rw [if_pos ⟨trivial, by omega, by omega⟩]
  have : rows.getD (i : Int).toNat [] = rows[i]'(by omega) := by simp [List.getD_eq_getElem?_getD, show i < rows.length by omega]
  rw [this, share, e]
mutual
theorem same_of_nm : ∀ a b : GTerm, a.nm = b.nm → a.same b = true
  | .mk op n nl1 ty nl2 ks, .mk op' n' nl1' ty' nl2' ks', h => by
    simp only [GTerm.nm, GTerm.mk.injEq] at h
    obtain ⟨rfl, rfl, _, rfl, _, h⟩ := h
    simp [GTerm.same, sames_of_nm ks ks' h]
theorem sames_of_nm : ∀ a b : List GTerm, nms a = nms b → sames a b = true
  | [], [], _ => by simp [sames]
  | [], _ :: _, h => by simp [nms] at h
  | _ :: _, [], h => by simp [nms] at h
  | a :: a', b :: b', h => by
    simp only [nms, List.cons.injEq] at h
    simp [sames, same_of_nm a b h.1, sames_of_nm a' b' h.2]
end
end Go.Proofs.YtclfngbealdbgaaGreat
namespace Go.Proofs.YtclfngbealdbgaaGreat
open Go Go.TL
open Go.Proofs.YtclfngbealdbgaaGreat.Ty
set_option linter.unusedSimpArgs false
set_option linter.unusedVariables false
set_option linter.unusedSectionVars false
set_option maxRecDepth 20000
set_option maxHeartbeats 4000000
theorem nms_snoc (a : List GTerm) (k : GTerm) : nms (a ++ [k]) = nms a ++ [k.nm] := by simp [nms_eq]
theorem rowsOf_snoc (a : List GTerm) (k : GTerm) : rowsOf (a ++ [k]) = rowsOf a ++ [k.cells] := by simp [rowsOf_eq]
theorem nm_at {a b : List GTerm} (h : nms a = nms b) {i : Nat} (hi : i < a.length) (hj : i < b.length) : (a[i]).nm = (b[i]).nm := by
  have := congrArg (fun l => l[i]?) h
  simpa [nms_eq, hi, hj] using this
theorem isT_mk {op n : Int} {f1 f2 : Bool} {ty : List Int} {K ws : List GTerm} {rows : List (List LV)} {T : LV} {u nlT : Bool} (h : shareRow rows = rowsOf ws) (hn : nms ws = nms K) (hT : share T = L nlT ty) : isT (.mk op n f1 ty f2 K) (.agg [N op, N n, T, .sl u false 4 rows]) := by
  refine ⟨.mk op n nlT ty false ws, _, rfl, ?_, ?_⟩
  · simp only [shareAll, share, hT, h, GTerm.cells]
  · simp only [GTerm.nm, hn]
    rw [← nms_empty ws, hn, nms_empty]
theorem fg_nm_len {a b : List GTerm} (h : nms a = nms b) : a.length = b.length := by
  have := congrArg List.length h
  simpa using this
theorem l10Forget_ok {s : GSys} (hsy : s.sys = true) (d : Nat) : ∀ (g : GTerm) (nlc : Bool) (ctx : GCtx) (x : TT), g.size ≤ d → g.wf → g.fl → (∀ c ∈ ctx, okL s.size c.2 = true) → (∀ c ∈ ctx, c.1 = false) → ctx.length + 2 * g.size ≤ 100000 →
    formB ctx.length s.size true g = true → tellG s (ctx.map Prod.snd) g = .ok x → Gives Tryz.prog n_spec_l10Forget [s.lv, LC nlc ctx, g.lv] (isT (fgG g x)) := by
  induction d with
  | zero => intro g _ _ _ h; have := g.size_pos; omega
  | succ d ih =>
    rintro ⟨op, n, nl1, gty, nl2, ks⟩ nlc ctx x hd hw hfl hc hcf hlen hf htl
    have t := GSys.sys_of hsy
    have hcs : ∀ l ∈ ctx.map Prod.snd, okL s.size l = true := fun l hl => by
      obtain ⟨c, h1, rfl⟩ := List.mem_map.1 hl
      exact hc c h1
    obtain ⟨T, _, _⟩ := tell_inv t hcs (by rw [List.length_map]; exact hf) htl
    have hw0 := hw
    have hfl0 := hfl
    simp only [GTerm.wf] at hw
    obtain ⟨hop, hn, hty, hk, hks⟩ := hw
    simp only [GTerm.fl] at hfl
    obtain ⟨hf1, hfk⟩ := hfl
    simp only [GTerm.size] at hd hlen
    obtain ⟨xty, xnd, xs⟩ := x
    simp only [TT.kids_mk] at T
    have hxl := T.len
    have hkl := fgK_length ks xs
    have many := T.node.many
    have hgl := hty.1
    have hte : typedB op = false → gty = [] := fun h => by
      simp only [formB, Bool.and_eq_true, nodeB] at hf
      have := hf.1.2.2
      rw [tyB, if_neg (by simp [h]), eqB_true] at this
      exact List.eq_nil_of_length_eq_zero (by omega)
    have eC0 : (GTerm.mk op n nl1 gty nl2 ks).cells = [N op, N n, L nl1 gty, .sl false nl2 4 (rowsOf ks)] := by simp [GTerm.cells]
    refine Gives.of_codeOf c_spec_l10Forget mixed (by simp) ⟨.agg (fgG (.mk op n nl1 gty nl2 ks) (.mk xty xnd xs)).cells, ⟨_, _, rfl, by simp, rfl⟩, by simp⟩ ?_
    simp only [k_spec_l10Forget]
    simp (disch := omega) [boxLV, frzLV, GTerm.cells]
    refine wpC_forM ks.length 0 (fun i t h => t 8 = N i ∧ h = [none, none, some [N 0, N 0, .sl true true 1 [], .sl true true 1 []]] ∧ ∃ rows ws, t 7 = .sl true false 4 rows ∧ shareRow rows = rowsOf ws ∧ LowRow 0 rows ∧ nms ws = nms ((fgK ks xs).take i))
      (fun t h => h = [none, none, some [N 0, N 0, .sl true true 1 [], .sl true true 1 []]] ∧ ∃ rows ws, t 7 = .sl true false 4 rows ∧ shareRow rows = rowsOf ws ∧ LowRow 0 rows ∧ nms ws = nms (fgK ks xs)) ⟨by simp, by simp, [], [], by simp [chunks], by simp [rowsOf, shareRow], by simp, by simp⟩ (by omega) ?_ ?_
    · rintro i t1 hh hf1 hi ⟨e8, rfl, rows, ws, e7, hsh, hlo, hnm⟩
      (have e1 := hf1 1 (by kernel_rfl); have e3 := hf1 3 (by kernel_rfl); have e5 := hf1 5 (by kernel_rfl); clear hf1; simp [GTerm.cells] at e1 e3 e5)
      by_cases h6 : i < ks.length
      · have hb : ltB (i : Int) ks.length = true := by rw [ltB_true]; omega
        obtain ⟨y, hy1, hy2, hy3, hy4, hy5⟩ := T.each i h6
        have hwk : (ks[i]).wf := (wfs_iff.1 hks) _ (List.getElem_mem h6)
        have hfk2 : (ks[i]).fl := (fls_iff.1 hfk) _ (List.getElem_mem h6)
        have hsk := size_kid h6
        have IN := l7Inner_ok hsy op n nl1 gty nl2 ks nlc ctx xs i h6 hw0 hfl0 hc hcf (by omega) T
        have hwl : ws.length = i := by
          have := fg_nm_len hnm
          rw [this, List.length_take]; omega
        have hrl : rows.length = i := by rw [← shareRow_length, hsh, rowsOf_length, hwl]
        have hix := idx_T ks false nl2 i h6
        have ftk := fgK_take h6 hy1
        simp only [GTerm.lv, GTerm.cells] at IN
        simp (disch := omega) [e1, e3, e5, e7, e8, hb]
        refine onCall_gives (Gives.low IN) (by simp) ?_
        rintro r ⟨⟨nl, c, hs, hsn, hcf'⟩, lo⟩
        have recu := ih ks[i] nl c y (by omega) hwk hfk2 (fun a ha => hy3 _ (by rw [← hsn]; exact List.mem_map_of_mem ha)) hcf' (by
            have := congrArg List.length hsn
            rw [List.length_map] at this
            rw [List.length_map] at hy5
            omega) (by
            have := congrArg List.length hsn
            rw [List.length_map] at this
            rw [this]; exact hy4) (by rw [hsn]; exact hy2)
        simp (disch := omega) [e1, e3, e5, e7, e8, hs, hix]
        refine onCall_gives (Gives.low recu) (by simp) ?_
        rintro r2 ⟨⟨w, cs, rfl, hcs2, hwn⟩, lo2⟩
        obtain ⟨c0, c1, c2, c3, rfl⟩ := len4 (cs := cs) (by rw [← shareAll_length, hcs2]; simp)
        have ap : appLV 4 (.sl true false 4 rows) (.sl true false 4 [[c0, c1, c2, c3]]) = some (.sl true false 4 (rows ++ [[c0, c1, c2, c3]])) := by
          simp only [appLV]
          rw [if_pos ⟨.inl trivial, .inl trivial, .inl trivial, by simp [most]; omega⟩]
          simp
        have hsh2 : shareRow (rows ++ [[c0, c1, c2, c3]]) = rowsOf (ws ++ [w]) := by
          rw [rowsOf_snoc, ← hsh, ← hcs2]; simp [shareRow_eq_map, shareAll_eq_map]
        have hlo2 : LowRow 0 (rows ++ [[c0, c1, c2, c3]]) := by
          simp at lo2; simp [hlo, lo2]
        have hnm2 : nms (ws ++ [w]) = nms ((fgK ks xs).take (i + 1)) := by
          rw [nms_snoc, hnm, ftk, nms_snoc, hwn]
        simp (disch := omega) [e1, e3, e5, e7, e8, chunks, ap, h6, i64_wrap]
        refine ⟨ws ++ [w], ?_, by simpa using hlo2, hnm2⟩
        rw [rowsOf_snoc, hsh, ← hcs2]; simp [shareAll]
      · have hb : ltB (i : Int) ks.length = false := by rw [ltB_false]; omega
        have e := List.take_of_length_le (l := fgK ks xs) (i := i) (by rw [fgK_length]; omega)
        rw [e] at hnm
        simp (disch := omega) [e5, e7, e8, hb]
        exact ⟨ws, hsh, hlo, hnm⟩
    · rintro t2 hh hf2 ⟨rfl, rows, ws, e7, hsh, hlo, hnm⟩
      (have e1 := hf2 1 (by kernel_rfl); have e3 := hf2 3 (by kernel_rfl); have e5 := hf2 5 (by kernel_rfl); have e6 := hf2 6 (by kernel_rfl); clear hf2; simp [GTerm.cells] at e1 e3 e5 e6)
      have hwl : ws.length = ks.length := by rw [fg_nm_len hnm, hkl]
      have hrl : rows.length = ks.length := by rw [← shareRow_length, hsh, rowsOf_length, hwl]
      simp (disch := omega) [e1, e3, e5, e6, e7]
      by_cases h11 : op = 11
      · subst h11
        have hkk : ks.length = 1 := by simp [manyI] at many; omega
        have hg : fgG (.mk 11 n nl1 gty nl2 ks) (.mk xty xnd xs) = (fgK ks xs)[0]'(by omega) := by
          simp only [fgG, if_true, TT.kids_mk]
          rw [List.headD_eq_head?_getD, List.head?_eq_getElem?, List.getElem?_eq_getElem (by omega)]; rfl
        have he1 : eqB 11 11 = true := by rw [eqB_true]
        have hix : idxLV 4 (.sl true false 4 rows) 0 = some (.rp (ws[0]'(by omega)).cells) := by
          have := idx_share hsh true false 0 (by omega); simpa using this
        have hn0 := nm_at hnm (i := 0) (by omega) (by omega)
        rw [hg]
        simp (disch := omega) [e1, e3, e5, e6, e7, he1, hix]
        exact ⟨_, _, rfl, by simp, hn0⟩
      · by_cases h12 : op = 12
        · subst h12
          have hkk : ks.length = 2 := by simp [manyI] at many; omega
          obtain ⟨y0, hy0, hy2, hy3, hy4, _⟩ := T.each 0 (by omega)
          have ea0 : addedP 12 gty 0 (first xs) = [] := by simp [addedP, addsI]
          rw [ea0, List.nil_append] at hy2 hy4
          have hk0 := T.kids.first (by rintro rfl; simp at hy0)
          have hfirst : first xs = y0.ty := by simp [first, tyP, List.getD_eq_getElem?_getD, hy0]
          have hpt : tyP xs 0 = y0.ty := hfirst
          rw [hfirst] at hk0
          have hb0 := hk0.2.1.2.2.2.2 rfl
          have hp0 := okL_one hk0.1 (kids_bx hb0)
          have hsk := size_kid (ks := ks) (i := 0) (by omega)
          have tl := l3Tell_ok hsy (ks[0]'(by omega)).size (ks[0]'(by omega)) nlc ctx (Nat.le_refl _) ((wfs_iff.1 hks) _ (List.getElem_mem _)) ((fls_iff.1 hfk) _ (List.getElem_mem _)) hc hcf (by omega) (by rw [List.length_map] at hy4; exact hy4)
          rw [hy2] at tl
          have hix : idxLV 4 (.sl false nl2 4 (rowsOf ks)) 0 = some (.rp (ks[0]'(by omega)).cells) := by
            have := idx_T ks false nl2 0 (by omega); simpa using this
          obtain ⟨w0, w1, rfl⟩ : ∃ w0 w1, ws = [w0, w1] := by
            match ws, hwl.trans hkk with
            | [a, b], _ => exact ⟨a, b, rfl⟩
          obtain ⟨k0, k1, hK⟩ : ∃ k0 k1, fgK ks xs = [k0, k1] := by
            have : (fgK ks xs).length = 2 := by omega
            match h : fgK ks xs, this with
            | [a, b], _ => exact ⟨a, b, rfl⟩
          rw [hK] at hnm
          simp only [nms, List.cons.injEq, and_true] at hnm
          have hi0 : idxLV 4 (.sl true false 4 rows) 0 = some (.rp w0.cells) := by
            have := idx_share hsh true false 0 (by simp); simpa using this
          have hi1 : idxLV 4 (.sl false false 4 (rowsOf [w0, w1])) 1 = some (.rp w1.cells) := by
            have := idx_T [w0, w1] false false 1 (by simp); simpa using this
          have PT := l2Part_ok hk0.1 0 (.inl (kids_bx hb0))
          rw [if_pos rfl] at PT
          have FT := specForgetType_ok false (part0 y0.ty) (wty_Lok (okL_wty hp0.2.2)) (okL_wty hp0.2.2)
          have he11 : eqB 12 11 = false := by rw [eqB_false]; omega
          have he12 : eqB 12 12 = true := by rw [eqB_true]
          have hg : fgG (.mk 12 n nl1 gty nl2 ks) (.mk xty xnd xs) = .mk 10 0 true [] false [.mk 9 1 false (forgot (part0 y0.ty)) false [k1], k0] := by
            simp [fgG, hK, hpt]
          rw [hg]
          simp (disch := omega) [e1, e3, e5, e6, e7, he11, he12, hix]
          refine onCall_gives (Gives.low tl) (by simp) ?_
          rintro r ⟨⟨u1, u2, u4, n4, rfl⟩, lo⟩
          simp (disch := omega) [e1, e3, e5, e6, e7, fldLV, ofCells]
          refine onCall_eq PT (by simp) ?_
          simp (disch := omega) [e1, e3, e5, e6, e7]
          refine onCall_eq FT (by simp) ?_
          simp (disch := omega) [e1, e3, e5, e6, e7, hsh, hi1, hi0, chunks, frzLV]
          exact ⟨.mk 10 0 true [] false [.mk 9 1 false (forgot (part0 y0.ty)) false [w1], w0], _, rfl, by simp [shareAll, shareRow, GTerm.cells, rowsOf], by simp [GTerm.nm, nms, hnm]⟩
        · have e11 : eqB op 11 = false := by rw [eqB_false]; omega
          have e12 : eqB op 12 = false := by rw [eqB_false]; omega
          have hg : fgG (.mk op n nl1 gty nl2 ks) (.mk xty xnd xs) = .mk op (if hasB op = true then 1 else n) true (forgot gty) true (fgK ks xs) := by
            simp [fgG, h11, h12]
          rw [hg]
          simp (disch := omega) [e1, e3, e5, e6, e7, e11, e12]
          refine onCall_eq (l2Has_ok op) (by simp) ?_
          have hL2 := l2Typed_ok op
          have FTy := fun h => specForgetType_ok nl1 gty hty (okL_wty (T.node.typed h))
          have hem : (nms ws) = nms (fgK ks xs) := hnm
          have heE : ws.isEmpty = (fgK ks xs).isEmpty := by rw [← nms_empty, hnm, nms_empty]
          cases hb : hasB op <;> simp (disch := omega) [e1, e3, e5, e6, e7] <;> refine onCall_eq hL2 (by simp) ?_ <;> cases htb : typedB op
          all_goals
            simp (disch := omega) [e1, e3, e5, e6, e7]
            try refine onCall_eq (FTy htb) (by simp) ?_
            try simp (disch := omega) [e1, e3, e5, e6, e7, hlo]
          · have e := hte htb; subst e; exact isT_mk hsh hnm (nlT := true) (by simp [forgot])
          · exact isT_mk hsh hnm (nlT := false) (by simp)
          · have e := hte htb; subst e; exact isT_mk hsh hnm (nlT := true) (by simp [forgot])
          · exact isT_mk hsh hnm (nlT := false) (by simp)
end Go.Proofs.YtclfngbealdbgaaGreat
namespace Go.Proofs.YtclfngbealdbgaaGreat
open Go Go.TL
open Go.Proofs.YtclfngbealdbgaaGreat.Ty
set_option linter.unusedSimpArgs false
set_option linter.unusedVariables false
set_option linter.unusedSectionVars false
set_option maxRecDepth 20000
set_option maxHeartbeats 4000000
theorem num_I64 {nv size op n : Int} {closed : Bool} (h : numB nv size closed op n = true) (hv : nv ≤ 1000000000) (hs : size ≤ 16) : I64 n := by
  unfold numB at h
  unfold I64
  split at h
  · rw [within_true] at h; omega
  · split at h
    · rw [within_true] at h; omega
    · split at h
      · simp only [Bool.and_eq_true, ltB_true, leB_true] at h; omega
      · rw [eqB_true] at h; omega
theorem ty_Lok {size op : Int} {closed : Bool} {ty : List Int} (h : tyB size closed op ty = true) : Lok ty := by
  unfold tyB at h
  split at h
  · rw [Bool.and_eq_true] at h; exact wty_Lok h.1
  · rw [eqB_true] at h
    have : ty = [] := List.eq_nil_of_length_eq_zero (by omega)
    subst this
    exact ⟨by simp, by simp⟩
theorem many_le (op : Int) : manyI op ≤ 3 := by
  unfold manyI
  repeat' split
  all_goals omega
mutual
theorem form_wf {size : Int} {closed : Bool} (hs : size ≤ 16) : ∀ (g : GTerm) (nv : Int), nv + 2 * g.size ≤ 1000000000 → formB nv size closed g = true → g.wf
  | .mk op n nl1 ty nl2 ks, nv, hv, h => by
    simp only [formB, nodeB, Bool.and_eq_true, GTerm.size] at h hv
    obtain ⟨⟨h1, h2, h3⟩, h4⟩ := h
    have hop := many_form' h1
    rw [within_true] at hop
    rw [eqB_true] at h1
    have := many_le op
    simp only [GTerm.wf]
    exact ⟨by unfold I64; omega, num_I64 h2 (by omega) hs, ty_Lok h3, by omega, forms_wf hs ks nv op 0 (by omega) h4⟩
theorem forms_wf {size : Int} {closed : Bool} (hs : size ≤ 16) : ∀ (ks : List GTerm) (nv op : Int) (k : Nat), nv + 2 + 2 * sizes ks ≤ 1000000000 → formsB nv size closed op k ks = true → wfs ks
  | [], _, _, _, _, _ => by simp [wfs]
  | g :: ks, nv, op, k, hv, h => by
    simp only [formsB, Bool.and_eq_true, sizes] at h hv
    have := addsI_range op k
    simp only [wfs]
    exact ⟨form_wf hs g _ (by omega) h.1, forms_wf hs ks nv op (k + 1) (by omega) h.2⟩
end
theorem forms_of {nv size : Int} {closed : Bool} {op : Int} : ∀ {ks : List GTerm} {k : Nat}, (∀ (i : Nat) (h : i < ks.length), formB (nv + addsI op ((k + i : Nat) : Int)) size closed ks[i] = true) → formsB nv size closed op k ks = true
  | [], _, _ => by simp [formsB]
  | t :: ts, k, hf => by
    simp only [formsB, Bool.and_eq_true]
    refine ⟨by have := hf 0 (by simp); simpa only [Nat.add_zero, List.getElem_cons_zero] using this, forms_of fun i hi => ?_⟩
    have := hf (i + 1) (by simpa using hi)
    rw [show k + (i + 1) = k + 1 + i by omega] at this
    exact this
theorem forgot_okL {size : Int} (h2 : 2 ≤ size) {l : List Int} (h : wty l = true) : okL size (forgot l) = true := by
  obtain ⟨t, h3, rfl, h5⟩ := wty_tree h
  obtain ⟨u, h6, h7⟩ := RT.forgot_tree t h3
  have hl := forgot_length t.flat
  refine okL_iff.2 ⟨u, h6, h7.symm, by omega, fun c hc => ?_⟩
  have hs := forgot_small (fun n hn => wty_I64 h n hn) c hc
  have hnb : isBox c = false := by
    cases hb : isBox c with
    | false => rfl
    | true => rw [gl_box] at hb; omega
  cases ha : isArrow c with
  | false => simp [okC, ha, hnb]
  | true =>
    rw [gl_arrow] at ha
    have hc4 : c = 4 := by
      simp only [forgot, List.mem_flatMap] at hc
      obtain ⟨d, hd, hcd⟩ := hc
      split at hcd
      · simp at hcd
      · split at hcd
        · simpa using hcd
        · rename_i q1 q2
          simp at hcd; subst hcd
          rw [gl_arrow] at q2; omega
    subst hc4
    have : isArrow 4 = true := by decide
    simp [okC, gradeI, leB_true, ltB_true]; omega
mutual
theorem fgG_size : ∀ (g : GTerm) (x : TT), (fgG g x).size ≤ 4 * g.size
  | .mk op n nl1 ty nl2 ks, x => by
    have hk := fgK_size ks x.kids
    simp only [fgG]
    split
    · cases h : fgK ks x.kids with
      | nil => simp [GTerm.size, sizes]; omega
      | cons a l => rw [h] at hk; simp [GTerm.size, sizes] at hk ⊢; omega
    · split
      · match h : fgK ks x.kids with
        | [] => simp [GTerm.size, sizes]; omega
        | [a] => rw [h] at hk; simp [GTerm.size, sizes] at hk ⊢; omega
        | a :: b :: l => rw [h] at hk; simp [GTerm.size, sizes] at hk ⊢; omega
      · simp [GTerm.size]; omega
theorem fgK_size : ∀ (ks : List GTerm) (xs : List TT), sizes (fgK ks xs) ≤ 4 * sizes ks
  | [], _ => by simp [fgK, sizes]
  | k :: ks, xs => by
    have h1 := fgG_size k (xs.headD (.mk [] [] []))
    have h2 := fgK_size ks xs.tail
    simp only [fgK, sizes]; omega
end
theorem fg_form {s : GSys} (t : s.Tab) (d : Nat) : ∀ (g : GTerm) (ctx : List (List Int)) (x : TT), g.size ≤ d → (∀ l ∈ ctx, okL s.size l = true) → formB ctx.length s.size true g = true → tellG s ctx g = .ok x → formB ctx.length s.size true (fgG g x) = true := by
  induction d with
  | zero => intro g _ _ h; have := g.size_pos; omega
  | succ d ih =>
    rintro ⟨op, n, nl1, gty, nl2, ks⟩ ctx x hd hc hf htl
    obtain ⟨T, _, _⟩ := tell_inv t hc hf htl
    obtain ⟨xty, xnd, xs⟩ := x
    simp only [TT.kids_mk, GTerm.size] at T hd
    have hkl := fgK_length ks xs
    have hxl := T.len
    have many := T.node.many
    have h2 := t.lo
    have each : ∀ (i : Nat) (h : i < ks.length), formB ((ctx.length : Int) + addsI op i) s.size true ((fgK ks xs)[i]'(by omega)) = true := fun i h => by
      obtain ⟨y, h1, h2, h3, h4, h5⟩ := T.each i h
      have hsk := size_kid h
      rw [fgK_get ks xs i h y h1]
      have := ih ks[i] _ y (by omega) h3 h4 h2
      have hr := addsI_range op i
      rw [List.length_append, added_len, show (((addsI op i).toNat + ctx.length : Nat) : Int) = (ctx.length : Int) + addsI op i by omega] at this
      exact this
    by_cases h11 : op = 11
    · subst h11
      have hkk : ks.length = 1 := by simp [manyI] at many; omega
      have hg : fgG (.mk 11 n nl1 gty nl2 ks) (.mk xty xnd xs) = (fgK ks xs)[0]'(by omega) := by
        simp only [fgG, if_true, TT.kids_mk]
        rw [List.headD_eq_head?_getD, List.head?_eq_getElem?, List.getElem?_eq_getElem (by omega)]; rfl
      rw [hg]
      have := each 0 (by omega)
      simpa [addsI] using this
    · by_cases h12 : op = 12
      · subst h12
        have hkk : ks.length = 2 := by simp [manyI] at many; omega
        obtain ⟨y0, hy0, hy2, hy3, hy4, _⟩ := T.each 0 (by omega)
        have hk0 := T.kids.first (by rintro rfl; simp at hy0)
        have hfirst : first xs = y0.ty := by simp [first, tyP, List.getD_eq_getElem?_getD, hy0]
        have hpt : tyP xs 0 = y0.ty := hfirst
        rw [hfirst] at hk0
        have hb0 := hk0.2.1.2.2.2.2 rfl
        have hp0 := okL_one hk0.1 (kids_bx hb0)
        obtain ⟨k0, k1, hK⟩ : ∃ k0 k1, fgK ks xs = [k0, k1] := by
          have : (fgK ks xs).length = 2 := by omega
          match h : fgK ks xs, this with
          | [a, b], _ => exact ⟨a, b, rfl⟩
        have e0 := each 0 (by omega)
        have e1 := each 1 (by omega)
        simp only [hK, List.getElem_cons_zero, List.getElem_cons_succ] at e0 e1
        have hg : fgG (.mk 12 n nl1 gty nl2 ks) (.mk xty xnd xs) = .mk 10 0 true [] false [.mk 9 1 false (forgot (part0 y0.ty)) false [k1], k0] := by
          simp [fgG, hK, hpt]
        have hfo := forgot_okL h2 (okL_wty hp0.2.2)
        unfold okL at hfo
        rw [Bool.and_eq_true] at hfo
        have hl : ltB 1 s.size = true := by rw [ltB_true]; omega
        rw [hg]
        simp only [formB, formsB, nodeB, numB, tyB, Bool.and_eq_true]
        simp [addsI] at e0 e1
        simp [manyI, hasB, typedB, eqB, leB, addsI, hfo.1, hfo.2, e0, e1]
        omega
      · have hg : fgG (.mk op n nl1 gty nl2 ks) (.mk xty xnd xs) = .mk op (if hasB op = true then 1 else n) true (forgot gty) true (fgK ks xs) := by
          simp [fgG, h11, h12]
        simp only [formB, nodeB, Bool.and_eq_true] at hf
        obtain ⟨⟨q1, q2, q3⟩, q4⟩ := hf
        rw [hg]
        simp only [formB, nodeB, Bool.and_eq_true]
        refine ⟨⟨by rw [hkl]; exact q1, ?_, ?_⟩, forms_of fun i hi => ?_⟩
        · cases hb : hasB op with
          | false => simpa using q2
          | true =>
            have n01 : eqB op 0 = false ∧ eqB op 1 = false := by
              constructor
              · rw [eqB_false]; rintro rfl; simp [hasB, eqB] at hb
              · rw [eqB_false]; rintro rfl; simp [hasB, eqB] at hb
            simp [numB, n01.1, n01.2, hb, leB_true, ltB_true]; omega
        · unfold tyB at q3 ⊢
          cases ht : typedB op with
          | false =>
            rw [ht, if_neg (by simp), eqB_true] at q3
            have : gty = [] := List.eq_nil_of_length_eq_zero (by omega)
            subst this
            simp [forgot, eqB]
          | true =>
            rw [ht, if_pos rfl, Bool.and_eq_true] at q3
            have := forgot_okL h2 q3.1
            unfold okL at this
            simpa using this
        · have := each i (by omega)
          simpa using this
end Go.Proofs.YtclfngbealdbgaaGreat
