/- Part 6 of the proof of the row of the text YtclfngbealdbgaaGreatZRowPutTyped: texts joined. No conditions. -/
import Derived.Test.YtclfngbealdbgaaGreatZeRowPutTyped
set_option linter.unusedSimpArgs false
set_option linter.unusedVariables false
set_option linter.unusedSectionVars false
namespace Go.Proofs.YtclfngbealdbgaaGreat
open Go Go.TL
open Go.Proofs.YtclfngbealdbgaaGreat.Ty
set_option linter.unusedSimpArgs false
set_option linter.unusedVariables false
set_option maxRecDepth 20000
set_option maxHeartbeats 4000000
def ZJ (nl : Bool) (l : List Int) : Prop := nl = true → l = []
mutual
def GTerm.fl : GTerm → Prop
 | .mk _ _ nl1 ty _ ks => ZJ nl1 ty ∧ fls ks
def fls : List GTerm → Prop
 | [] => True
 | k :: ks => k.fl ∧ fls ks
end
theorem ZS : ∀ {ks : List GTerm}, fls ks ↔ ∀ k ∈ ks, k.fl
 | [] => by simp [fls]
 | k :: ks => by simp [fls, ZS (ks := ks)]
def FzR (R : LV → Prop) (r : LV) (h' : List Box) : Prop := ∃ t h1 m, Fz t r h' h1 ∧ (0 : Nat) ≤ m ∧ m ≤ h1.length ∧ Low m t ∧ (∀ l xs, l < m → h1[l]? = some (some xs) → QE m xs) ∧ R t ∧ Low 0 t
theorem Qd.freeze {P : Program} {f : FuncId} {args : List LV} {R : LV → Prop} (c : Wa P f args [] (FzR R)) : Qd P f args R := by
 refine Wa.freeze (c.mono fun r h' hr => ?_)
 obtain ⟨t, h1, m, a, b, c, d, e, f, g⟩ := hr
 exact ⟨t, h1, m, a, b, c, d, e, f, g⟩
theorem fz_bad {R : LV → Prop} {h' : List Box} {l : Nat} {xs : List LV} (hl : h'[l]? = some (some xs)) (hs : Vc xs xs (h'.set l none) (h'.set l none)) (lo : QE 0 xs) (hR : R (.rp xs)) : FzR R (.ptr l 0) h' :=
 ⟨.rp xs, h'.set l none, 0, by simp only [Fz]; exact .inr ⟨l, xs, rfl, hl, hs⟩, Nat.le_refl _, Nat.zero_le _, by simpa using lo, fun l xs h => by omega, hR, by simpa using lo⟩
theorem Zoj {u nl : Bool} {sz : Nat} {Qj : List (List LV)} (h : List Box) : Fz (.sl u nl sz Qj) (.sl u nl sz Qj) h h := by simp only [Fz]; exact .inl ⟨trivial, trivial⟩
theorem Zbj : ∀ {xs : List LV} {h : List Box}, (∀ x ∈ xs, ∀ h, Fz x x h h) → Vc xs xs h h
 | [], h, _ => by simp [Vc]
 | x :: xs, h, hx => by
  simp only [Vc]
  exact ⟨x, xs, h, rfl, hx x (by simp) h, Zbj fun y hy => hx y (by simp [hy])⟩
theorem Zae {R : LV → Prop} {h' : List Box} {l : Nat} {f : Int} {u nl : Bool} {p : List Int} (hl : h'[l]? = some (some [.sl true true 1 [], .sl true true 1 [], .sl true true 1 [], N f, OU u nl p]))
  (hR : R (.rp [.sl true true 1 [], .sl true true 1 [], .sl true true 1 [], N f, OU u nl p])) : FzR R (.ptr l 0) h' :=
 fz_bad hl (Zbj fun x hx => by
  simp only [List.mem_cons, List.not_mem_nil, or_false] at hx
  rcases hx with rfl | rfl | rfl | rfl | rfl
  all_goals first | exact Zoj | (intro h; simp [Fz])) (by simp) hR
theorem ZiQ : ∀ (l : List Int) (h : List Box), Zcz (l.map fun n => [N n]) 1 (l.map N) h h
 | [], h => by simp [Zcz]
 | a :: l, h => by
  simp only [List.map_cons, Zcz]
  exact ⟨[N a], l.map N, h, rfl, rfl, Zbj (fun x hx => by simp only [List.mem_singleton] at hx; subst hx; intro h; simp [Fz]), ZiQ l h⟩
theorem fz_ok {R : LV → Prop} {c2 : Box} {u : Bool} {T nd : List Int} {ndv : LV} {m : Nat} {u3 n3 : Bool} {Qj : List (List LV)} {hr : List Box} (lo : ∀ k, Wj k Qj)
  (hn : (∃ u, ndv = OU u false nd) ∨ (ndv = .ha 2 1 0 m m ∧ c2 = some (nd.map N) ∧ nd.length = m)) (hR : ∀ u2, R (.rp [OU u false T, OU u2 false nd, .sl u3 n3 1 Qj, N 0, .sl true true 1 []])) :
  FzR R (.ptr 3 0) (none :: none :: c2 :: some [OU u false T, ndv, .sl u3 n3 1 Qj, N 0, .sl true true 1 []] :: hr) := by
 rcases hn with ⟨u2, rfl⟩ | ⟨rfl, rfl, rfl⟩
 ·refine fz_bad (by rfl) (Zbj fun x hx => ?_) (by simp [lo]) (hR u2)
  simp only [List.mem_cons, List.not_mem_nil, or_false] at hx
  rcases hx with rfl | rfl | rfl | rfl | rfl
  all_goals first | exact Zoj | (intro h; simp [Fz])
 ·refine ⟨.rp [OU u false T, OU true false nd, .sl u3 n3 1 Qj, N 0, .sl true true 1 []], none :: none :: none :: none :: hr, 0, ?_, Nat.le_refl _, Nat.zero_le _, by simp [lo], fun l xs h => by omega, hR true, by simp [lo]⟩
  simp only [Fz]
  refine .inr ⟨3, _, rfl, rfl, ?_⟩
  simp only [Vc]
  refine ⟨_, _, _, rfl, Zoj _, _, _, _, rfl, ?_, _, _, _, rfl, Zoj _, _, _, _, rfl, ⟨rfl, rfl⟩, _, _, _, rfl, Zoj _, rfl, rfl⟩
  simp only [Fz]
  refine .inr ⟨trivial, trivial, 2, nd.length, nd.map N, [], by simp, by simp, by simp, by simp, ?_⟩
  exact ZiQ nd _
theorem ZU (ys : List LV) : (LV.rp ys).flat = true := rfl
theorem YP (ys : List LV) : (LV.rp ys).cells = [.rp ys] := rfl
theorem app_new {Qj : List (List LV)} {row : List LV} (h : Qj.length < 1099511627776) : WN 1 (.sl (!Qj.isEmpty) Qj.isEmpty 1 Qj) (.sl true false 1 [row]) = some (.sl (!(Qj ++ [row]).isEmpty) (Qj ++ [row]).isEmpty 1 (Qj ++ [row])) := by
 simp only [WN]
 rw [if_pos ⟨by cases Qj <;> simp, .inl trivial, .inl trivial, by simp [most]; omega⟩]
 cases Qj <;> simp
theorem ZhW {nv size : Int} {closed : Bool} {op : Int} : ∀ {ks : List GTerm} {k : Nat}, WR nv size closed op k ks = true → ∀ (i : Nat) (h : i < ks.length), WE (nv + Qp op ((k + i : Nat) : Int)) size closed ks[i] = true
 | [], _, _, i, h => by simp at h
 | t :: ts, k, hf, i, h => by
  simp only [WR, Bool.and_eq_true] at hf
  cases i with
  | zero => simpa using hf.1
  | succ i =>
   have := ZhW hf.2 i (by simpa using h)
   rw [show k + 1 + i = k + (i + 1) by omega] at this
   simpa using this
mutual
theorem VY {s : GSys} : ∀ (g : GTerm) (ctx : List (List Int)) (f : Int) (p : List Int), Qr s ctx g = .bad f p → p.length ≤ g.size
 | .mk op n _ ty _ ks, ctx, f0, p0, h => by
  rw [Qr] at h
  split at h
  ·rename_i f' p' hd
   simp only [Res.bad.injEq] at h
   obtain ⟨rfl, rfl⟩ := h
   have := Zjg ks ctx op n ty [] _ _ hd
   simpa [GTerm.size] using this
  ·split at h
   ·simp at h
   ·simp only [Res.bad.injEq] at h
    obtain ⟨_, rfl⟩ := h
    simp
theorem Zjg {s : GSys} : ∀ (ks : List GTerm) (ctx : List (List Int)) (op n : Int) (ty : List Int) (ds : List TT) (f : Int) (p : List Int), Q6 s ctx op n ty ds ks = .bad f p → p.length ≤ WX ks + 1
 | [], ctx, op, n, ty, ds, f, p, h => by simp [Q6] at h
 | k :: ks, ctx, op, n, ty, ds, f, p, h => by
  rw [Q6] at h
  split at h
  ·rename_i f' p' hd
   simp only [KRes.bad.injEq] at h
   obtain ⟨rfl, rfl⟩ := h
   have := VY k _ _ p' hd
   simp [WX]; omega
  ·split at h
   ·simp only [KRes.bad.injEq] at h
    obtain ⟨_, rfl⟩ := h
    simp
   ·split at h
    ·simp only [KRes.bad.injEq] at h
     obtain ⟨_, rfl⟩ := h
     simp
    ·have := Zjg ks ctx op n ty _ f p h
     simp [WX]; omega
end
theorem ZnN {c : Wx} (h : c.length < 1099511627776) (f : Bool) (l : List Int) : WN 1 (Zah c) (.sl true false 1 [[L f l]]) = some (Zah (c ++ [(f, l)])) := by
 have := app_new (Qj := c.map fun x => [eC x]) (row := [L f l]) (by rw [List.length_map]; exact h)
 have e1 : (c.map fun x => [eC x]).isEmpty = c.isEmpty := by cases c <;> rfl
 have e2 : (c.map (fun x => [eC x]) ++ [[L f l]]) = (c ++ [(f, l)]).map fun x => [eC x] := by simp
 have e3 : ((c ++ [(f, l)]).map fun x => [eC x]).isEmpty = (c ++ [(f, l)]).isEmpty := by cases c <;> rfl
 rw [e2, e1, e3] at this
 exact this
theorem Zgo (l : List Int) : Qu (l.map fun n => [N n]) = l.map fun n => [N n] := by simp
theorem Ji {c : Wx} {g g' : Nat → List Int} {v : Bool × List Int} (hc : ∀ (j : Nat) (h : j < c.length), (c[j]).2 = g j) (h1 : ∀ j, j < c.length → g' j = g j) (h2 : v.2 = g' c.length) : ∀ (j : Nat) (h : j < (c ++ [v]).length), ((c ++ [v])[j]).2 = g' j := by
 intro j h
 rw [List.length_append] at h
 rcases Nat.lt_or_ge j c.length with q | q
 ·rw [List.getElem_append_left q, hc j q, h1 j q]
 ·have : j = c.length := by simp at h; omega
  subst this
  rw [List.getElem_append_right (Nat.le_refl _)]
  simpa using h2
theorem Zdh {c : Wx} {l : List Int} (h : ∀ x ∈ c, x.1 = false) : ∀ x ∈ c ++ [(false, l)], x.1 = false := by
 intro x hx
 rcases List.mem_append.1 hx with hx | hx
 ·exact h x hx
 ·simp at hx; subst hx; rfl
theorem Za {ds : List TT} {x : TT} {j : Nat} (h : j < ds.length) : (ds ++ [x]).getD j (.mk [] [] []) = ds.getD j (.mk [] [] []) := by
 simp [List.getD_eq_getElem?_getD, List.getElem?_append_left h]
theorem Yh {ds : List TT} {x : TT} {j : Nat} (h : j = ds.length) : (ds ++ [x]).getD j (.mk [] [] []) = x := by
 subst h; simp [List.getD_eq_getElem?_getD]
theorem ZaQ {c : Wx} (h : c.length < 1099511627776) (f : Bool) (l : List Int) (k : Nat) : WN 1 (Zah c) (.sl true false 1 [[.sl false f 1 (List.take k (l.map fun n => [N n]))]]) = some (Zah (c ++ [(f, l.take k)])) := by
 rw [← List.map_take]; exact ZnN h f (l.take k)
theorem ZaI {c : Wx} (h : c.length < 1099511627776) (f : Bool) (l : List Int) (k : Nat) : WN 1 (Zah c) (.sl true false 1 [[.sl false f 1 (List.drop k (l.map fun n => [N n]))]]) = some (Zah (c ++ [(f, l.drop k)])) := by
 rw [← List.map_drop]; exact ZnN h f (l.drop k)
theorem ZaS {n2 : Bool} {l : List Int} {k : Nat} (h : k ≤ l.length) : Ja 1 (L n2 l) none (some (k : Int)) none = some (L n2 (l.take k)) := by
 simp only [Ja, Option.getD_none, Option.getD_some, List.length_map]
 rw [if_pos ⟨trivial, by omega, by omega, by omega, by omega⟩, show ((k : Int)).toNat = k by omega, ← List.map_take]
 simp only [Option.isSome_none, Bool.false_and, List.drop_zero, Int.toNat_zero, Zgo]
theorem Zd {n2 : Bool} {l : List Int} {k : Nat} (h : k ≤ l.length) : Ja 1 (L n2 l) (some (k : Int)) none none = some (L n2 (l.drop k)) := by
 simp only [Ja, Option.getD_none, Option.getD_some, List.length_map]
 rw [if_pos ⟨trivial, by omega, by omega, by omega, by omega⟩, show ((k : Int)).toNat = k by omega, show ((l.length : Int)).toNat = l.length by omega, ← List.map_take, ← List.map_drop, List.take_length]
 simp only [Option.isSome_none, Bool.false_and, Zgo]
mutual
theorem Zl {s : GSys} : ∀ (g : GTerm) (ctx : List (List Int)) (f : Int) (p : List Int), Qr s ctx g = .bad f p → f ≠ 0
 | .mk op n _ ty _ ks, ctx, f0, p0, h => by
  rw [Qr] at h
  split at h
  ·rename_i f' p' hd
   simp only [Res.bad.injEq] at h
   obtain ⟨rfl, rfl⟩ := h
   exact Zk7 ks ctx op n ty [] _ _ hd
  ·split at h
   ·simp at h
   ·rename_i hne
    simp only [Res.bad.injEq] at h
    obtain ⟨rfl, rfl⟩ := h
    exact hne
theorem Zk7 {s : GSys} : ∀ (ks : List GTerm) (ctx : List (List Int)) (op n : Int) (ty : List Int) (ds : List TT) (f : Int) (p : List Int), Q6 s ctx op n ty ds ks = .bad f p → f ≠ 0
 | [], ctx, op, n, ty, ds, f, p, h => by simp [Q6] at h
 | k :: ks, ctx, op, n, ty, ds, f, p, h => by
  rw [Q6] at h
  split at h
  ·rename_i f' p' hd
   simp only [KRes.bad.injEq] at h
   obtain ⟨rfl, rfl⟩ := h
   exact Zl k _ _ p' hd
  ·split at h
   ·rename_i hne
    simp only [KRes.bad.injEq] at h
    obtain ⟨rfl, rfl⟩ := h
    exact hne
   ·split at h
    ·simp only [KRes.bad.injEq] at h
     obtain ⟨rfl, rfl⟩ := h
     omega
    ·exact Zk7 ks ctx op n ty _ f p h
end
mutual
theorem TT.ex : ∀ x : TT, ∃ r, x.is r ∧ ∃ ys, r = .rp ys
 | .mk ty nd ks => by
  obtain ⟨Qj, h⟩ := TT.exs ks
  exact ⟨_, by simp only [TT.is]; exact ⟨false, false, Qj, rfl, h⟩, _, rfl⟩
theorem TT.exs : ∀ xs : List TT, ∃ Qj, TT.are xs Qj
 | [] => ⟨[], by simp [TT.are]⟩
 | x :: xs => by
  obtain ⟨r, h, _⟩ := TT.ex x
  obtain ⟨Qj, h2⟩ := TT.exs xs
  exact ⟨_, by simp only [TT.are]; exact ⟨r, Qj, rfl, h, h2⟩⟩
end
theorem res_ex (x : Res) (hb : ∀ f p, x = .bad f p → f ≠ 0) : ∃ ys, x.is (share (.rp ys)) ∧ QE 0 ys := by
 cases x with
 | ok x =>
  obtain ⟨r, h, ys, rfl⟩ := TT.ex x
  obtain ⟨h1, h2⟩ := ZnC x _ h
  exact ⟨ys, by rw [h1]; exact h, by simpa using h2 0⟩
 | bad f p => exact ⟨[.sl false true 1 [], .sl false true 1 [], .sl false true 1 [], N f, L false p], ⟨hb f p rfl, false, by simp⟩, by simp⟩
theorem fz_ex (R : LV → Prop) (h : ∃ ys, R (.rp ys) ∧ QE 0 ys) : ∃ r h', FzR R r h' := by
 obtain ⟨ys, h1, h2⟩ := h
 exact ⟨.rp ys, [], .rp ys, [], 0, by simp only [Fz]; exact .inl ⟨trivial, trivial⟩, Nat.le_refl _, Nat.zero_le _, by simpa using h2, fun l xs h => by omega, h1, by simpa using h2⟩
structure TypJ (s : GSys) (cx : List (List Int)) (op n : Int) (gty : List Int) (ks : List GTerm) (i : Nat) (t : Nat → LV) (h : List Box) (ds : List TT) (Qj : List (List LV)) (nds uds : Wx) (hr : List Box) : Prop where
 are : TT.are ds Qj
 len : ds.length = i
 kok : KidsOk s cx.length op n ds
 tell : Q6 s cx op n gty [] ks = Q6 s cx op n gty ds (ks.drop i)
 ulen : uds.length = i
 nlen : nds.length = i
 us : ∀ (j : Nat) (h : j < uds.length), (uds[j]).2 = usP op ds j
 nd : ∀ (j : Nat) (h : j < nds.length), (nds[j]).2 = ndP op ds j
 nf : ∀ c ∈ nds, c.1 = false
 e24 : t 24 = N i
 e8 : t 8 = Zah nds
 e9 : t 9 = Zah uds
 heap : h = none :: none :: some ((zeros cx.length).map N) :: ZfU (.sl true true 1 []) (.ha 2 1 0 cx.length cx.length) true ds.isEmpty Qj :: hr
theorem typ_ok {s : GSys} (hsy : s.sys = true) (d : Nat) : ∀ (g : GTerm) (nlc : Bool) (ctx : Wx), g.size ≤ d → g.wf → g.fl → (∀ c ∈ ctx, okL s.size c.2 = true) → (∀ c ∈ ctx, c.1 = false) → ctx.length + 2 * g.size ≤ 100000 → WE ctx.length s.size true g = true →
  Qd Tryz.prog Y6 [s.lv, LC nlc ctx, g.lv] (fun r => (Qr s (ctx.map Prod.snd) g).is (share r)) := by
 induction d with
 | zero => intro g _ _ h; have := g.size_pos; omega
 | succ d ih =>
  rintro ⟨op, n, nl1, gty, nl2, ks⟩ nlc ctx hsz hw hfl hc hcf hlen hform
  have t := GSys.sys_of hsy
  have h16 := t.hi
  simp only [WE, Bool.and_eq_true] at hform
  obtain ⟨hnode, hforms⟩ := hform
  have no := Zdc hnode
  simp only [GTerm.wf] at hw
  obtain ⟨wop, wn, wty, wk, wks⟩ := hw
  simp only [GTerm.fl] at hfl
  obtain ⟨fl1, flk⟩ := hfl
  simp only [GTerm.size] at hsz hlen
  have hm : (ctx.length : Int) ≤ (most : Nat) := by unfold most; omega
  have many := no.many
  have hk3 : ks.length ≤ 3 := by
   unfold YV at many
   repeat' split at many
   all_goals omega
  have cxl : (ctx.map Prod.snd).length = ctx.length := by simp
  refine Qd.freeze (Wa.of_codeOf Zey Qz (by simp) ?_ ?_)
  ·exact fz_ex (fun r => (Qr s (ctx.map Prod.snd) (GTerm.mk op n nl1 gty nl2 ks)).is (share r)) (res_ex _ fun f p h => Zl _ _ f p h)
  have hfl0 : ∀ a b c d e, (LV.ha a b c d e).flat = true ∧ (LV.ha a b c d e).cells.length = 1 := fun _ _ _ _ _ => ⟨rfl, rfl⟩
  have hce0 : ∀ a b c d e, (LV.ha a b c d e).cells = [.ha a b c d e] := fun _ _ _ _ _ => rfl
  simp (disch := omega) [Vu, Qv, Qt, GTerm.cells, hm, hfl0, hce0]
  refine Wf ks.length 0 (fun i t h => ∃ ds Qj nds uds hr, TypJ s (ctx.map Prod.snd) op n gty ks i t h ds Qj nds uds hr) (fun t h => ∃ ds Qj nds uds hr, TypJ s (ctx.map Prod.snd) op n gty ks ks.length t h ds Qj nds uds hr) ?_ (by omega) ?_ ?_
  ·refine ⟨[], [], [], [], [], by simp [TT.are], rfl, ⟨fun i x h => by simp at h, fun _ x h => by simp at h⟩, by simp, rfl, rfl, fun j h => by simp at h, fun j h => by simp at h, by simp, by simp, by simp, by simp, ?_⟩
   simp [zeros]
  ·rintro i t1 hh hf hi ⟨ds, Qj, nds, uds, hr, J⟩
   (have e1 := hf 1 (by kernel_rfl); have e3 := hf 3 (by kernel_rfl); have e5 := hf 5 (by kernel_rfl); have e7 := hf 7 (by kernel_rfl); have e22 := hf 22 (by kernel_rfl); have e23 := hf 23 (by kernel_rfl); clear hf; simp [] at e1 e3 e5 e7 e22 e23)
   obtain ⟨are, len, kok, tell, ulen, nlen, us, nd, nf, e24, e8, e9, rfl⟩ := J
   have gl : GTerm.cells (GTerm.mk op n nl1 gty nl2 ks) = [N op, N n, L nl1 gty, .sl false nl2 4 (QS ks)] := by simp [GTerm.cells]
   simp (disch := omega) [e1, e3, e5, e7, e22, e23, e24]
   by_cases h6 : i < ks.length
   rotate_left
   ·have hb : ltB (i : Int) ks.length = false := by rw [Qg]; omega
    have hik : i = ks.length := by omega
    simp (disch := omega) [hb]
    exact ⟨ds, Qj, nds, uds, hr, are, by omega, kok, by rw [tell, hik], by omega, by omega, us, nd, nf, by simp [e24, hik], by simp [e8], by simp [e9], by simp⟩
   have hb : ltB (i : Int) ks.length = true := by rw [Qi]; omega
   have hdrop := List.drop_eq_getElem_cons h6
   have hkw : (ks[i]).wf := (V7.1 wks) _ (List.getElem_mem h6)
   have hkf : (ks[i]).fl := (ZS.1 flk) _ (List.getElem_mem h6)
   have hks := Yt h6
   have hkform : WE ((ctx.length : Int) + Qp op i) s.size true ks[i] = true := by have := ZhW hforms i h6; simpa using this
   have hix := ZdL ks false nl2 i h6
   rw [hdrop] at tell
   generalize ks[i] = k at *
   have hadd := WV op i
   have hcs : ∀ l ∈ ctx.map Prod.snd, okL s.size l = true := fun l hl => by
    obtain ⟨c, h1, rfl⟩ := List.mem_map.1 hl
    exact hc c h1
   have hty : op = 9 → okL s.size gty = true := fun h => no.typed (by subst h; simp [Xs, Qe])
   have hfirst : i ≠ 0 → okL s.size (first ds) = true ∧ ZeM op (hd (first ds)) := fun h => by
    have := kok.first (by rintro rfl; simp at len; omega)
    exact ⟨this.1, this.2.1⟩
   have hm1 : ∀ f, Jp op nl1 gty i f = [] ∨ True := fun _ => .inr trivial
   have rl := Zmu ds Qj are
   have hmore : ∃ more : Wx, more = Jp op nl1 gty i (first ds) := ⟨_, rfl⟩
   obtain ⟨more, hmd⟩ := hmore
   have hms : more.map Prod.snd = QB op gty i (first ds) := by rw [hmd]; exact Zpn op nl1 gty i (first ds)
   have hml : more.length = (Qp op i).toNat := by
    have := congrArg List.length hms
    rw [List.length_map, ZaN] at this; exact this
   have hmok : ∀ c ∈ more ++ ctx, okL s.size c.2 = true := by
    intro c hcm
    rcases List.mem_append.1 hcm with hcm | hcm
    ·exact ZnS (i := i) (f := first ds) hty hfirst c.2 (by rw [← hms]; exact List.mem_map_of_mem hcm)
    ·exact hc c hcm
   have hmf : ∀ c ∈ more ++ ctx, c.1 = false := by
    intro c hcm
    rcases List.mem_append.1 hcm with hcm | hcm
    ·rw [hmd] at hcm
     unfold Jp at hcm
     split at hcm
     ·rename_i h9
      simp at hcm; subst hcm
      have := QG (hty h9)
      cases hn : nl1 with
      | false => rfl
      | true => have := fl1 hn; subst this; simp at *
     ·simp at hcm; obtain ⟨a, _, rfl⟩ := hcm; rfl
    ·exact hcf c hcm
   have cc := ZoO [(more.isEmpty, more), (nlc, ctx)] (by simp) (by simp [lnC]; omega)
   have ce : flC [(more.isEmpty, more), (nlc, ctx)] = more ++ ctx := by simp [flC]
   rw [ce] at cc
   have recu := ih k (!ltB 0 ((more ++ ctx).length : Int)) (more ++ ctx) (by omega) hkw hkf hmok hmf (by rw [List.length_append]; omega) (by rw [List.length_append, show ((more.length + ctx.length : Nat) : Int) = ctx.length + Qp op i by omega]; exact hkform)
   rw [List.map_append, hms] at recu
   clear hmok hmf ce
   generalize more ++ ctx = mc at cc recu
   have hg0 : ∀ r : Int × List Int, Q6 s (ctx.map Prod.snd) op n gty ds (k :: List.drop (i + 1) ks) = .bad r.1 r.2 → Qr s (ctx.map Prod.snd) (GTerm.mk op n nl1 gty nl2 ks) = .bad r.1 r.2 := fun r h => by rw [Qr, tell, h]
   have hgoodI : ∀ x, Qr s (QB op gty i (first ds) ++ ctx.map Prod.snd) k = .ok x → x.good s ((ctx.map Prod.snd).length + (Qp op i).toNat) := fun x hx => by
    have := Jr t k (QB op gty i (first ds) ++ ctx.map Prod.snd) x (by rw [← len]; exact Zpk hcs (fun h => hty h) kok)
     (by rw [List.length_append, ZaN, cxl, show (((Qp op i).toNat + ctx.length : Nat) : Int) = ctx.length + Qp op i by omega]; exact hkform) hx
    rw [List.length_append, ZaN, Nat.add_comm] at this
    exact this
   have hbadI : ∀ f p, Qr s (QB op gty i (first ds) ++ ctx.map Prod.snd) k = .bad f p → Qr s (ctx.map Prod.snd) (GTerm.mk op n nl1 gty nl2 ks) = .bad f ((i : Int) :: p) := fun f p h =>
    hg0 (f, (i : Int) :: p) (by rw [Q6, len, h])
   have hfbI : ∀ x, Qr s (QB op gty i (first ds) ++ ctx.map Prod.snd) k = .ok x → QL s op n i (hd x.ty) ≠ 0 → Qr s (ctx.map Prod.snd) (GTerm.mk op n nl1 gty nl2 ks) = .bad (QL s op n i (hd x.ty)) [] := fun x h h2 =>
    hg0 (QL s op n i (hd x.ty), []) (by rw [Q6, len, h]; simp only; rw [if_pos h2])
   have hsameI : ∀ x, Qr s (QB op gty i (first ds) ++ ctx.map Prod.snd) k = .ok x → QL s op n i (hd x.ty) = 0 → (op = 10 ∧ i = 1 ∧ x.ty ≠ QI (first ds)) → Qr s (ctx.map Prod.snd) (GTerm.mk op n nl1 gty nl2 ks) = .bad 3 [] := fun x h h2 h3 =>
    hg0 (3, []) (by rw [Q6, len, h]; simp only; rw [if_neg (by simpa using h2), if_pos h3])
   have hnextI : ∀ x, Qr s (QB op gty i (first ds) ++ ctx.map Prod.snd) k = .ok x → QL s op n i (hd x.ty) = 0 → ¬ (op = 10 ∧ i = 1 ∧ x.ty ≠ QI (first ds)) → Q6 s (ctx.map Prod.snd) op n gty [] ks = Q6 s (ctx.map Prod.snd) op n gty (ds ++ [x]) (List.drop (i + 1) ks) := fun x h h2 h3 => by
    rw [tell, Q6, len, h]; simp only; rw [if_neg (by simpa using h2), if_neg h3]
   have hthree : (i = 0 ∧ op ≠ 9) ∨ (i = 0 ∧ op = 9) ∨ 0 < i := by omega
   rcases hthree with ⟨hi0, h9⟩ | ⟨hi0, h9⟩ | hi0
   ·subst hi0
    simp only [Int.natCast_zero] at hb hix e24
    have h9b : eqB op 9 = false := by rw [Qc]; exact h9
    have hz : ltB 0 0 = false := by rw [Qg]; omega
    have hme : more = [] := List.eq_nil_of_length_eq_zero (by rw [hml]; unfold Qp; rw [if_neg (by omega), if_neg (by omega)]; rfl)
    have em : LV.sl false true 1 [] = LV.sl false more.isEmpty 1 (more.map fun c => [eC c]) := by rw [hme]; rfl
    simp (disch := omega) [e1, e3, e5, e7, e8, e9, e22, e23, e24, hb, hix, h9b, hz, Qm]
    rw [em]
    refine Qa cc (by simp) ?_
    simp (disch := omega) [e1, e3, e5, e7, e8, e9, e22, e23, e24, hb, hix]
    refine Qh recu (by simp) ?_
    intro r hr1
    cases hT : Qr s (QB op gty 0 (first ds) ++ List.map Prod.snd ctx) k with
    | bad f p =>
     rw [hT] at hr1
     obtain ⟨hf0, n4, hsr2⟩ := hr1
     have hfb : eqB f 0 = false := by rw [Qc]; exact hf0
     have hpl := VY k _ f p hT
     have hpm : 1 + p.length ≤ most := by unfold most; omega
     have hres := hbadI f p hT
     simp (disch := omega) [e1, e3, e5, e7, e8, e9, e22, e23, e24, hb, hix, hsr2, hfb, Qm, WN, hpm, Qv]
     refine Q8 (.inr rfl) (by simp) (Zae (f := f) (u := true) (nl := false) (p := (0 : Int) :: p) (by simp) ?_)
     rw [hres]
     exact ⟨hf0, false, by simp⟩
    | ok x =>
     have hgood := hgoodI x hT
     have hfb := hfbI x hT
     have hsame := hsameI x hT
     have hnext := hnextI x hT
     rw [hT] at hr1
     obtain ⟨xty, xnd, xks⟩ := x
     have hxis : (TT.mk xty xnd xks).is (share r) := hr1
     simp only [Res.is, TT.is] at hr1
     obtain ⟨n3, n4, xrows, hsr2, hxr⟩ := hr1
     simp only [TT.ty_mk] at hfb hsame hnext
     have hgt : okL s.size xty = true := hgood.1
     have fo := ZcM t (GTerm.mk op n nl1 gty nl2 ks) op n nl1 gty nl2 ks rfl 0 (by omega) xty hgt no.op13 (fun h => no.grade (by rcases h with h | h | h <;> (subst h; simp [Z0, Qe])))
     simp only [GTerm.lv, GTerm.cells] at fo
     simp (disch := omega) [e1, e3, e5, e7, e8, e9, e22, e23, e24, hb, hix, hsr2, Qm]
     refine Qa fo (by simp) ?_
     simp (disch := omega) [e1, e3, e5, e7, e8, e9, e22, e23, e24, hb, hix, hsr2, Qm]
     by_cases hq : QL s op n 0 (hd xty) = 0
     ·rw [hq]
      have hz0 : eqB 0 0 = true := by rw [Qe]
      simp (disch := omega) [e1, e3, e5, e7, e8, e9, e22, e23, e24, hb, hix, hsr2, Qm, hz0]
      by_cases h10 : op = 10
      ·by_cases h19 : op = 9
       ·exfalso; omega
       ·have h10b : eqB op 10 = true := by rw [Qe]; exact h10
        by_cases hi1 : 0 = 1
        ·exfalso; omega
        ·have hi1b : eqB 0 1 = false := by rw [Qc]; omega
         have hxl : xnd.length = ctx.length + more.length := by have := hgood.2.1; rw [cxl] at this; rw [hml]; exact this
         have hak : ∀ v, WN 1 (.sl true ds.isEmpty 1 Qj) (.sl true false 1 [[v]]) = some (.sl true false 1 (Qj ++ [[v]])) := fun v => by
          simp only [WN]
          rw [if_pos ⟨.inl trivial, .inl trivial, .inl trivial, by simp [most]; omega⟩]
          simp
         have hau := ZaQ (c := uds) (by omega) false xnd more.length
         have han := ZaI (c := nds) (by omega) false xnd more.length
         have hc1 := ZaS (n2 := false) (l := xnd) (k := more.length) (by omega)
         have hc2 := Zd (n2 := false) (l := xnd) (k := more.length) (by omega)
         have hxs := (Xx _ xrows hxr).1
         have hnot : ¬ (op = 10 ∧ 0 = 1 ∧ xty ≠ QI (first ds)) := fun h => hi1 h.2.1
         have fin : ∀ (T : Nat → LV) (H : List Box), T 24 = N (0 + 1) → T 8 = Zah (nds ++ [(false, xnd.drop more.length)]) → T 9 = Zah (uds ++ [(false, xnd.take more.length)]) → H = none :: none :: some ((zeros (ctx.map Prod.snd).length).map N) :: ZfU (.sl true true 1 []) (.ha 2 1 0 (ctx.map Prod.snd).length (ctx.map Prod.snd).length) true (ds ++ [TT.mk xty xnd xks]).isEmpty (Qj ++ [[share r]]) :: (hr ++ [some k.cells]) → 0 < ks.length ∧ ∃ ds Qj nds uds hr, TypJ s (ctx.map Prod.snd) op n gty ks (0 + 1) T H ds Qj nds uds hr := fun T H q1 q2 q3 q4 =>
          ⟨h6, ds ++ [TT.mk xty xnd xks], Qj ++ [[share r]], nds ++ [(false, xnd.drop more.length)], uds ++ [(false, xnd.take more.length)], hr ++ [some k.cells], VB ds Qj _ _ are hxis, by simp [len],
           kok.snoc (by rw [len]; exact hgood) (by rw [len]; exact hq) (by rw [len]; exact hnot), hnext hq hnot, by simp [ulen], by simp [nlen],
           Ji us (fun j hj => by unfold usP; rw [Za (by omega)]) (by unfold usP; rw [Yh (by omega), hml, ulen]; rfl),
           Ji nd (fun j hj => by unfold ndP; rw [Za (by omega)]) (by unfold ndP; rw [Yh (by omega), hml, nlen]; rfl), (Zdh nf),
           by simpa using q1, q2, q3, q4⟩
         simp (disch := omega) [e1, e3, e5, e7, e8, e9, e22, e23, e24, hb, hix, hsr2, Qm, h10b, hi1b, ZU, YP, hak, hau, han, hc1, hc2, hxs, Qf]
         first
          | exact fin _ _ (by simp) (by simp) (by simp) (by simp [hsr2])
          | (trace_state; simp (disch := omega) [e1, e3, e5, e7, e8, e9, e22, e23, e24, hb, hix, hsr2, Qm, h10b, hi1b, ZU, YP, hak, hau, han, hc1, hc2, hxs, Qf]; exact fin _ _ (by simp) (by simp) (by simp) (by simp [hsr2]))
      ·have h10b : eqB op 10 = false := by rw [Qc]; exact h10
       have hxl : xnd.length = ctx.length + more.length := by have := hgood.2.1; rw [cxl] at this; rw [hml]; exact this
       have hak : ∀ v, WN 1 (.sl true ds.isEmpty 1 Qj) (.sl true false 1 [[v]]) = some (.sl true false 1 (Qj ++ [[v]])) := fun v => by
        simp only [WN]
        rw [if_pos ⟨.inl trivial, .inl trivial, .inl trivial, by simp [most]; omega⟩]
        simp
       have hau := ZaQ (c := uds) (by omega) false xnd more.length
       have han := ZaI (c := nds) (by omega) false xnd more.length
       have hc1 := ZaS (n2 := false) (l := xnd) (k := more.length) (by omega)
       have hc2 := Zd (n2 := false) (l := xnd) (k := more.length) (by omega)
       have hxs := (Xx _ xrows hxr).1
       have hnot : ¬ (op = 10 ∧ 0 = 1 ∧ xty ≠ QI (first ds)) := fun h => h10 h.1
       have fin : ∀ (T : Nat → LV) (H : List Box), T 24 = N (0 + 1) → T 8 = Zah (nds ++ [(false, xnd.drop more.length)]) → T 9 = Zah (uds ++ [(false, xnd.take more.length)]) → H = none :: none :: some ((zeros (ctx.map Prod.snd).length).map N) :: ZfU (.sl true true 1 []) (.ha 2 1 0 (ctx.map Prod.snd).length (ctx.map Prod.snd).length) true (ds ++ [TT.mk xty xnd xks]).isEmpty (Qj ++ [[share r]]) :: (hr ++ [some k.cells]) → 0 < ks.length ∧ ∃ ds Qj nds uds hr, TypJ s (ctx.map Prod.snd) op n gty ks (0 + 1) T H ds Qj nds uds hr := fun T H q1 q2 q3 q4 =>
        ⟨h6, ds ++ [TT.mk xty xnd xks], Qj ++ [[share r]], nds ++ [(false, xnd.drop more.length)], uds ++ [(false, xnd.take more.length)], hr ++ [some k.cells], VB ds Qj _ _ are hxis, by simp [len],
         kok.snoc (by rw [len]; exact hgood) (by rw [len]; exact hq) (by rw [len]; exact hnot), hnext hq hnot, by simp [ulen], by simp [nlen],
         Ji us (fun j hj => by unfold usP; rw [Za (by omega)]) (by unfold usP; rw [Yh (by omega), hml, ulen]; rfl),
         Ji nd (fun j hj => by unfold ndP; rw [Za (by omega)]) (by unfold ndP; rw [Yh (by omega), hml, nlen]; rfl), (Zdh nf),
         by simpa using q1, q2, q3, q4⟩
       simp (disch := omega) [e1, e3, e5, e7, e8, e9, e22, e23, e24, hb, hix, hsr2, Qm, h10b, ZU, YP, hak, hau, han, hc1, hc2, hxs, Qf]
       first
        | exact fin _ _ (by simp) (by simp) (by simp) (by simp [hsr2])
        | (trace_state; simp (disch := omega) [e1, e3, e5, e7, e8, e9, e22, e23, e24, hb, hix, hsr2, Qm, h10b, ZU, YP, hak, hau, han, hc1, hc2, hxs, Qf]; exact fin _ _ (by simp) (by simp) (by simp) (by simp [hsr2]))
     ·have hq0 : eqB (QL s op n 0 (hd xty)) 0 = false := by rw [Qc]; exact hq
      have hres := hfb hq
      simp (disch := omega) [e1, e3, e5, e7, e8, e9, e22, e23, e24, hb, hix, hsr2, Qm, hq0, Qv]
      refine Q8 (.inr rfl) (by simp) (Zae (f := QL s op n 0 (hd xty)) (u := true) (nl := true) (p := []) (by simp) ?_)
      rw [hres]
      exact ⟨hq, true, by simp⟩
   ·subst hi0
    simp only [Int.natCast_zero] at hb hix e24
    have h9b : eqB op 9 = true := by rw [Qe]; exact h9
    have hz : ltB 0 0 = false := by rw [Qg]; omega
    have had := ZkH (GTerm.mk op n nl1 gty nl2 ks) op n nl1 gty nl2 ks rfl no.op13 0 (by omega) true [] (size := s.size) (fun h => absurd rfl h)
    have hmd' : Jp op nl1 gty 0 [] = more := by rw [hmd]; simp [Jp, h9]
    rw [hmd'] at had
    simp only [GTerm.lv, GTerm.cells] at had
    simp (disch := omega) [e1, e3, e5, e7, e8, e9, e22, e23, e24, hb, hix, h9b, hz, Qm]
    refine Qa had (by simp) ?_
    simp (disch := omega) [e1, e3, e5, e7, e8, e9, e22, e23, e24, hb, hix, h9b, hz, Qm]
    refine Qa cc (by simp) ?_
    simp (disch := omega) [e1, e3, e5, e7, e8, e9, e22, e23, e24, hb, hix]
    refine Qh recu (by simp) ?_
    intro r hr1
    cases hT : Qr s (QB op gty 0 (first ds) ++ List.map Prod.snd ctx) k with
    | bad f p =>
     rw [hT] at hr1
     obtain ⟨hf0, n4, hsr2⟩ := hr1
     have hfb : eqB f 0 = false := by rw [Qc]; exact hf0
     have hpl := VY k _ f p hT
     have hpm : 1 + p.length ≤ most := by unfold most; omega
     have hres := hbadI f p hT
     simp (disch := omega) [e1, e3, e5, e7, e8, e9, e22, e23, e24, hb, hix, hsr2, hfb, Qm, WN, hpm, Qv]
     refine Q8 (.inr rfl) (by simp) (Zae (f := f) (u := true) (nl := false) (p := (0 : Int) :: p) (by simp) ?_)
     rw [hres]
     exact ⟨hf0, false, by simp⟩
    | ok x =>
     have hgood := hgoodI x hT
     have hfb := hfbI x hT
     have hsame := hsameI x hT
     have hnext := hnextI x hT
     rw [hT] at hr1
     obtain ⟨xty, xnd, xks⟩ := x
     have hxis : (TT.mk xty xnd xks).is (share r) := hr1
     simp only [Res.is, TT.is] at hr1
     obtain ⟨n3, n4, xrows, hsr2, hxr⟩ := hr1
     simp only [TT.ty_mk] at hfb hsame hnext
     have hgt : okL s.size xty = true := hgood.1
     have fo := ZcM t (GTerm.mk op n nl1 gty nl2 ks) op n nl1 gty nl2 ks rfl 0 (by omega) xty hgt no.op13 (fun h => no.grade (by rcases h with h | h | h <;> (subst h; simp [Z0, Qe])))
     simp only [GTerm.lv, GTerm.cells] at fo
     simp (disch := omega) [e1, e3, e5, e7, e8, e9, e22, e23, e24, hb, hix, hsr2, Qm]
     refine Qa fo (by simp) ?_
     simp (disch := omega) [e1, e3, e5, e7, e8, e9, e22, e23, e24, hb, hix, hsr2, Qm]
     by_cases hq : QL s op n 0 (hd xty) = 0
     ·rw [hq]
      have hz0 : eqB 0 0 = true := by rw [Qe]
      simp (disch := omega) [e1, e3, e5, e7, e8, e9, e22, e23, e24, hb, hix, hsr2, Qm, hz0]
      have h10b : eqB op 10 = false := by rw [Qc]; omega
      have hxl : xnd.length = ctx.length + more.length := by have := hgood.2.1; rw [cxl] at this; rw [hml]; exact this
      have hak : ∀ v, WN 1 (.sl true ds.isEmpty 1 Qj) (.sl true false 1 [[v]]) = some (.sl true false 1 (Qj ++ [[v]])) := fun v => by
       simp only [WN]
       rw [if_pos ⟨.inl trivial, .inl trivial, .inl trivial, by simp [most]; omega⟩]
       simp
      have hau := ZaQ (c := uds) (by omega) false xnd more.length
      have han := ZaI (c := nds) (by omega) false xnd more.length
      have hc1 := ZaS (n2 := false) (l := xnd) (k := more.length) (by omega)
      have hc2 := Zd (n2 := false) (l := xnd) (k := more.length) (by omega)
      have hxs := (Xx _ xrows hxr).1
      have hnot : ¬ (op = 10 ∧ 0 = 1 ∧ xty ≠ QI (first ds)) := fun h => by omega
      have fin : ∀ (T : Nat → LV) (H : List Box), T 24 = N (0 + 1) → T 8 = Zah (nds ++ [(false, xnd.drop more.length)]) → T 9 = Zah (uds ++ [(false, xnd.take more.length)]) → H = none :: none :: some ((zeros (ctx.map Prod.snd).length).map N) :: ZfU (.sl true true 1 []) (.ha 2 1 0 (ctx.map Prod.snd).length (ctx.map Prod.snd).length) true (ds ++ [TT.mk xty xnd xks]).isEmpty (Qj ++ [[share r]]) :: (hr ++ [some k.cells]) → 0 < ks.length ∧ ∃ ds Qj nds uds hr, TypJ s (ctx.map Prod.snd) op n gty ks (0 + 1) T H ds Qj nds uds hr := fun T H q1 q2 q3 q4 =>
       ⟨h6, ds ++ [TT.mk xty xnd xks], Qj ++ [[share r]], nds ++ [(false, xnd.drop more.length)], uds ++ [(false, xnd.take more.length)], hr ++ [some k.cells], VB ds Qj _ _ are hxis, by simp [len],
        kok.snoc (by rw [len]; exact hgood) (by rw [len]; exact hq) (by rw [len]; exact hnot), hnext hq hnot, by simp [ulen], by simp [nlen],
        Ji us (fun j hj => by unfold usP; rw [Za (by omega)]) (by unfold usP; rw [Yh (by omega), hml, ulen]; rfl),
        Ji nd (fun j hj => by unfold ndP; rw [Za (by omega)]) (by unfold ndP; rw [Yh (by omega), hml, nlen]; rfl), (Zdh nf),
        by simpa using q1, q2, q3, q4⟩
      simp (disch := omega) [e1, e3, e5, e7, e8, e9, e22, e23, e24, hb, hix, hsr2, Qm, h10b, ZU, YP, hak, hau, han, hc1, hc2, hxs, Qf]
      first
       | exact fin _ _ (by simp) (by simp) (by simp) (by simp [hsr2])
       | (trace_state; simp (disch := omega) [e1, e3, e5, e7, e8, e9, e22, e23, e24, hb, hix, hsr2, Qm, h10b, ZU, YP, hak, hau, han, hc1, hc2, hxs, Qf]; exact fin _ _ (by simp) (by simp) (by simp) (by simp [hsr2]))
     ·have hq0 : eqB (QL s op n 0 (hd xty)) 0 = false := by rw [Qc]; exact hq
      have hres := hfb hq
      simp (disch := omega) [e1, e3, e5, e7, e8, e9, e22, e23, e24, hb, hix, hsr2, Qm, hq0, Qv]
      refine Q8 (.inr rfl) (by simp) (Zae (f := QL s op n 0 (hd xty)) (u := true) (nl := true) (p := []) (by simp) ?_)
      rw [hres]
      exact ⟨hq, true, by simp⟩
   ·have hz : ltB 0 (i : Int) = true := by rw [Qi]; omega
    have had := ZkH (GTerm.mk op n nl1 gty nl2 ks) op n nl1 gty nl2 ks rfl no.op13 i (by omega) false (first ds) (size := s.size) (fun h => ⟨rfl, hfirst h⟩)
    rw [← hmd] at had
    simp only [GTerm.lv, GTerm.cells] at had
    have hsr := (Xx ds Qj are).1
    obtain ⟨q3, q4, qr, hx0, _⟩ := Zp8 are false ds.isEmpty 0 (by omega)
    simp only [Int.natCast_zero] at hx0
    have hqs : ∀ rws, Qu rws = rws → Qu rws = rws := fun _ h => h
    simp (disch := omega) [e1, e3, e5, e7, e8, e9, e22, e23, e24, hb, hix, hz, hsr, hx0, Qm]
    refine Qa had (by simp) ?_
    simp (disch := omega) [e1, e3, e5, e7, e8, e9, e22, e23, e24, hb, hix, hz, hsr, Qm]
    refine Qa cc (by simp) ?_
    simp (disch := omega) [e1, e3, e5, e7, e8, e9, e22, e23, e24, hb, hix]
    refine Qh recu (by simp) ?_
    intro r hr1
    cases hT : Qr s (QB op gty i (first ds) ++ List.map Prod.snd ctx) k with
    | bad f p =>
     rw [hT] at hr1
     obtain ⟨hf0, n4, hsr2⟩ := hr1
     have hfb : eqB f 0 = false := by rw [Qc]; exact hf0
     have hpl := VY k _ f p hT
     have hpm : 1 + p.length ≤ most := by unfold most; omega
     have hres := hbadI f p hT
     simp (disch := omega) [e1, e3, e5, e7, e8, e9, e22, e23, e24, hb, hix, hsr2, hfb, Qm, WN, hpm, Qv]
     refine Q8 (.inr rfl) (by simp) (Zae (f := f) (u := true) (nl := false) (p := (i : Int) :: p) (by simp) ?_)
     rw [hres]
     exact ⟨hf0, false, by simp⟩
    | ok x =>
     have hgood := hgoodI x hT
     have hfb := hfbI x hT
     have hsame := hsameI x hT
     have hnext := hnextI x hT
     rw [hT] at hr1
     obtain ⟨xty, xnd, xks⟩ := x
     have hxis : (TT.mk xty xnd xks).is (share r) := hr1
     simp only [Res.is, TT.is] at hr1
     obtain ⟨n3, n4, xrows, hsr2, hxr⟩ := hr1
     simp only [TT.ty_mk] at hfb hsame hnext
     have hgt : okL s.size xty = true := hgood.1
     have fo := ZcM t (GTerm.mk op n nl1 gty nl2 ks) op n nl1 gty nl2 ks rfl i (by omega) xty hgt no.op13 (fun h => no.grade (by rcases h with h | h | h <;> (subst h; simp [Z0, Qe])))
     simp only [GTerm.lv, GTerm.cells] at fo
     simp (disch := omega) [e1, e3, e5, e7, e8, e9, e22, e23, e24, hb, hix, hsr2, Qm]
     refine Qa fo (by simp) ?_
     simp (disch := omega) [e1, e3, e5, e7, e8, e9, e22, e23, e24, hb, hix, hsr2, Qm]
     by_cases hq : QL s op n i (hd xty) = 0
     ·rw [hq]
      have hz0 : eqB 0 0 = true := by rw [Qe]
      simp (disch := omega) [e1, e3, e5, e7, e8, e9, e22, e23, e24, hb, hix, hsr2, Qm, hz0]
      by_cases h10 : op = 10
      ·by_cases h19 : op = 9
       ·exfalso; omega
       ·have h10b : eqB op 10 = true := by rw [Qe]; exact h10
        by_cases hi1 : i = 1
        ·have hi1b : eqB (i : Int) 1 = true := by rw [Qe]; omega
         have hxs0 := (Xx _ xrows hxr).1
         simp (disch := omega) [e1, e3, e5, e7, e8, e9, e22, e23, e24, hb, hix, hsr2, Qm, h10b, hi1b, hsr, hx0, hxs0, ZU, YP]
         have hf1 := hfirst (by omega)
         refine Qa (Zgh (l := tyP ds 0) (JT hf1.1)) (by simp) ?_
         rw [Zbx (l := tyP ds 0) (JG (hf1.2.2.2.2.1 h10))]
         have hx1 : QQ 1 (.sl true false 1 [[L false (QI (tyP ds 0))], [L false (Ws (tyP ds 0))]]) 0 = some (.rp [L false (QI (tyP ds 0))]) := by simp [QQ]
         simp (disch := omega) [e1, e3, e5, e7, e8, e9, e22, e23, e24, hb, hix, hsr2, Qm, hx1]
         have hlx := QG hgt
         refine Qa (ZnR false false xty (QI (tyP ds 0)) (by omega)) (by simp) ?_
         cases he : (xty == QI (tyP ds 0))
         ·have he2 : xty ≠ QI (tyP ds 0) := by simpa using he
          have hres := hsame hq ⟨h10, hi1, he2⟩
          simp (disch := omega) [e1, e3, e5, e7, e8, e9, e22, e23, e24, hb, hix, hsr2, Qm, Qv]
          refine Q8 (.inr rfl) (by simp) (Zae (f := 3) (u := true) (nl := true) (p := []) (by simp) ?_)
          rw [hres]
          exact ⟨by omega, true, by simp⟩
         ·have he' : xty = QI (first ds) := by simpa [first] using he
          have hxl : xnd.length = ctx.length + more.length := by have := hgood.2.1; rw [cxl] at this; rw [hml]; exact this
          have hak : ∀ v, WN 1 (.sl true ds.isEmpty 1 Qj) (.sl true false 1 [[v]]) = some (.sl true false 1 (Qj ++ [[v]])) := fun v => by
           simp only [WN]
           rw [if_pos ⟨.inl trivial, .inl trivial, .inl trivial, by simp [most]; omega⟩]
           simp
          have hau := ZaQ (c := uds) (by omega) false xnd more.length
          have han := ZaI (c := nds) (by omega) false xnd more.length
          have hc1 := ZaS (n2 := false) (l := xnd) (k := more.length) (by omega)
          have hc2 := Zd (n2 := false) (l := xnd) (k := more.length) (by omega)
          have hxs := (Xx _ xrows hxr).1
          have hnot : ¬ (op = 10 ∧ i = 1 ∧ xty ≠ QI (first ds)) := fun h => h.2.2 he'
          have fin : ∀ (T : Nat → LV) (H : List Box), T 24 = N ((i : Int) + 1) → T 8 = Zah (nds ++ [(false, xnd.drop more.length)]) → T 9 = Zah (uds ++ [(false, xnd.take more.length)]) → H = none :: none :: some ((zeros (ctx.map Prod.snd).length).map N) :: ZfU (.sl true true 1 []) (.ha 2 1 0 (ctx.map Prod.snd).length (ctx.map Prod.snd).length) true (ds ++ [TT.mk xty xnd xks]).isEmpty (Qj ++ [[share r]]) :: (hr ++ [some k.cells]) → i < ks.length ∧ ∃ ds Qj nds uds hr, TypJ s (ctx.map Prod.snd) op n gty ks (i + 1) T H ds Qj nds uds hr := fun T H q1 q2 q3 q4 =>
           ⟨h6, ds ++ [TT.mk xty xnd xks], Qj ++ [[share r]], nds ++ [(false, xnd.drop more.length)], uds ++ [(false, xnd.take more.length)], hr ++ [some k.cells], VB ds Qj _ _ are hxis, by simp [len],
            kok.snoc (by rw [len]; exact hgood) (by rw [len]; exact hq) (by rw [len]; exact hnot), hnext hq hnot, by simp [ulen], by simp [nlen],
            Ji us (fun j hj => by unfold usP; rw [Za (by omega)]) (by unfold usP; rw [Yh (by omega), hml, ulen]; rfl),
            Ji nd (fun j hj => by unfold ndP; rw [Za (by omega)]) (by unfold ndP; rw [Yh (by omega), hml, nlen]; rfl), (Zdh nf),
            by simpa using q1, q2, q3, q4⟩
          simp (disch := omega) [e1, e3, e5, e7, e8, e9, e22, e23, e24, hb, hix, hsr2, Qm, h10b, hi1b, ZU, YP, hak, hau, han, hc1, hc2, hxs, Qf]
          first
           | exact fin _ _ (by simp) (by simp) (by simp) (by simp [hsr2])
           | (trace_state; simp (disch := omega) [e1, e3, e5, e7, e8, e9, e22, e23, e24, hb, hix, hsr2, Qm, h10b, hi1b, ZU, YP, hak, hau, han, hc1, hc2, hxs, Qf]; exact fin _ _ (by simp) (by simp) (by simp) (by simp [hsr2]))
        ·have hi1b : eqB (i : Int) 1 = false := by rw [Qc]; omega
         have hxl : xnd.length = ctx.length + more.length := by have := hgood.2.1; rw [cxl] at this; rw [hml]; exact this
         have hak : ∀ v, WN 1 (.sl true ds.isEmpty 1 Qj) (.sl true false 1 [[v]]) = some (.sl true false 1 (Qj ++ [[v]])) := fun v => by
          simp only [WN]
          rw [if_pos ⟨.inl trivial, .inl trivial, .inl trivial, by simp [most]; omega⟩]
          simp
         have hau := ZaQ (c := uds) (by omega) false xnd more.length
         have han := ZaI (c := nds) (by omega) false xnd more.length
         have hc1 := ZaS (n2 := false) (l := xnd) (k := more.length) (by omega)
         have hc2 := Zd (n2 := false) (l := xnd) (k := more.length) (by omega)
         have hxs := (Xx _ xrows hxr).1
         have hnot : ¬ (op = 10 ∧ i = 1 ∧ xty ≠ QI (first ds)) := fun h => hi1 h.2.1
         have fin : ∀ (T : Nat → LV) (H : List Box), T 24 = N ((i : Int) + 1) → T 8 = Zah (nds ++ [(false, xnd.drop more.length)]) → T 9 = Zah (uds ++ [(false, xnd.take more.length)]) → H = none :: none :: some ((zeros (ctx.map Prod.snd).length).map N) :: ZfU (.sl true true 1 []) (.ha 2 1 0 (ctx.map Prod.snd).length (ctx.map Prod.snd).length) true (ds ++ [TT.mk xty xnd xks]).isEmpty (Qj ++ [[share r]]) :: (hr ++ [some k.cells]) → i < ks.length ∧ ∃ ds Qj nds uds hr, TypJ s (ctx.map Prod.snd) op n gty ks (i + 1) T H ds Qj nds uds hr := fun T H q1 q2 q3 q4 =>
          ⟨h6, ds ++ [TT.mk xty xnd xks], Qj ++ [[share r]], nds ++ [(false, xnd.drop more.length)], uds ++ [(false, xnd.take more.length)], hr ++ [some k.cells], VB ds Qj _ _ are hxis, by simp [len],
           kok.snoc (by rw [len]; exact hgood) (by rw [len]; exact hq) (by rw [len]; exact hnot), hnext hq hnot, by simp [ulen], by simp [nlen],
           Ji us (fun j hj => by unfold usP; rw [Za (by omega)]) (by unfold usP; rw [Yh (by omega), hml, ulen]; rfl),
           Ji nd (fun j hj => by unfold ndP; rw [Za (by omega)]) (by unfold ndP; rw [Yh (by omega), hml, nlen]; rfl), (Zdh nf),
           by simpa using q1, q2, q3, q4⟩
         simp (disch := omega) [e1, e3, e5, e7, e8, e9, e22, e23, e24, hb, hix, hsr2, Qm, h10b, hi1b, ZU, YP, hak, hau, han, hc1, hc2, hxs, Qf]
         first
          | exact fin _ _ (by simp) (by simp) (by simp) (by simp [hsr2])
          | (trace_state; simp (disch := omega) [e1, e3, e5, e7, e8, e9, e22, e23, e24, hb, hix, hsr2, Qm, h10b, hi1b, ZU, YP, hak, hau, han, hc1, hc2, hxs, Qf]; exact fin _ _ (by simp) (by simp) (by simp) (by simp [hsr2]))
      ·have h10b : eqB op 10 = false := by rw [Qc]; exact h10
       have hxl : xnd.length = ctx.length + more.length := by have := hgood.2.1; rw [cxl] at this; rw [hml]; exact this
       have hak : ∀ v, WN 1 (.sl true ds.isEmpty 1 Qj) (.sl true false 1 [[v]]) = some (.sl true false 1 (Qj ++ [[v]])) := fun v => by
        simp only [WN]
        rw [if_pos ⟨.inl trivial, .inl trivial, .inl trivial, by simp [most]; omega⟩]
        simp
       have hau := ZaQ (c := uds) (by omega) false xnd more.length
       have han := ZaI (c := nds) (by omega) false xnd more.length
       have hc1 := ZaS (n2 := false) (l := xnd) (k := more.length) (by omega)
       have hc2 := Zd (n2 := false) (l := xnd) (k := more.length) (by omega)
       have hxs := (Xx _ xrows hxr).1
       have hnot : ¬ (op = 10 ∧ i = 1 ∧ xty ≠ QI (first ds)) := fun h => h10 h.1
       have fin : ∀ (T : Nat → LV) (H : List Box), T 24 = N ((i : Int) + 1) → T 8 = Zah (nds ++ [(false, xnd.drop more.length)]) → T 9 = Zah (uds ++ [(false, xnd.take more.length)]) → H = none :: none :: some ((zeros (ctx.map Prod.snd).length).map N) :: ZfU (.sl true true 1 []) (.ha 2 1 0 (ctx.map Prod.snd).length (ctx.map Prod.snd).length) true (ds ++ [TT.mk xty xnd xks]).isEmpty (Qj ++ [[share r]]) :: (hr ++ [some k.cells]) → i < ks.length ∧ ∃ ds Qj nds uds hr, TypJ s (ctx.map Prod.snd) op n gty ks (i + 1) T H ds Qj nds uds hr := fun T H q1 q2 q3 q4 =>
        ⟨h6, ds ++ [TT.mk xty xnd xks], Qj ++ [[share r]], nds ++ [(false, xnd.drop more.length)], uds ++ [(false, xnd.take more.length)], hr ++ [some k.cells], VB ds Qj _ _ are hxis, by simp [len],
         kok.snoc (by rw [len]; exact hgood) (by rw [len]; exact hq) (by rw [len]; exact hnot), hnext hq hnot, by simp [ulen], by simp [nlen],
         Ji us (fun j hj => by unfold usP; rw [Za (by omega)]) (by unfold usP; rw [Yh (by omega), hml, ulen]; rfl),
         Ji nd (fun j hj => by unfold ndP; rw [Za (by omega)]) (by unfold ndP; rw [Yh (by omega), hml, nlen]; rfl), (Zdh nf),
         by simpa using q1, q2, q3, q4⟩
       simp (disch := omega) [e1, e3, e5, e7, e8, e9, e22, e23, e24, hb, hix, hsr2, Qm, h10b, ZU, YP, hak, hau, han, hc1, hc2, hxs, Qf]
       first
        | exact fin _ _ (by simp) (by simp) (by simp) (by simp [hsr2])
        | (trace_state; simp (disch := omega) [e1, e3, e5, e7, e8, e9, e22, e23, e24, hb, hix, hsr2, Qm, h10b, ZU, YP, hak, hau, han, hc1, hc2, hxs, Qf]; exact fin _ _ (by simp) (by simp) (by simp) (by simp [hsr2]))
     ·have hq0 : eqB (QL s op n i (hd xty)) 0 = false := by rw [Qc]; exact hq
      have hres := hfb hq
      simp (disch := omega) [e1, e3, e5, e7, e8, e9, e22, e23, e24, hb, hix, hsr2, Qm, hq0, Qv]
      refine Q8 (.inr rfl) (by simp) (Zae (f := QL s op n i (hd xty)) (u := true) (nl := true) (p := []) (by simp) ?_)
      rw [hres]
      exact ⟨hq, true, by simp⟩
  ·rintro t1 hh hf ⟨ds, Qj, nds, uds, hr, J⟩
   (have e1 := hf 1 (by kernel_rfl); have e3 := hf 3 (by kernel_rfl); have e5 := hf 5 (by kernel_rfl); have e7 := hf 7 (by kernel_rfl); clear hf; simp [] at e1 e3 e5 e7)
   obtain ⟨are, len, kok, tell, ulen, nlen, us, nd, nf, e24, e8, e9, rfl⟩ := J
   rw [List.drop_length, Q6] at tell
   simp (disch := omega) [e1, e3, e5, e7, e8, e9]
   have no' : NodeOk s ctx.length op n gty ds.length := by rw [len]; exact no
   have kok' : KidsOk s ctx.length op n ds := by rw [← cxl]; exact kok
   have hnd : ∀ j, j < ds.length → QQ 1 (LC nds.isEmpty nds) (j : Int) = some (.rp [L false (ndP op ds j)]) := fun j hj => by
    have h1 := nf _ (List.getElem_mem (show j < nds.length by omega))
    rw [ZbN nds nds.isEmpty j (by omega), ← nd j (by omega)]
    show some (LV.rp [L (nds[j]'(by omega)).1 (nds[j]'(by omega)).2]) = _
    rw [h1]
   have hud : ∀ j, j < ds.length → ∃ f, QQ 1 (LC uds.isEmpty uds) (j : Int) = some (.rp [L f (usP op ds j)]) := fun j hj =>
    ⟨(uds[j]'(by omega)).1, by rw [ZbN uds uds.isEmpty j (by omega), ← us j (by omega)]⟩
   have fin := Zpf hsy nlc ctx (by omega) hc hcf op n nl1 gty nl2 ks ds no' kok' Qj are true ds.isEmpty nds.isEmpty uds.isEmpty nds uds hnd hud hr ctx.length rfl
   simp only [GTerm.lv, GTerm.cells] at fin
   refine WG (by simpa only [cxl] using fin) ?_
   rintro r h' ⟨rfl, T, ndv, c2, hr', rfl, hfin⟩
   have hT : Qr s (ctx.map Prod.snd) (GTerm.mk op n nl1 gty nl2 ks) = if (Wc s (ctx.map Prod.snd) op n gty ds).1 = 0 then .ok (.mk (Wc s (ctx.map Prod.snd) op n gty ds).2.1 (Wc s (ctx.map Prod.snd) op n gty ds).2.2 ds) else .bad (Wc s (ctx.map Prod.snd) op n gty ds).1 [] := by
    rw [Qr, tell]
   generalize Wc s (ctx.map Prod.snd) op n gty ds = q at hfin hT
   obtain ⟨F, Q1, Q2⟩ := q
   simp only at hfin hT
   have hsr := Xx ds Qj are
   by_cases hF : F = 0
   ·subst hF
    obtain ⟨⟨u, rfl⟩, hn⟩ := hfin rfl
    rw [if_pos rfl] at hT
    have hz0 : eqB 0 0 = true := by rw [Qe]
    simp (disch := omega) [e1, e3, e5, e7, hz0]
    refine Q8 (.inr rfl) (by simp) ?_
    simp
    refine fz_ok hsr.2 hn fun u2 => ?_
    rw [hT]
    exact ⟨ds.isEmpty, true, Qj, by simp [hsr.1], are⟩
   ·have hF0 : eqB F 0 = false := by rw [Qc]; exact hF
    rw [if_neg hF] at hT
    simp (disch := omega) [e1, e3, e5, e7, hF0, Qv]
    refine Q8 (.inr rfl) (by simp) (Zae (f := F) (u := true) (nl := true) (p := []) (by simp) ?_)
    rw [hT]
    exact ⟨hF, true, by simp⟩
end Go.Proofs.YtclfngbealdbgaaGreat
namespace Go.Proofs.YtclfngbealdbgaaGreat
open Go Go.TL
open Go.Proofs.YtclfngbealdbgaaGreat.Ty
set_option linter.unusedSimpArgs false
set_option linter.unusedVariables false
set_option maxRecDepth 20000
set_option maxHeartbeats 4000000
theorem Qd.low {P : Program} {f : FuncId} {args : List LV} {R : LV → Prop} (c : Qd P f args R) : Qd P f args (fun r => R r ∧ Low 0 r) :=
 Wa.mono c fun r h' h => ⟨h, h.2⟩
def GTerm.termB (size n : Int) (t : GTerm) : Bool := QW n 0 8 && (decide (t.size ≤ 400) && WE n size true t)
def inB (s : GSys) (ctx : Wx) (t : GTerm) : Bool := s.sys && (Zf3 s.size ctx && t.termB s.size ctx.length)
theorem has_fn {s : GSys} (t : s.Tab) (n : Int) (h : I64 n) : FnB Tryz.prog (.fnm We [s.lv]) (N n) (QW n 0 (s.size - 1)) := by
 have h2 := t.lo; have h16 := t.hi
 exact ⟨We, [s.lv, N n], by simp [YN], by simp, ZiN s ⟨by omega, by omega⟩ (by omega) n⟩
theorem Zj1 {s : GSys} (t : s.Tab) (nl : Bool) (ty : List Int) (h : Lok ty) : FnB Tryz.prog (.fn Yu [.rp s.cells]) (L nl ty) (wty ty && Zq s.size true ty) := by
 refine ⟨Yu, [L nl ty, .rp s.cells], by simp [YN], by simp, ?_⟩
 refine Qd.of_codeOf ZeW Qz (by simp) ⟨_, rfl, by simp⟩ ?_
 simp (disch := omega) [V8]
 refine Qa (ZgK t nl ty h) (by simp) ?_
 simp (disch := omega)
theorem Zok {s : GSys} (t : s.Tab) (g : GTerm) (hw : g.wf) (n : Int) (hn : I64 n) : Qd Tryz.prog K3 [s.lv, g.lv, N n] (· = B (g.termB s.size n)) := by
 refine Qd.of_codeOf Zhe Qz (by simp) ⟨_, rfl, by simp⟩ ?_
 by_cases hr : QW n 0 8 = true
 ·rw [QV] at hr
  have hc := ZnK (.fnm We [s.lv]) (.fn Yu [.rp s.cells]) (fun m => QW m 0 (s.size - 1)) (fun ty => wty ty && Zq s.size true ty) (by simp) (by simp) (by simp) (by simp) (fun m hm => has_fn t m hm) (fun nl ty h => Zj1 t nl ty h) g.size g (by omega) hw n 0 (by omega) (by omega) (by omega) (by omega)
  rw [ZhN (size := s.size) (closed := true) (fun m => by rw [Bool.eq_iff_iff]; simp [QW, Qi, Qg, Ql, Qk, Qe, Qc, Bool.not_true, Bool.not_false]; omega) (fun ty => rfl)] at hc
  have h2 : leB (Zdv (WE n s.size true g) 0 g.size) 400 = g.termB s.size n := by
   rw [Bool.eq_iff_iff]
   simp only [Qi, Qg, Ql, Qk, Qe, Qc, Bool.not_true, Bool.not_false, Zdv, GTerm.termB, Bool.and_eq_true, decide_eq_true_eq, QV]
   split <;> grind
  have hr' : QW n 0 8 = true := by rw [QV]; exact hr
  simp (disch := omega) [K1, Qv, Qt]
  refine Qa (ZI n 0 8) (by simp) ?_
  simp (disch := omega) [hr']
  refine Qa hc (by simp) ?_
  simp (disch := omega) [h2]
 ·have hr' : QW n 0 8 = false := by simpa using hr
  simp (disch := omega) [K1, Qv, Qt]
  refine Qa (ZI n 0 8) (by simp) ?_
  simp (disch := omega) [hr', GTerm.termB]
theorem ZkY {ctx : Wx} (h : ctx.wf) : I64 (ctx.length : Int) := by have := h.1; unfold I64; omega
structure Arg (s : GSys) (ctx : Wx) (g : GTerm) : Prop where
 sw : s.wf
 cw : ctx.wf
 gw : g.wf
 cf : ∀ c ∈ ctx, ZJ c.1 c.2
 gf : g.fl
theorem Arg.flags {s : GSys} {ctx : Wx} {g : GTerm} (a : Arg s ctx g) (h : Zf3 s.size ctx = true) : (∀ c ∈ ctx, okL s.size c.2 = true) ∧ (∀ c ∈ ctx, c.1 = false) ∧ ctx.length ≤ 8 := by
 unfold Zf3 at h
 rw [Bool.and_eq_true, Ql, Yr] at h
 have hk : ∀ c ∈ ctx, okL s.size c.2 = true := by
  intro c hc
  obtain ⟨i, hi, rfl⟩ := List.getElem_of_mem hc
  have := h.2 i hi
  rw [ZmR hi] at this
  exact this
 refine ⟨hk, fun c hc => ?_, by omega⟩
 cases hn : c.1 with
 | false => rfl
 | true => have := a.cf c hc hn; have := QG (hk c hc); simp_all
theorem Zoz {s : GSys} {ctx : Wx} {g : GTerm} (a : Arg s ctx g) (nlc : Bool) : Qd Tryz.prog VG [s.lv, LC nlc ctx, g.lv] (fun r => if inB s ctx g = true then (Qr s (ctx.map Prod.snd) g).is (share r) else r = .sc (.pointer none)) := by
 refine Qd.of_codeOf Zim Qz (by simp) ?_ ?_
 ·by_cases h : inB s ctx g = true
  ·obtain ⟨ys, h1, h2⟩ := res_ex (Qr s (ctx.map Prod.snd) g) fun f p h => Zl _ _ f p h
   exact ⟨.rp ys, by rw [if_pos h]; exact h1, by simpa using h2⟩
  ·exact ⟨.sc (.pointer none), by rw [if_neg h], by simp⟩
 simp (disch := omega) [ZcV, Qv, Qt]
 refine Qa (ZbQ s a.sw) (by simp) ?_
 cases hs : s.sys
 ·simp (disch := omega) [inB, hs]
 ·have t := GSys.sys_of hs
  simp (disch := omega)
  refine Qa (Zlp s t nlc ctx a.cw) (by simp) ?_
  cases hc : Zf3 s.size ctx
  ·simp (disch := omega) [inB, hs, hc]
  ·simp (disch := omega)
   refine Qa (Zok t g a.gw ctx.length (ZkY a.cw)) (by simp) ?_
   cases ht : g.termB s.size ctx.length
   ·simp (disch := omega) [inB, hs, hc, ht]
   ·have hin : inB s ctx g = true := by simp [inB, hs, hc, ht]
    obtain ⟨f1, f2, f3⟩ := a.flags hc
    have ht' := ht
    unfold GTerm.termB at ht'
    simp only [Bool.and_eq_true, decide_eq_true_eq] at ht'
    have ty := typ_ok hs g.size g nlc ctx (Nat.le_refl _) a.gw a.gf f1 f2 (by omega) ht'.2.2
    simp (disch := omega) [take_cells]
    refine Qh (Qd.low ty) (by simp) ?_
    rintro r ⟨hr, lo⟩
    simp (disch := omega) [hin, hr, lo]
def YR (s : GSys) (ctx : Wx) (g : GTerm) : Option TT := if inB s ctx g = true then (match Qr s (ctx.map Prod.snd) g with
 | .ok x => some x
 | .bad _ _ => none) else none
def told3 (x : Option TT) (r : LV) : Prop := match x with
 | some x => r = .tup [OU true false x.ty, OU true false x.needs, B true]
 | none => r = .tup [.sl false true 1 [], .sl false true 1 [], B false]
theorem Kc {s : GSys} {ctx : Wx} {g : GTerm} (a : Arg s ctx g) {x : TT} (h : YR s ctx g = some x) : x.good s ctx.length ∧ s.sys = true ∧ Zf3 s.size ctx = true ∧ g.termB s.size ctx.length = true ∧ ctx.length ≤ 8 ∧ Qr s (ctx.map Prod.snd) g = .ok x := by
 unfold YR at h
 split at h
 ·rename_i hin
  unfold inB at hin
  simp only [Bool.and_eq_true] at hin
  obtain ⟨h1, h2, h3⟩ := hin
  obtain ⟨f1, f2, f3⟩ := a.flags h2
  split at h
  ·rename_i y hy
   simp only [Option.some.injEq] at h
   subst h
   have h4 := h3
   unfold GTerm.termB at h4
   simp only [Bool.and_eq_true, decide_eq_true_eq] at h4
   have := Jr (GSys.sys_of h1) g (ctx.map Prod.snd) y (fun l hl => by
    obtain ⟨c, hc, rfl⟩ := List.mem_map.1 hl
    exact f1 c hc) (by rw [List.length_map]; exact h4.2.2) hy
   rw [List.length_map] at this
   exact ⟨this, h1, h2, h3, f3, hy⟩
  ·simp at h
 ·simp at h
theorem Zp2 (ys : List LV) : Xi .ptr .eql (.rp ys) (.sc (.pointer none)) = some (B false) := rfl
theorem bin_pnil : Xi .ptr .eql (.sc (.pointer none)) (.sc (.pointer none)) = some (B true) := rfl
theorem ZfV {s : GSys} {ctx : Wx} {g : GTerm} (a : Arg s ctx g) (nlc : Bool) : Qd Tryz.prog Z7 [s.lv, LC nlc ctx, g.lv] (told3 (YR s ctx g)) := by
 refine Qd.of_codeOf ZjO Qz (by simp) ?_ ?_
 ·cases h : YR s ctx g with
  | some x => exact ⟨_, rfl, by simp⟩
  | none => exact ⟨_, rfl, by simp⟩
 simp (disch := omega) [Zd3, Qv, Qt]
 refine Qh (Qd.low (Zoz a nlc)) (by simp) ?_
 rintro r ⟨hr, lo⟩
 by_cases hin : inB s ctx g = true
 ·rw [if_pos hin] at hr
  cases hT : Qr s (ctx.map Prod.snd) g with
  | ok x =>
   have hx : YR s ctx g = some x := by simp [YR, hin, hT]
   obtain ⟨hg, _, _, _, hc8, _⟩ := Kc a hx
   rw [hT] at hr
   obtain ⟨ty, nd, ks⟩ := x
   simp only [Res.is, TT.is] at hr
   obtain ⟨n3, n4, Qj, hs2, hrr⟩ := hr
   have hty := QG hg.1
   have hnd := hg.2.1
   simp only [TT.ty_mk, TT.needs_mk] at hty hnd
   rw [hx]
   have hz0 : eqB 0 0 = true := by rw [Qe]
   have hrs := (Xx _ Qj hrr).1
   simp (disch := omega) [hs2, hz0, hrs, Zp2]
   refine Qa (Zcy false ty (by omega)) (by simp) ?_
   simp (disch := omega) [hs2, hz0, hrs, cl]
   refine Qa (Zcy false nd (by omega)) (by simp) ?_
   simp (disch := omega) [hs2, hz0, hrs, cl, told3]
  | bad f p =>
   have hx : YR s ctx g = none := by simp [YR, hin, hT]
   rw [hT] at hr
   obtain ⟨hf, n4, hs2⟩ := hr
   have hf0 : eqB f 0 = false := by rw [Qc]; exact hf
   rw [hx]
   simp (disch := omega) [hs2, hf0, told3, Zp2]
 ·rw [if_neg hin] at hr
  subst hr
  have hx : YR s ctx g = none := by simp [YR, hin]
  rw [hx]
  simp (disch := omega) [told3, bin_pnil]
end Go.Proofs.YtclfngbealdbgaaGreat
namespace Go.Proofs.YtclfngbealdbgaaGreat
open Go Go.TL
set_option linter.unusedSimpArgs false
set_option linter.unusedVariables false
set_option maxRecDepth 20000
set_option maxHeartbeats 4000000
def mmLV (mx : Bool) (x y : LV) : Option LV := match x, y with
 | .sc (.int k a), .sc (.int _ b) => some (.sc (.int k (if (if mx then b > a else b < a) then b else a)))
 | _, _ => none
@[simp] theorem step_mm {s : St} {d : Nat} {mx : Bool} {x y : X} : TL.step (.minmax d mx x y) s = (mmLV mx (TL.get s.t x) (TL.get s.t y)).map (s.put d) := by
 simp only [TL.step, mmLV]
 split <;> simp_all
@[simp] theorem mm_min {k k' : IntKind} {a b : Int} : mmLV false (.sc (.int k a)) (.sc (.int k' b)) = some (.sc (.int k (if b < a then b else a))) := by simp [mmLV]
@[simp] theorem mm_max {k k' : IntKind} {a b : Int} : mmLV true (.sc (.int k a)) (.sc (.int k' b)) = some (.sc (.int k (if a < b then b else a))) := by simp [mmLV]
def WS {α : Type} (f : Nat → Nat → α) (size a b : Nat) : List α := ((List.range a).flatMap fun x => (List.range size).map fun y => f x y) ++ (List.range b).map fun y => f a y
theorem Zgj {α : Type} (f : Nat → Nat → α) (size : Nat) : WS f size 0 0 = [] := by simp [WS]
theorem Vo {α : Type} (f : Nat → Nat → α) (size a b : Nat) : WS f size a (b + 1) = WS f size a b ++ [f a b] := by
 simp [WS, List.range_succ]
theorem Zfa {α : Type} (f : Nat → Nat → α) (size a : Nat) : WS f size (a + 1) 0 = WS f size a size := by
 simp [WS, List.range_succ]
abbrev OI (l : List Int) : LV := .sl true l.isEmpty 1 (l.map fun n => [N n])
abbrev OBl (l : List Bool) : LV := .sl true l.isEmpty 1 (l.map fun b => [B b])
theorem Jb {α : Type} (f : Nat → Nat → α) (size : Nat) : ∀ a b, (WS f size a b).length = a * size + b
 | 0, b => by simp [WS]
 | a + 1, b => by
  have h1 := Jb f size a size
  rw [← Zfa] at h1
  have : (WS f size (a + 1) b).length = (WS f size (a + 1) 0).length + b := by simp [WS]
  rw [this, h1, Nat.add_mul]; omega
theorem ZkN {l : List Int} {x : Int} (h : l.length < 1099511627776) : WN 1 (OI l) (.sl true false 1 [[N x]]) = some (OI (l ++ [x])) := by
 simp only [WN]
 rw [if_pos ⟨.inl trivial, .inl trivial, .inl trivial, by simp [most]; omega⟩]
 simp
theorem app_B {l : List Bool} {x : Bool} (h : l.length < 1099511627776) : WN 1 (OBl l) (.sl true false 1 [[B x]]) = some (OBl (l ++ [x])) := by
 simp only [WN]
 rw [if_pos ⟨.inl trivial, .inl trivial, .inl trivial, by simp [most]; omega⟩]
 simp
theorem ZfN {a b size : Nat} (hs : size ≤ 100) (ha : a < size) (hb : b < size) : a * size + b < 1099511627776 := by
 have : a * size ≤ 100 * 100 := Nat.mul_le_mul (by omega) hs
 omega
def nPl (n a b : Nat) : Int := min ((a : Int) + b) (n + 1)
def nTm (n a b : Nat) : Int := min ((a : Int) * b) (n + 1)
def nBl (n : Nat) (bound : Bool) (a b : Nat) : Bool := eqB a b || (eqB b (n + 1) || (bound && leB a b))
abbrev numSys (n : Nat) (bound : Bool) : LV := .agg [N (n + 2), OI (WS (nPl n) (n + 2) (n + 2) 0), OI (WS (nTm n) (n + 2) (n + 2) 0), OBl (WS (nBl n bound) (n + 2) (n + 2) 0)]
theorem ZqG {a b n : Nat} (hn : n ≤ 14) (ha : a < n + 2) (hb : b < n + 2) : (0 : Int) ≤ (a : Int) * b ∧ (a : Int) * b ≤ 256 := by
 have : a * b ≤ 16 * 16 := Nat.mul_le_mul (by omega) (by omega)
 have e : ((a * b : Nat) : Int) = (a : Int) * b := by simp
 omega
theorem VD (a b : Int) : Qd Tryz.prog Yq [N a, N b] (· = N (min a b)) := by
 refine Qd.of_codeOf Zmn Qz (by simp) ⟨_, rfl, by simp⟩ ?_
 simp (disch := omega) [Ze4]
 repeat' (first
  | (with_reducible (first | refine Qo (fun hb_ => ?_) (fun hb_ => ?_) | refine Qn (fun hb_ => ?_) (fun hb_ => ?_)) <;> simp (disch := omega) [hb_])
  | simp (disch := omega))
 all_goals simp only [Qi, Qg, Ql, Qk, Qe, Qc, Bool.not_true, Bool.not_false] at *
 all_goals omega
theorem Zfg (n : Nat) (h1 : 1 ≤ n) (hn : n ≤ 14) (bound : Bool) : Qd Tryz.prog ZR [N n, B bound] (· = numSys n bound) := by
  refine Qd.of_codeOf ZfM Qz (by simp) ⟨_, rfl, by simp⟩ ?_
  have hwi : QW n 1 14 = true := by rw [QV]; omega
  simp (disch := omega) [Zay]
  refine Qa (ZfF _ _ _) (by simp) ?_
  simp (disch := omega) [hwi, Qf]
  refine Wf (n + 2) 0 (fun a t h => t 7 = N a ∧ h = [some [N 0, .sl true true 1 [], .sl true true 1 [], .sl true true 1 []], some [N (n + 2), OI (WS (nPl n) (n + 2) a 0), OI (WS (nTm n) (n + 2) a 0), OBl (WS (nBl n bound) (n + 2) a 0)]])
    (fun t h => h = [some [N 0, .sl true true 1 [], .sl true true 1 [], .sl true true 1 []], some [N (n + 2), OI (WS (nPl n) (n + 2) (n + 2) 0), OI (WS (nTm n) (n + 2) (n + 2) 0), OBl (WS (nBl n bound) (n + 2) (n + 2) 0)]]) (by simp [Zgj]) (by omega) ?_ ?_
  · rintro a t1 hh hf ha ⟨e7, rfl⟩
    (have e0 := hf 0 (by kernel_rfl); have e1 := hf 1 (by kernel_rfl); have e4 := hf 4 (by kernel_rfl); have e5 := hf 5 (by kernel_rfl); have e6 := hf 6 (by kernel_rfl); clear hf; simp [] at e0 e1 e4 e5 e6)
    simp (disch := omega) [e0, e1, e5, e6, e7]
    (with_reducible first | refine Qo (fun h2 => ?_) (fun h2 => ?_) | refine Qn (fun h2 => ?_) (fun h2 => ?_))
    · simp only [Qi, Qg, Ql, Qk, Qe, Qc, Bool.not_true, Bool.not_false] at h2
      simp (disch := omega) [e0, e1, e5, e6, e7]
      refine Wf (n + 2) 0 (fun b t h => t 8 = N b ∧ h = [some [N 0, .sl true true 1 [], .sl true true 1 [], .sl true true 1 []], some [N (n + 2), OI (WS (nPl n) (n + 2) a b), OI (WS (nTm n) (n + 2) a b), OBl (WS (nBl n bound) (n + 2) a b)]])
        (fun t h => h = [some [N 0, .sl true true 1 [], .sl true true 1 [], .sl true true 1 []], some [N (n + 2), OI (WS (nPl n) (n + 2) a (n + 2)), OI (WS (nTm n) (n + 2) a (n + 2)), OBl (WS (nBl n bound) (n + 2) a (n + 2))]]) (by simp) (by omega) ?_ ?_
      · rintro b t2 hh hf hb' ⟨f8, rfl⟩
        (have f0 := hf 0 (by kernel_rfl); have f1 := hf 1 (by kernel_rfl); have f4 := hf 4 (by kernel_rfl); have f5 := hf 5 (by kernel_rfl); have f6 := hf 6 (by kernel_rfl); have f7 := hf 7 (by kernel_rfl); clear hf; simp [e0, e1, e4, e5, e6, e7] at f0 f1 f4 f5 f6 f7)
        simp (disch := omega) [f0, f1, f5, f6, f7, f8]
        (with_reducible first | refine Qo (fun h3 => ?_) (fun h3 => ?_) | refine Qn (fun h3 => ?_) (fun h3 => ?_))
        · simp only [Qi, Qg, Ql, Qk, Qe, Qc, Bool.not_true, Bool.not_false] at h3
          have hm := ZqG hn (a := a) (b := b) (by omega) (by omega)
          have hsm := ZfN (size := n + 2) (by omega) (a := a) (b := b) (by omega) (by omega)
          have a1 := ZkN (x := nPl n a b) (l := WS (nPl n) (n + 2) a b) (by rw [Jb]; exact hsm)
          have a2 := ZkN (x := nTm n a b) (l := WS (nTm n) (n + 2) a b) (by rw [Jb]; exact hsm)
          have a3 := fun x => app_B (x := x) (l := WS (nBl n bound) (n + 2) a b) (by rw [Jb]; exact hsm)
          rw [← Vo] at a1 a2
          have m1 := VD ((a : Int) + b) (n + 1)
          have m2 := VD ((a : Int) * b) (n + 1)
          rw [show min ((a : Int) + b) (n + 1) = nPl n a b from rfl] at m1
          rw [show min ((a : Int) * b) (n + 1) = nTm n a b from rfl] at m2
          have hst : ∀ x, x = nBl n bound a b → WS (nBl n bound) (n + 2) a b ++ [x] = WS (nBl n bound) (n + 2) a (b + 1) := by rintro x rfl; rw [Vo]
          clear e0 e1 e4 e5 e6 e7 hst
          cases bound <;> (
    simp (disch := omega) [f0, f1, f5, f6, f7, f8, Qf]
    repeat' (first
    | with_reducible refine Qa (m1) (by simp) ?_
    | with_reducible refine Qa (m2) (by simp) ?_
    | (with_reducible (first | refine Qo (fun hb_ => ?_) (fun hb_ => ?_) | refine Qn (fun hb_ => ?_) (fun hb_ => ?_)) <;> simp (disch := omega) [hb_, f0, f1, f5, f6, f7, f8, Qf, a1, a2, a3])
    | simp (disch := omega) [f0, f1, f5, f6, f7, f8, Qf, a1, a2, a3]))
          all_goals clear f0 f1 f4 f5 f6 f7 f8 m1 m2 a1 a2 a3
          all_goals refine ⟨by omega, ?_⟩
          all_goals rw [Vo]
          all_goals simp_all [nBl]
        · simp only [Qi, Qg, Ql, Qk, Qe, Qc, Bool.not_true, Bool.not_false] at h3
          simp (disch := omega)
          rw [show b = n + 2 by omega]; simp
      · rintro t2 hh hf rfl
        (have f7 := hf 7 (by kernel_rfl); clear hf; simp [e7] at f7)
        simp (disch := omega) [f7, Zfa]
        exact ⟨by omega, Qf (by omega)⟩
    · simp only [Qi, Qg, Ql, Qk, Qe, Qc, Bool.not_true, Bool.not_false] at h2
      simp (disch := omega)
      rw [show a = n + 2 by omega]; simp
  · rintro t1 hh hf rfl
    (have e4 := hf 4 (by kernel_rfl); have e5 := hf 5 (by kernel_rfl); clear hf; simp [] at e4 e5)
    simp (disch := omega) [e4, e5]
end Go.Proofs.YtclfngbealdbgaaGreat
namespace Go.Proofs.YtclfngbealdbgaaGreat
open Go Go.TL
set_option linter.unusedSimpArgs false
set_option linter.unusedVariables false
set_option linter.unusedSectionVars false
set_option maxRecDepth 20000
set_option maxHeartbeats 4000000
theorem wrap_i64 (n : Int) : I64 (IntKind.i64.wrap n) := by
 unfold I64; rw [IntKind.wrap_i64]; omega
def andI (a b : Int) : Int := IntKind.i64.wrap (BitVec.ofInt 64 a &&& BitVec.ofInt 64 b).toNat
def xorI (a b : Int) : Int := IntKind.i64.wrap (BitVec.ofInt 64 a ^^^ BitVec.ofInt 64 b).toNat
def shrI (a b : Int) : Int := a.fdiv (2 ^ (min b.toNat 64))
@[simp] theorem bin_and {a b : Int} : Xi .num .and (N a) (N b) = some (N (andI a b)) := rfl
@[simp] theorem bin_xor {a b : Int} : Xi .num .xor (N a) (N b) = some (N (xorI a b)) := rfl
@[simp] theorem bin_shr {a b : Int} : Xi .num .shr (N a) (.sc (.int .u64 b)) = if b < 0 then none else some (N (shrI a b)) := by simp [Xi, shrI, IntKind.bits]
theorem V4 {a b : Int} : Xi .num .rem (N a) (N b) = if b = 0 then none else some (N (a.tmod b)) := by
 simp only [Xi, ZZ]
 by_cases h : b = 0 <;> simp [h]
theorem ZpN {a b : Int} : Xi .num .quo (N a) (N b) = if b = 0 then none else some (N (IntKind.i64.wrap (a.tdiv b))) := by
 simp only [Xi, ZZ]
 by_cases h : b = 0 <;> simp [h]
theorem Zn6 (a : Int) : 0 ≤ andI a 255 ∧ andI a 255 ≤ 255 := by
 unfold andI
 have h : (BitVec.ofInt 64 a &&& BitVec.ofInt 64 255).toNat ≤ 255 := by
  rw [BitVec.toNat_and]
  exact Nat.le_trans Nat.and_le_right (by decide)
 rw [IntWalk.i64_in _ (by omega)]
 omega
theorem and_I64 (a b : Int) : I64 (andI a b) := wrap_i64 _
theorem Zcu : ∀ {ct : LV} {D : Dr}, share ct = D.lv → ct.alive = true
 | .sc _, D, h => rfl
 | .sl _ _ _ _, D, h => rfl
 | .ha _ _ _ _ _, D, h => rfl
 | .ptr _ _, D, h => rfl
 | .rp _, D, h => rfl
 | .fn _ _, D, h => rfl
 | .fnm _ _, D, h => rfl
 | .agg _, D, h => rfl
 | .tup _, D, h => rfl
 | .raw _, D, h => by simp [Dr.lv] at h
 | .dead, D, h => by simp [Dr.lv] at h
 | .both u t, D, h => by
  simp only [share] at h
  have := Zcu h
  simp only [LV.alive, this, Bool.true_and]
  split
  ·simp [Dr.lv] at h
  ·rfl
theorem idx_D {D : Dr} {i : Int} (h0 : 0 ≤ i) (h1 : i < D.bs.length) : QQ 1 D.lv i = some (.rp [.sc (.int .u8 (D.bs.getD i.toNat 0))]) := by
 have := Zf6 (fun b : Int => LV.sc (.int .u8 b)) (by simp) D.bs false D.nl i h0 h1
 rw [Dr.lv, this, List.getD_eq_getElem?_getD, List.getElem?_eq_getElem (show i.toNat < D.bs.length by omega)]
 rfl
theorem byte_D {D : Dr} (h : D.ok) {i : Int} (h0 : 0 ≤ i) (h1 : i < D.bs.length) : 0 ≤ D.bs.getD i.toNat 0 ∧ D.bs.getD i.toNat 0 ≤ 255 := by
 rw [List.getD_eq_getElem?_getD, List.getElem?_eq_getElem (show i.toNat < D.bs.length by omega)]
 exact h.byte _ (List.getElem_mem _)
section
variable (D : Dr) (ok : D.ok)
include ok
theorem Zqm : WJ Tryz.prog D YE [] (fun r => ∃ b, r = N b ∧ 0 ≤ b ∧ b ≤ 255) := by
 refine WJ.of_codeOf Zjo Qz (by simp) ⟨N 0, 0, rfl, by omega, by omega⟩ ?_
 intro h1 h3 ct i k hct hk
 have al := Zcu hct
 have hlen := ok.len
 simp (disch := omega) [ZdA, al, hct]
 (with_reducible first | refine Qo (fun h5 => ?_) (fun h5 => ?_) | refine Qn (fun h5 => ?_) (fun h5 => ?_))
 ·simp only [Qi, Qg, Ql, Qk, Qe, Qc, Bool.not_true, Bool.not_false] at h5
  have hb := byte_D ok hk.1 h5
  have hi := hk.1
  simp (disch := omega) [al, hct, idx_D hk.1 h5, Qf]
  (first | refine Xw (.inr rfl) rfl ?_ (by simp) ?_ | refine Xa (.inr rfl) rfl ?_ (by simp) ?_)
  ·exact ⟨by omega, by omega, (wrap_i64 _).1, (wrap_i64 _).2⟩
  ·simp; exact Zn6 _
 ·simp (disch := omega) [al, hct]
  (first | refine Xw (.inr rfl) rfl ?_ (by simp) ?_ | refine Xa (.inr rfl) rfl ?_ (by simp) ?_)
  ·exact ⟨hk.1, hk.2.1, (wrap_i64 _).1, (wrap_i64 _).2⟩
  ·simp; exact Zn6 _
theorem W9 (n : Int) (hn : I64 n) : WJ Tryz.prog D Wk [N n] (fun r => ∃ m, r = N m ∧ 0 ≤ m ∧ (0 < n → m < n) ∧ (n ≤ 0 → m = 0)) := by
 refine WJ.of_codeOf Zib Qz (by simp) ⟨N 0, 0, rfl, by omega, by omega, by omega⟩ ?_
 intro h1 h3 ct i k hct hk
 have hb := Zqm D ok
 simp (disch := omega) [Zcx]
 (with_reducible first | refine Qo (fun h5 => ?_) (fun h5 => ?_) | refine Qn (fun h5 => ?_) (fun h5 => ?_))
 ·simp only [Qi, Qg, Ql, Qk, Qe, Qc, Bool.not_true, Bool.not_false] at h5
  simp (disch := omega)
  (first | refine Xw (.inr rfl) rfl ?_ (by simp) ?_ | refine Xa (.inr rfl) rfl ?_ (by simp) ?_)
  ·exact hk
  ·simp <;> omega
 ·simp only [Qi, Qg, Ql, Qk, Qe, Qc, Bool.not_true, Bool.not_false] at h5
  simp (disch := omega)
  have hz : ¬ n = 0 := by omega
  have rem : ∀ a : Int, 0 ≤ a → 0 ≤ a.tmod n ∧ a.tmod n < n := fun a ha => by
   rw [Int.tmod_eq_emod_of_nonneg ha]
   exact ⟨Int.emod_nonneg _ hz, Int.emod_lt_of_pos _ (by omega)⟩
  (with_reducible first | refine Qo (fun h6 => ?_) (fun h6 => ?_) | refine Qn (fun h6 => ?_) (fun h6 => ?_))
  ·simp (disch := omega)
   refine Qq hb hct hk ?_
   rintro r i1 k1 hk1 ⟨b, rfl, hb0, hb1⟩
   simp (disch := omega) [V4, hz]
   (first | refine Xw (.inr rfl) rfl ?_ (by simp) ?_ | refine Xa (.inr rfl) rfl ?_ (by simp) ?_)
   ·exact hk1
   ·have := rem b hb0
    simp; omega
  ·simp (disch := omega)
   refine Qq hb hct hk ?_
   rintro r i1 k1 hk1 ⟨a, rfl, ha0, ha1⟩
   simp (disch := omega)
   refine Qq hb hct hk1 ?_
   rintro r i2 k2 hk2 ⟨b, rfl, hb0, hb1⟩
   simp (disch := omega)
   refine Qq hb hct hk2 ?_
   rintro r i3 k3 hk3 ⟨c, rfl, hc0, hc1⟩
   simp (disch := omega)
   refine Qq hb hct hk3 ?_
   rintro r i4 k4 hk4 ⟨d, rfl, hd0, hd1⟩
   simp (disch := omega) [V4, hz, Qf]
   (first | refine Xw (.inr rfl) rfl ?_ (by simp) ?_ | refine Xa (.inr rfl) rfl ?_ (by simp) ?_)
   ·exact hk4
   ·have := rem (a * 16777216 + b * 65536 + c * 256 + d) (by omega)
    simp; omega
theorem ZO (n : Int) (hn : I64 n) : WJ Tryz.prog D W6 [N n] (fun r => ∃ b, r = B b) := by
 refine WJ.of_codeOf ZjE Qz (by simp) ⟨B true, true, rfl⟩ ?_
 intro h1 h3 ct i k hct hk
 simp (disch := omega) [ZdW]
 refine Qq (W9 D ok n hn) hct hk ?_
 rintro r i1 k1 hk1 ⟨m, rfl, _⟩
 simp (disch := omega)
 (first | refine Xw (.inr rfl) rfl ?_ (by simp) ?_ | refine Xa (.inr rfl) rfl ?_ (by simp) ?_)
 ·exact hk1
 ·simp
end
end Go.Proofs.YtclfngbealdbgaaGreat
namespace Go.Proofs.YtclfngbealdbgaaGreat
open Go Go.TL
set_option linter.unusedSimpArgs false
set_option linter.unusedVariables false
set_option linter.unusedSectionVars false
set_option maxRecDepth 20000
set_option maxHeartbeats 4000000
theorem l1Max_ok (a b : Int) : Qd Tryz.prog Za2 [N a, N b] (· = N (max a b)) := by
 refine Qd.of_codeOf Zlq Qz (by simp) ⟨_, rfl, by simp⟩ ?_
 simp (disch := omega) [ZeP]
 repeat' (first
  | (with_reducible (first | refine Qo (fun hb_ => ?_) (fun hb_ => ?_) | refine Qn (fun hb_ => ?_) (fun hb_ => ?_)) <;> simp (disch := omega) [hb_])
  | simp (disch := omega))
 all_goals simp only [Qi, Qg, Ql, Qk, Qe, Qc, Bool.not_true, Bool.not_false] at *
 all_goals omega
def lX (n a : Nat) : Int := ((n : Int) + 1 - a).tmod (n + 1)
theorem Zof {m k : Int} (h0 : 0 ≤ m) (hk : 0 < k) : 0 ≤ m.tmod k ∧ m.tmod k < k := by
 rw [Int.tmod_eq_emod_of_nonneg h0]
 exact ⟨Int.emod_nonneg _ (by omega), Int.emod_lt_of_pos _ hk⟩
theorem lX_rng {n a : Nat} (h : a ≤ n) : 0 ≤ lX n a ∧ lX n a ≤ n := by
 have := Zof (m := (n : Int) + 1 - a) (k := n + 1) (by omega) (by omega)
 unfold lX; omega
def lPl (n a b : Nat) : Int := ((n : Int) + 1 - max (lX n a) (lX n b)).tmod (n + 1)
def lTm (n a b : Nat) : Int := ((n : Int) + 1 - min (lX n a) (lX n b)).tmod (n + 1)
def lBl (n a b : Nat) : Bool := leB (lX n a) (lX n b)
abbrev Zai (size : Nat) (p t : Nat → Nat → Int) (b : Nat → Nat → Bool) : LV := .agg [N size, OI (WS p size size 0), OI (WS t size size 0), OBl (WS b size size 0)]
theorem ZcE (n : Nat) (h1 : 1 ≤ n) (hn : n ≤ 15) : Qd Tryz.prog XA [N n] (· = Zai (n + 1) (lPl n) (lTm n) (lBl n)) := by
  refine Qd.of_codeOf Zef Qz (by simp) ⟨_, rfl, by simp⟩ ?_
  have hwi : QW n 1 15 = true := by rw [QV]; omega
  simp (disch := omega) [VH]
  refine Qa (ZfF _ _ _) (by simp) ?_
  simp (disch := omega) [hwi, Qf]
  refine Wf (n + 1) 0 (fun a t h => t 4 = N a ∧ h = [some [N 0, .sl true true 1 [], .sl true true 1 [], .sl true true 1 []], some [N (n + 1), OI (WS (lPl n) (n + 1) a 0), OI (WS (lTm n) (n + 1) a 0), OBl (WS (lBl n) (n + 1) a 0)]])
    (fun t h => h = [some [N 0, .sl true true 1 [], .sl true true 1 [], .sl true true 1 []], some [N (n + 1), OI (WS (lPl n) (n + 1) (n + 1) 0), OI (WS (lTm n) (n + 1) (n + 1) 0), OBl (WS (lBl n) (n + 1) (n + 1) 0)]]) (by simp [Zgj]) (by omega) ?_ ?_
  · rintro a t1 hh hf ha ⟨e4, rfl⟩
    (have e0 := hf 0 (by kernel_rfl); have e2 := hf 2 (by kernel_rfl); have e3 := hf 3 (by kernel_rfl); clear hf; simp [] at e0 e2 e3)
    simp (disch := omega) [e0, e2, e3, e4]
    (with_reducible first | refine Qo (fun h2 => ?_) (fun h2 => ?_) | refine Qn (fun h2 => ?_) (fun h2 => ?_))
    · simp only [Qi, Qg, Ql, Qk, Qe, Qc, Bool.not_true, Bool.not_false] at h2
      simp (disch := omega) [e0, e2, e3, e4]
      refine Wf (n + 1) 0 (fun b t h => t 5 = N b ∧ h = [some [N 0, .sl true true 1 [], .sl true true 1 [], .sl true true 1 []], some [N (n + 1), OI (WS (lPl n) (n + 1) a b), OI (WS (lTm n) (n + 1) a b), OBl (WS (lBl n) (n + 1) a b)]])
        (fun t h => h = [some [N 0, .sl true true 1 [], .sl true true 1 [], .sl true true 1 []], some [N (n + 1), OI (WS (lPl n) (n + 1) a (n + 1)), OI (WS (lTm n) (n + 1) a (n + 1)), OBl (WS (lBl n) (n + 1) a (n + 1))]]) (by simp) (by omega) ?_ ?_
      · rintro b t2 hh hf hb' ⟨f5, rfl⟩
        (have f0 := hf 0 (by kernel_rfl); have f2 := hf 2 (by kernel_rfl); have f3 := hf 3 (by kernel_rfl); have f4 := hf 4 (by kernel_rfl); clear hf; simp [e0, e2, e3, e4] at f0 f2 f3 f4)
        simp (disch := omega) [f0, f2, f3, f4, f5]
        (with_reducible first | refine Qo (fun h3 => ?_) (fun h3 => ?_) | refine Qn (fun h3 => ?_) (fun h3 => ?_))
        · simp only [Qi, Qg, Ql, Qk, Qe, Qc, Bool.not_true, Bool.not_false] at h3
          have xa := lX_rng (n := n) (a := a) (by omega)
          have xb := lX_rng (n := n) (a := b) (by omega)
          have hsm := ZfN (size := n + 1) (by omega) (a := a) (b := b) (by omega) (by omega)
          have a1 := ZkN (x := lPl n a b) (l := WS (lPl n) (n + 1) a b) (by rw [Jb]; exact hsm)
          have a2 := ZkN (x := lTm n a b) (l := WS (lTm n) (n + 1) a b) (by rw [Jb]; exact hsm)
          have a3 := app_B (x := lBl n a b) (l := WS (lBl n) (n + 1) a b) (by rw [Jb]; exact hsm)
          rw [← Vo] at a1 a2 a3
          have m1 := l1Max_ok (lX n a) (lX n b)
          have m2 := VD (lX n a) (lX n b)
          have hz : ¬ (n : Int) + 1 = 0 := by omega
          have q1 : ((n : Int) + 1 - a).tmod (n + 1) = lX n a := rfl
          have q2 : ((n : Int) + 1 - b).tmod (n + 1) = lX n b := rfl
          have q3 : ((n : Int) + 1 - max (lX n a) (lX n b)).tmod (n + 1) = lPl n a b := rfl
          have q4 : ((n : Int) + 1 - min (lX n a) (lX n b)).tmod (n + 1) = lTm n a b := rfl
          have q5 : leB (lX n a) (lX n b) = lBl n a b := rfl
          clear e0 e2 e3 e4
          simp (disch := omega) [f0, f2, f3, f4, f5, Qf, V4, hz, q1, q2]
          repeat' (first
    | with_reducible refine Qa (m1) (by simp) ?_
    | with_reducible refine Qa (m2) (by simp) ?_
    | (with_reducible (first | refine Qo (fun hb_ => ?_) (fun hb_ => ?_) | refine Qn (fun hb_ => ?_) (fun hb_ => ?_)) <;> simp (disch := omega) [hb_, f0, f2, f3, f4, f5, Qf, V4, hz, q1, q2, q3, q4, q5, a1, a2, a3])
    | simp (disch := omega) [f0, f2, f3, f4, f5, Qf, V4, hz, q1, q2, q3, q4, q5, a1, a2, a3])
          all_goals omega
        · simp only [Qi, Qg, Ql, Qk, Qe, Qc, Bool.not_true, Bool.not_false] at h3
          simp (disch := omega)
          rw [show b = n + 1 by omega]; simp
      · rintro t2 hh hf rfl
        (have f4 := hf 4 (by kernel_rfl); clear hf; simp [e4] at f4)
        simp (disch := omega) [f4, Zfa]
        exact ⟨by omega, Qf (by omega)⟩
    · simp only [Qi, Qg, Ql, Qk, Qe, Qc, Bool.not_true, Bool.not_false] at h2
      simp (disch := omega)
      rw [show a = n + 1 by omega]; simp
  · rintro t1 hh hf rfl
    (have e2 := hf 2 (by kernel_rfl); have e3 := hf 3 (by kernel_rfl); clear hf; simp [] at e2 e3)
    simp (disch := omega) [e2, e3]
def Zt (n g : Int) : Int := if g = 0 then 0 else if g = 1 then 1 else if g ≤ n + 1 then (g - 1).tdiv n else g.tdiv n
def Yv (n g : Int) : Int := if g < 2 then g else if g ≤ n + 1 then (g - 1).tmod n else g.tmod n
def pairI (n x y : Int) : Int := if x * n + y = 0 then 0 else if x * n + y = n + 1 then 1 else if x * n + y < n + 1 then x * n + y + 1 else x * n + y
theorem Zi4 {a n : Int} (h0 : 0 ≤ a) (h1 : a ≤ 100000) (hn : 0 < n) : -9223372036854775808 ≤ a.tdiv n ∧ a.tdiv n ≤ 9223372036854775807 := by
 rw [Int.tdiv_eq_ediv_of_nonneg h0]
 have h2 := Int.ediv_nonneg h0 (Int.le_of_lt hn)
 have h3 := Int.ediv_le_self n h0
 omega
theorem Zh7 (n g : Int) (hn : 1 ≤ n ∧ n ≤ 100) (hg : 0 ≤ g ∧ g ≤ 10000) : Qd Tryz.prog JJ [N n, N g] (· = N (Zt n g)) := by
 refine Qd.of_codeOf ZiE Qz (by simp) ⟨_, rfl, by simp⟩ ?_
 have hz : ¬ n = 0 := by omega
 simp (disch := omega) [Zda]
 repeat' (first
  | (with_reducible (first | refine Qo (fun hb_ => ?_) (fun hb_ => ?_) | refine Qn (fun hb_ => ?_) (fun hb_ => ?_)) <;> simp (disch := omega) [hb_, Qf, ZpN, hz])
  | simp (disch := omega) [Qf, ZpN, hz])
 all_goals simp only [Qi, Qg, Ql, Qk, Qe, Qc, Bool.not_true, Bool.not_false] at *
 all_goals unfold Zt
 all_goals simp_all
 ·exact Qf (Zi4 (a := g - 1) (n := n) (by omega) (by omega) (by omega))
 ·rw [if_neg (by omega)]; exact Qf (Zi4 (a := g) (n := n) (by omega) (by omega) (by omega))
theorem ZgC (n g : Int) (hn : 1 ≤ n ∧ n ≤ 100) (hg : 0 ≤ g ∧ g ≤ 10000) : Qd Tryz.prog Jh [N n, N g] (· = N (Yv n g)) := by
 refine Qd.of_codeOf Zhb Qz (by simp) ⟨_, rfl, by simp⟩ ?_
 have hz : ¬ n = 0 := by omega
 simp (disch := omega) [ZbE]
 repeat' (first
  | (with_reducible (first | refine Qo (fun hb_ => ?_) (fun hb_ => ?_) | refine Qn (fun hb_ => ?_) (fun hb_ => ?_)) <;> simp (disch := omega) [hb_, Qf, V4, hz])
  | simp (disch := omega) [Qf, V4, hz])
 all_goals simp only [Qi, Qg, Ql, Qk, Qe, Qc, Bool.not_true, Bool.not_false] at *
 all_goals unfold Yv
 all_goals (try simp_all)
 all_goals (repeat' split)
 all_goals (first | rfl | omega)
theorem ZkI (n x y : Int) (hn : 1 ≤ n ∧ n ≤ 100) (hx : 0 ≤ x ∧ x ≤ 1000) (hy : 0 ≤ y ∧ y ≤ 1000) : Qd Tryz.prog Zj [N n, N x, N y] (· = N (pairI n x y)) := by
 refine Qd.of_codeOf Zjq Qz (by simp) ⟨_, rfl, by simp⟩ ?_
 have h0 : 0 ≤ x * n := Int.mul_nonneg (by omega) (by omega)
 have h1 : x * n ≤ 1000 * 100 := Int.le_trans (Int.mul_le_mul_of_nonneg_right (by omega) (by omega)) (Int.mul_le_mul_of_nonneg_left (by omega) (by omega))
 simp (disch := omega) [Zd6, Qf]
 repeat' (first
  | (with_reducible (first | refine Qo (fun hb_ => ?_) (fun hb_ => ?_) | refine Qn (fun hb_ => ?_) (fun hb_ => ?_)) <;> simp (disch := omega) [hb_, Qf])
  | simp (disch := omega) [Qf])
 all_goals simp only [Qi, Qg, Ql, Qk, Qe, Qc, Bool.not_true, Bool.not_false] at *
 all_goals unfold pairI
 all_goals (try simp_all)
 all_goals (repeat' split)
 all_goals (first | rfl | omega)
def tabG (size : Nat) (p t : Nat → Nat → Int) (b : Nat → Nat → Bool) : GSys :=
 ⟨size, (WS p size size 0).isEmpty, WS p size size 0, (WS t size size 0).isEmpty, WS t size size 0, (WS b size size 0).isEmpty, WS b size size 0⟩
theorem ZqM (size : Nat) (p t : Nat → Nat → Int) (b : Nat → Nat → Bool) : share (Zai size p t b) = (tabG size p t b).lv := by simp [Zai, tabG]
theorem Zmt (a b : GSys) (ha : a.wf) (hb : b.wf) (sa : a.sys = true) (sb : b.sys = true) (h16 : a.size * b.size ≤ 16) : Qd Tryz.prog J7 [a.lv, b.lv] (· = B true) := by
 refine Qd.of_codeOf ZfO Qz (by simp) ⟨_, rfl, by simp⟩ ?_
 have s1 := Jj a ha
 have s2 := Jj b hb
 rw [sa] at s1
 rw [sb] at s2
 have ta := GSys.sys_of sa
 have tb := GSys.sys_of sb
 have p0 : 0 ≤ a.size * b.size := Int.mul_nonneg (by have := ta.lo; omega) (by have := tb.lo; omega)
 simp (disch := omega) [ZaU, Qv, Qt]
 repeat' (first
  | with_reducible refine Qa (s1) (by simp) ?_
  | with_reducible refine Qa (s2) (by simp) ?_
  | (with_reducible (first | refine Qo (fun hb_ => ?_) (fun hb_ => ?_) | refine Qn (fun hb_ => ?_) (fun hb_ => ?_)) <;> simp (disch := omega) [hb_, Qf, Qt])
  | simp (disch := omega) [Qf, Qt])
 all_goals simp_all [Ql]
def pPl (a b : GSys) (n : Nat) (g h : Nat) : Int := pairI n (a.pl (Zt n g) (Zt n h)) (b.pl (Yv n g) (Yv n h))
def pTm (a b : GSys) (n : Nat) (g h : Nat) : Int := pairI n (a.tm (Zt n g) (Zt n h)) (b.tm (Yv n g) (Yv n h))
def pBl (a b : GSys) (n : Nat) (g h : Nat) : Bool := a.le (Zt n g) (Zt n h) && b.le (Yv n g) (Yv n h)
theorem Zgd (a b : GSys) (ha : a.wf) (hb : b.wf) (sa : a.sys = true) (sb : b.sys = true) (m n : Nat) (em : a.size = m) (en : b.size = n) (h16 : m * n ≤ 16)
    (hG : ∀ g : Nat, g < m * n → (a.G (Zt n g) ∧ b.G (Yv n g))) : Qd Tryz.prog Yl [a.lv, b.lv] (· = .tup [Zai (m * n) (pPl a b n) (pTm a b n) (pBl a b n), B true]) := by
  refine Qd.of_codeOf ZcS Qz (by simp) ⟨_, rfl, by simp⟩ ?_
  have ta := GSys.sys_of sa
  have tb := GSys.sys_of sb
  have hz : a.size * b.size = ((m * n : Nat) : Int) := by rw [em, en]; simp
  have hp := Zmt a b ha hb sa sb (by rw [hz]; omega)
  have hn : 2 ≤ n ∧ n ≤ 16 := by have := tb.lo; have := tb.hi; omega
  have hz' : (m : Int) * n = ((m * n : Nat) : Int) := by simp
  obtain ⟨sz, hsz⟩ : ∃ sz, m * n = sz := ⟨_, rfl⟩
  rw [hsz] at hG hz hz' h16 ⊢
  simp (disch := omega) [KD, Qv, Qt]
  repeat' (first
    | with_reducible refine Qa (hp) (by simp) ?_
    | (with_reducible (first | refine Qo (fun hb_ => ?_) (fun hb_ => ?_) | refine Qn (fun hb_ => ?_) (fun hb_ => ?_)) <;> simp (disch := omega) [hb_, Qf, Qt, Qv])
    | simp (disch := omega) [Qf, Qt, Qv])
  simp (disch := omega) [em, en, hz', Qf]
  refine Wf sz 0 (fun a' t h => t 8 = N a' ∧ h = [none, none, some [N 0, .sl true true 1 [], .sl true true 1 [], .sl true true 1 []], some [N sz, OI (WS (pPl a b n) sz a' 0), OI (WS (pTm a b n) sz a' 0), OBl (WS (pBl a b n) sz a' 0)]])
    (fun t h => h = [none, none, some [N 0, .sl true true 1 [], .sl true true 1 [], .sl true true 1 []], some [N sz, OI (WS (pPl a b n) sz sz 0), OI (WS (pTm a b n) sz sz 0), OBl (WS (pBl a b n) sz sz 0)]]) (by simp [Zgj]) (by omega) ?_ ?_
  · rintro g t1 hh hf hg ⟨e8, rfl⟩
    (have e2 := hf 2 (by kernel_rfl); have e3 := hf 3 (by kernel_rfl); have e4 := hf 4 (by kernel_rfl); have e5 := hf 5 (by kernel_rfl); have e6 := hf 6 (by kernel_rfl); have e7 := hf 7 (by kernel_rfl); clear hf; simp [em, en] at e2 e3 e4 e5 e6 e7)
    simp (disch := omega) [e2, e3, e4, e5, e6, e7, e8]
    (with_reducible first | refine Qo (fun h2 => ?_) (fun h2 => ?_) | refine Qn (fun h2 => ?_) (fun h2 => ?_))
    · simp only [Qi, Qg, Ql, Qk, Qe, Qc, Bool.not_true, Bool.not_false] at h2
      simp (disch := omega) [e2, e3, e4, e5, e6, e7, e8]
      refine Wf sz 0 (fun k t h => t 9 = N k ∧ h = [none, none, some [N 0, .sl true true 1 [], .sl true true 1 [], .sl true true 1 []], some [N sz, OI (WS (pPl a b n) sz g k), OI (WS (pTm a b n) sz g k), OBl (WS (pBl a b n) sz g k)]])
        (fun t h => h = [none, none, some [N 0, .sl true true 1 [], .sl true true 1 [], .sl true true 1 []], some [N sz, OI (WS (pPl a b n) sz g sz), OI (WS (pTm a b n) sz g sz), OBl (WS (pBl a b n) sz g sz)]]) (by simp) (by omega) ?_ ?_
      · rintro k t2 hh hf hk ⟨f9, rfl⟩
        (have f2 := hf 2 (by kernel_rfl); have f3 := hf 3 (by kernel_rfl); have f4 := hf 4 (by kernel_rfl); have f5 := hf 5 (by kernel_rfl); have f6 := hf 6 (by kernel_rfl); have f7 := hf 7 (by kernel_rfl); have f8 := hf 8 (by kernel_rfl); clear hf; simp [e2, e3, e4, e5, e6, e7, e8] at f2 f3 f4 f5 f6 f7 f8)
        simp (disch := omega) [f2, f3, f4, f5, f6, f7, f8, f9]
        (with_reducible first | refine Qo (fun h3 => ?_) (fun h3 => ?_) | refine Qn (fun h3 => ?_) (fun h3 => ?_))
        · simp only [Qi, Qg, Ql, Qk, Qe, Qc, Bool.not_true, Bool.not_false] at h3
          obtain ⟨x1, y1⟩ := hG g (by omega)
          obtain ⟨x2, y2⟩ := hG k (by omega)
          have hsm := ZfN (size := sz) (by omega) (a := g) (b := k) (by omega) (by omega)
          have a1 := ZkN (x := pPl a b n g k) (l := WS (pPl a b n) sz g k) (by rw [Jb]; exact hsm)
          have a2 := ZkN (x := pTm a b n g k) (l := WS (pTm a b n) sz g k) (by rw [Jb]; exact hsm)
          have a3 := fun x => app_B (x := x) (l := WS (pBl a b n) sz g k) (by rw [Jb]; exact hsm)
          rw [← Vo] at a1 a2
          have c1 := Zh7 n g (by omega) (by omega)
          have c2 := ZgC n g (by omega) (by omega)
          have c3 := Zh7 n k (by omega) (by omega)
          have c4 := ZgC n k (by omega) (by omega)
          have rng : ∀ {s : GSys}, s.Tab → ∀ z, s.G z → 0 ≤ z ∧ z ≤ 1000 := fun ts z hz => ⟨hz.1, by have := hz.2; have := ts.hi; omega⟩
          have d1 := ZaT ta x1 x2
          have d2 := ZaT tb y1 y2
          have d3 := ZaJ ta x1 x2
          have d4 := ZaJ tb y1 y2
          have d5 := XZ ta x1 x2
          have d6 := XZ tb y1 y2
          have p1 : Qd Tryz.prog Zj [N n, N (a.pl (Zt n g) (Zt n k)), N (b.pl (Yv n g) (Yv n k))] (· = N (pPl a b n g k)) := ZkI n _ _ (by omega) (rng ta _ (GSys.Gpl ta _ _)) (rng tb _ (GSys.Gpl tb _ _))
          have p2 : Qd Tryz.prog Zj [N n, N (a.tm (Zt n g) (Zt n k)), N (b.tm (Yv n g) (Yv n k))] (· = N (pTm a b n g k)) := ZkI n _ _ (by omega) (rng ta _ (GSys.Gtm ta _ _)) (rng tb _ (GSys.Gtm tb _ _))
          have hB : (a.le (Zt n g) (Zt n k) && b.le (Yv n g) (Yv n k)) = pBl a b n g k := rfl
          clear e2 e3 e4 e5 e6 e7 e8
          repeat' (first
    | with_reducible refine Qa (c1) (by simp) ?_
    | with_reducible refine Qa (c2) (by simp) ?_
    | with_reducible refine Qa (c3) (by simp) ?_
    | with_reducible refine Qa (c4) (by simp) ?_
    | with_reducible refine Qa (d1) (by simp) ?_
    | with_reducible refine Qa (d2) (by simp) ?_
    | with_reducible refine Qa (d3) (by simp) ?_
    | with_reducible refine Qa (d4) (by simp) ?_
    | with_reducible refine Qa (d5) (by simp) ?_
    | with_reducible refine Qa (d6) (by simp) ?_
    | with_reducible refine Qa (p1) (by simp) ?_
    | with_reducible refine Qa (p2) (by simp) ?_
    | (with_reducible (first | refine Qo (fun hb_ => ?_) (fun hb_ => ?_) | refine Qn (fun hb_ => ?_) (fun hb_ => ?_)) <;> simp (disch := omega) [hb_, f2, f3, f4, f5, f6, f7, f8, f9, Qf, a1, a2, a3])
    | simp (disch := omega) [f2, f3, f4, f5, f6, f7, f8, f9, Qf, a1, a2, a3])
          all_goals clear f2 f3 f4 f5 f6 f7 f8 f9 a1 a2 a3 c1 c2 c3 c4 d1 d2 d3 d4 d5 d6 p1 p2
          all_goals refine ⟨by omega, ?_⟩
          all_goals rw [Vo]
          all_goals simp_all [pBl]
        · simp only [Qi, Qg, Ql, Qk, Qe, Qc, Bool.not_true, Bool.not_false] at h3
          simp (disch := omega)
          rw [show k = sz by omega]; simp
      · rintro t2 hh hf rfl
        (have f8 := hf 8 (by kernel_rfl); clear hf; simp [e8] at f8)
        simp (disch := omega) [f8, Zfa]
        exact ⟨by omega, Qf (by omega)⟩
    · simp only [Qi, Qg, Ql, Qk, Qe, Qc, Bool.not_true, Bool.not_false] at h2
      simp (disch := omega)
      rw [show g = sz by omega]; simp
  · rintro t1 hh hf rfl
    (have e4 := hf 4 (by kernel_rfl); have e5 := hf 5 (by kernel_rfl); have e7 := hf 7 (by kernel_rfl); clear hf; simp [] at e4 e5 e7)
    simp (disch := omega) [e4, e5, e7]
end Go.Proofs.YtclfngbealdbgaaGreat
namespace Go.Proofs.YtclfngbealdbgaaGreat
open Go Go.TL
set_option linter.unusedSimpArgs false
set_option linter.unusedVariables false
set_option linter.unusedSectionVars false
set_option maxRecDepth 100000
set_option maxHeartbeats 4000000
inductive DS where
 | count (n : Nat) | bound (n : Nat) | level (n : Nat) | prod (n : Nat)
def DS.ok : DS → Bool
 | .count n => decide (1 ≤ n) && decide (n ≤ 3)
 | .bound n => decide (1 ≤ n) && decide (n ≤ 3)
 | .level n => decide (1 ≤ n) && decide (n ≤ 3)
 | .prod n => decide (1 ≤ n) && decide (n ≤ 2)
def KF (n : Nat) (bound : Bool) : GSys := tabG (n + 2) (nPl n) (nTm n) (nBl n bound)
def Zc6 (n : Nat) : GSys := tabG (n + 1) (lPl n) (lTm n) (lBl n)
def ZkP (n : Nat) : GSys := tabG (3 * (n + 1)) (pPl (KF 1 false) (Zc6 n) (n + 1)) (pTm (KF 1 false) (Zc6 n) (n + 1)) (pBl (KF 1 false) (Zc6 n) (n + 1))
def DS.sys : DS → GSys
 | .count n => KF n false
 | .bound n => KF n true
 | .level n => Zc6 n
 | .prod n => ZkP n
def DS.lv : DS → LV
 | .count n => Zai (n + 2) (nPl n) (nTm n) (nBl n false)
 | .bound n => Zai (n + 2) (nPl n) (nTm n) (nBl n true)
 | .level n => Zai (n + 1) (lPl n) (lTm n) (lBl n)
 | .prod n => Zai (3 * (n + 1)) (pPl (KF 1 false) (Zc6 n) (n + 1)) (pTm (KF 1 false) (Zc6 n) (n + 1)) (pBl (KF 1 false) (Zc6 n) (n + 1))
theorem DS.share (d : DS) : share d.lv = d.sys.lv := by
 cases d <;> simp only [DS.lv, DS.sys, KF, Zc6, ZkP, ZqM]
theorem ZlX : (KF 1 false).sys = true ∧ (KF 2 false).sys = true ∧ (KF 3 false).sys = true := by decide +kernel
theorem ZlQ : (KF 1 true).sys = true ∧ (KF 2 true).sys = true ∧ (KF 3 true).sys = true := by decide +kernel
theorem Zmo : (Zc6 1).sys = true ∧ (Zc6 2).sys = true ∧ (Zc6 3).sys = true := by decide +kernel
theorem Zni : (ZkP 1).sys = true ∧ (ZkP 2).sys = true := by decide +kernel
def GSys.wfB (s : GSys) : Bool := decide (s.size ≤ 100) && decide (0 ≤ s.size) && decide (s.plus.length ≤ 10000) && decide (s.times.length ≤ 10000) && decide (s.below.length ≤ 10000) && s.plus.all (fun n => decide (0 ≤ n) && decide (n ≤ 100)) && s.times.all (fun n => decide (0 ≤ n) && decide (n ≤ 100))
theorem GSys.wf_B {s : GSys} (h : s.wfB = true) : s.wf := by
 simp only [GSys.wfB, Bool.and_eq_true, decide_eq_true_eq, List.all_eq_true] at h
 obtain ⟨⟨⟨⟨⟨⟨h1, h2⟩, h3⟩, h4⟩, h5⟩, h6⟩, h7⟩ := h
 exact ⟨by unfold I64; omega, by omega, by omega, by omega, fun n hn => by have := h6 n hn; unfold I64; omega, fun n hn => by have := h7 n hn; unfold I64; omega⟩
theorem Zgt : (KF 1 false).wfB = true ∧ (KF 2 false).wfB = true ∧ (KF 3 false).wfB = true ∧ (KF 1 true).wfB = true ∧ (KF 2 true).wfB = true ∧ (KF 3 true).wfB = true := by decide +kernel
theorem ZhA : (Zc6 1).wfB = true ∧ (Zc6 2).wfB = true ∧ (Zc6 3).wfB = true ∧ (ZkP 1).wfB = true ∧ (ZkP 2).wfB = true := by decide +kernel
theorem DS.sound (d : DS) (h : d.ok = true) : d.sys.sys = true ∧ d.sys.wf := by
 have key : ∀ n, 1 ≤ n → n ≤ 3 → n = 1 ∨ n = 2 ∨ n = 3 := fun n _ _ => by omega
 cases d with
 | count n =>
  simp only [DS.ok, Bool.and_eq_true, decide_eq_true_eq] at h
  rcases key n h.1 h.2 with rfl | rfl | rfl
  ·exact ⟨ZlX.1, GSys.wf_B Zgt.1⟩
  ·exact ⟨ZlX.2.1, GSys.wf_B Zgt.2.1⟩
  ·exact ⟨ZlX.2.2, GSys.wf_B Zgt.2.2.1⟩
 | bound n =>
  simp only [DS.ok, Bool.and_eq_true, decide_eq_true_eq] at h
  rcases key n h.1 h.2 with rfl | rfl | rfl
  ·exact ⟨ZlQ.1, GSys.wf_B Zgt.2.2.2.1⟩
  ·exact ⟨ZlQ.2.1, GSys.wf_B Zgt.2.2.2.2.1⟩
  ·exact ⟨ZlQ.2.2, GSys.wf_B Zgt.2.2.2.2.2⟩
 | level n =>
  simp only [DS.ok, Bool.and_eq_true, decide_eq_true_eq] at h
  rcases key n h.1 h.2 with rfl | rfl | rfl
  ·exact ⟨Zmo.1, GSys.wf_B ZhA.1⟩
  ·exact ⟨Zmo.2.1, GSys.wf_B ZhA.2.1⟩
  ·exact ⟨Zmo.2.2, GSys.wf_B ZhA.2.2.1⟩
 | prod n =>
  simp only [DS.ok, Bool.and_eq_true, decide_eq_true_eq] at h
  rcases (show n = 1 ∨ n = 2 by omega) with rfl | rfl
  ·exact ⟨Zni.1, GSys.wf_B ZhA.2.2.2.1⟩
  ·exact ⟨Zni.2, GSys.wf_B ZhA.2.2.2.2⟩
theorem ZhG (n : Nat) (h1 : 1 ≤ n) (hn : n ≤ 14) : Qd Tryz.prog Y8 [N n] (· = Zai (n + 2) (nPl n) (nTm n) (nBl n true)) := by
 refine Qd.of_codeOf ZeF Qz (by simp) ⟨_, rfl, by simp⟩ ?_
 have h := Zfg n h1 hn true
 simp (disch := omega) [VX]
 repeat' (first
  | with_reducible refine Qa (h) (by simp) ?_
  | (with_reducible (first | refine Qo (fun hb_ => ?_) (fun hb_ => ?_) | refine Qn (fun hb_ => ?_) (fun hb_ => ?_)) <;> simp (disch := omega) [hb_])
  | simp (disch := omega))
 all_goals simp
theorem VW (n : Nat) (h1 : 1 ≤ n) (hn : n ≤ 14) : Qd Tryz.prog XB [N n] (· = Zai (n + 2) (nPl n) (nTm n) (nBl n false)) := by
 refine Qd.of_codeOf ZeL Qz (by simp) ⟨_, rfl, by simp⟩ ?_
 have h := Zfg n h1 hn false
 simp (disch := omega) [VO]
 repeat' (first
  | with_reducible refine Qa (h) (by simp) ?_
  | (with_reducible (first | refine Qo (fun hb_ => ?_) (fun hb_ => ?_) | refine Qn (fun hb_ => ?_) (fun hb_ => ?_)) <;> simp (disch := omega) [hb_])
  | simp (disch := omega))
 all_goals simp
def ZlU (n : Nat) : Bool := (List.range (3 * (n + 1))).all fun g => decide (0 ≤ Zt (n + 1) g) && decide (Zt (n + 1) g < 3) && decide (0 ≤ Yv (n + 1) g) && decide (Yv (n + 1) g < n + 1)
theorem ZkU : ZlU 1 = true ∧ ZlU 2 = true := by decide +kernel
theorem ZoE (n : Nat) (h1 : 1 ≤ n) (hn : n ≤ 2) : Qd Tryz.prog Yl [(KF 1 false).lv, (Zc6 n).lv] (· = .tup [(DS.prod n).lv, B true]) := by
 have hp : ZlU n = true := by
  rcases (show n = 1 ∨ n = 2 by omega) with rfl | rfl
  ·exact ZkU.1
  ·exact ZkU.2
 have q1 := DS.sound (.count 1) rfl
 have q2 := DS.sound (.level n) (by simp [DS.ok]; omega)
 refine Zgd (KF 1 false) (Zc6 n) q1.2 q2.2 q1.1 q2.1 3 (n + 1) rfl rfl (by omega) fun g hg => ?_
 simp only [ZlU, List.all_eq_true, List.mem_range, Bool.and_eq_true, decide_eq_true_eq] at hp
 have := hp g hg
 refine ⟨⟨this.1.1.1, this.1.1.2⟩, this.1.2, ?_⟩
 show _ < ((n + 1 : Nat) : Int)
 simpa using this.2
section
variable (D : Dr) (ok : D.ok)
include ok
theorem Zpj : WJ Tryz.prog D VF [] (fun r => ∃ d : DS, d.ok = true ∧ r = d.lv) := by
 refine WJ.of_codeOf Zjb Qz (by simp) ⟨_, .count 1, rfl, rfl⟩ ?_
 intro h1 h3 ct i k hct hk
 simp (disch := omega) [Zci]
 refine Qq (W9 D ok 3 (by unfold I64; omega)) hct hk ?_
 rintro r i1 k1 hk1 ⟨m, rfl, hm0, hm1, _⟩
 have hm := hm1 (by omega)
 obtain ⟨n, rfl⟩ : ∃ n : Nat, m = n := ⟨m.toNat, by omega⟩
 have e1 : (1 : Int) + n = ((n + 1 : Nat) : Int) := by simp; omega
 have w1 : Qd Tryz.prog Y8 [N (1 + n)] (· = (DS.bound (n + 1)).lv) := by rw [e1]; exact ZhG (n + 1) (by omega) (by omega)
 have w2 : Qd Tryz.prog XB [N (1 + n)] (· = (DS.count (n + 1)).lv) := by rw [e1]; exact VW (n + 1) (by omega) (by omega)
 have w3 : Qd Tryz.prog XA [N (1 + n)] (· = (DS.level (n + 1)).lv) := by rw [e1]; exact ZcE (n + 1) (by omega) (by omega)
 have w4 : Qd Tryz.prog XB [N 1] (· = (DS.count 1).lv) := VW 1 (by omega) (by omega)
 have cells : ∀ d : DS, ∃ a b c e, d.lv = .agg [a, b, c, e] ∧ a.alive = true ∧ b.alive = true ∧ c.alive = true ∧ e.alive = true ∧ Low 0 d.lv := fun d => by
  cases d <;> exact ⟨_, _, _, _, rfl, rfl, rfl, rfl, rfl, by simp [DS.lv]⟩
 simp (disch := omega) [Qf]
 obtain ⟨a1, a2, a3, a4, ea, al1, al2, al3, al4, la⟩ := cells (.bound (n + 1))
 rw [ea] at w1
 refine Qa w1 (by rw [← ea] at *; simp) ?_
 simp (disch := omega) [Qf]
 refine Qq (W9 D ok 8 (by unfold I64; omega)) hct hk1 ?_
 rintro r i2 k2 hk2 ⟨m, rfl, _⟩
 simp (disch := omega) [Qf]
 obtain ⟨b1, b2, b3, b4, eb, bl1, bl2, bl3, bl4, lb⟩ := cells (.count (n + 1))
 obtain ⟨c1, c2, c3, c4, ec, cl1, cl2, cl3, cl4, lc⟩ := cells (.level (n + 1))
 have okn : ∀ d : DS, (d = .bound (n + 1) ∨ d = .count (n + 1) ∨ d = .level (n + 1)) → d.ok = true := by
  rintro d (rfl | rfl | rfl) <;> (simp [DS.ok]; omega)
 rw [eb] at w2
 rw [ec] at w3
 have fin : ∀ (x1 x2 x3 x4 : LV) (d : DS), d.ok = true → d.lv = .agg [x1, x2, x3, x4] → ∀ (e : Exit) (s : St) (i' k' : Int) (z : List LV), z.length = 4 → e = .ret → s.t 2 = .ptr (h1.length + (h3.length + 1)) 0 → Yd D i' k' →
   s.h = h1 ++ some [ct, N i', N k'] :: (h3 ++ [some [x1, x2, x3, x4], some z]) → ZgV D [.cell 2 true 4] h1 h3 ct (fun r => ∃ d : DS, d.ok = true ∧ r = d.lv) e s := by
  intro x1 x2 x3 x4 d hd hl e s i' k' z hz he ht hk hh
  obtain ⟨y1, y2, y3, y4, ey, _, _, _, _, ly⟩ := cells d
  exact ZhR (j := 0) (.inr he) ht hh (by omega) rfl rfl rfl hk (by rw [← hl]; exact ly) ⟨d, hd, hl.symm⟩
 repeat' (first
  | with_reducible refine Qa (w2) (by simp) ?_
  | with_reducible refine Qa (w3) (by simp) ?_
  | with_reducible refine Qa (w4) (by simp) ?_
  | (with_reducible (first | refine Qo (fun hb_ => ?_) (fun hb_ => ?_) | refine Qn (fun hb_ => ?_) (fun hb_ => ?_)) <;> simp (disch := omega) [hb_, Qf, al1, al2, al3, al4, bl1, bl2, bl3, bl4, cl1, cl2, cl3, cl4])
  | simp (disch := omega) [Qf, al1, al2, al3, al4, bl1, bl2, bl3, bl4, cl1, cl2, cl3, cl4])
 any_goals (first
  | exact fin _ _ _ _ _ (okn _ (.inr (.inl rfl))) eb _ _ _ _ _ rfl rfl rfl hk2 rfl
  | exact fin _ _ _ _ _ (okn _ (.inr (.inr rfl))) ec _ _ _ _ _ rfl rfl rfl hk2 rfl
  | exact fin _ _ _ _ _ (okn _ (.inl rfl)) ea _ _ _ _ _ rfl rfl rfl hk2 rfl)
 refine Qq (W9 D ok 2 (by unfold I64; omega)) hct hk2 ?_
 rintro r i3 k3 hk3 ⟨m3, rfl, hn0, hn1, _⟩
 have hm3 := hn1 (by omega)
 obtain ⟨n3, rfl⟩ : ∃ n : Nat, m3 = n := ⟨m3.toNat, by omega⟩
 have v3 : Qd Tryz.prog XA [N (1 + n3)] (· = (DS.level (n3 + 1)).lv) := by rw [show (1 : Int) + n3 = ((n3 + 1 : Nat) : Int) by simp; omega]; exact ZcE (n3 + 1) (by omega) (by omega)
 obtain ⟨d1, d2, d3, d4, ed, dl1, dl2, dl3, dl4, ld⟩ := cells (.level (n3 + 1))
 obtain ⟨f1, f2, f3, f4, ef, fl1, fl2, fl3, fl4, lf⟩ := cells (.count 1)
 obtain ⟨g1, g2, g3, g4, eg, gl1, gl2, gl3, gl4, lg⟩ := cells (.prod (n3 + 1))
 have v4 := ZoE (n3 + 1) (by omega) (by omega)
 have sd := DS.share (.level (n3 + 1))
 have sf := DS.share (.count 1)
 rw [ed, show (DS.level (n3 + 1)).sys = Zc6 (n3 + 1) from rfl] at sd
 rw [ef, show (DS.count 1).sys = KF 1 false from rfl] at sf
 rw [← sf, ← sd, eg] at v4
 rw [ed] at v3
 have la : ∀ (d : DS) {x1 x2 x3 x4 : LV}, d.lv = .agg [x1, x2, x3, x4] → Low 0 (share (.agg [x1, x2, x3, x4])) := fun d x1 x2 x3 x4 he => by rw [← he, DS.share]; simp
 have lsd := la _ ed
 have lsf := la _ ef
 simp only [ZqR, ZjC, ZlP, ZpS, Zag, Za5] at v4 lsd lsf
 simp (disch := omega) [Qf]
 refine Qa v3 (by simp) ?_
 simp (disch := omega) [Qf]
 rw [show share (DS.count 1).lv = .agg [share f1, share f2, share f3, share f4] by rw [ef]; simp]
 refine Qa v4 (by simp only [Zag, ZpS, Za5]; exact ⟨lsf, lsd, trivial⟩) ?_
 simp (disch := omega) [Qf, gl1, gl2, gl3, gl4]
 exact fin _ _ _ _ (.prod (n3 + 1)) (by simp [DS.ok]; omega) eg _ _ _ _ _ rfl rfl rfl hk3 rfl
end
end Go.Proofs.YtclfngbealdbgaaGreat
namespace Go.Proofs.YtclfngbealdbgaaGreat
open Go Go.TL
open Go.Proofs.YtclfngbealdbgaaGreat.Ty
set_option linter.unusedSimpArgs false
set_option linter.unusedVariables false
set_option linter.unusedSectionVars false
set_option maxRecDepth 20000
set_option maxHeartbeats 4000000
theorem Zjf {l r : List Int} {u nl : Bool} (h : l.length + r.length ≤ 1099511627776) : WN 1 (OU true false l) (OU u nl r) = some (OU true false (l ++ r)) := by
 simp only [WN]
 rw [if_pos ⟨.inl trivial, .inl trivial, .inl trivial, by simp only [List.length_map]; exact h⟩]
 simp only [Bool.true_or, Bool.false_and]
 rw [OU, List.map_append]
def Vi (c : Int) (ctx : Wx) (k : Nat) : List Int := c :: ((ctx.take k).map (·.2)).flatten
theorem ZoJ (c : Int) (ctx : Wx) (k : Nat) (h : k < ctx.length) : Vi c ctx (k + 1) = Vi c ctx k ++ ctx[k].2 := by
 rw [Vi, Vi, List.take_succ_eq_append_getElem h, List.map_append, List.flatten_append, List.cons_append]
 simp only [List.map_cons, List.map_nil, List.flatten_cons, List.flatten_nil, List.append_nil]
theorem ZqC (c : Int) (ctx : Wx) (k : Nat) (h : k ≤ ctx.length) : (Vi c ctx k).length ≤ 1 + cws ctx := by
 have key : ∀ (ctx : Wx), ((ctx.map (·.2)).flatten).length = cws ctx := by
  intro ctx
  induction ctx with
  | nil => simp [cws]
  | cons a l ih => simp [cws, ih]
 have h2 : ∀ (ctx : Wx) (k : Nat), cws (ctx.take k) ≤ cws ctx := by
  intro ctx
  induction ctx with
  | nil => intro k; simp
  | cons a l ih => intro k; cases k with
   | zero => simp [cws]
   | succ k => simp [cws]; exact ih k
 simp only [Vi, List.length_cons, key]
 have := h2 ctx k
 omega
theorem ZkQ (c : Int) (nl : Bool) (ctx : Wx) (hw : ctx.length ≤ 1000000) (hl : cws ctx ≤ 1000000000) : Qd Tryz.prog Wi [N c, LC nl ctx] (· = OU true false (c :: (ctx.map (·.2)).flatten)) := by
 obtain ⟨z, hz⟩ : ∃ z, c :: (ctx.map (·.2)).flatten = z := ⟨_, rfl⟩
 rw [hz]
 refine Qd.of_codeOf ZjY Qz (by simp) ⟨_, rfl, by simp⟩ ?_
 simp (disch := omega) [Zd7]
 refine Wf ctx.length 0 (fun i t _ => t 6 = N i ∧ t 5 = OU true false (Vi c ctx i)) (fun t _ => t 5 = OU true false z) (by simp [Vi]) (by omega) ?_ ?_
 ·rintro i t1 hh hf hi ⟨e6, e5⟩
  (have e1 := hf 1 (by kernel_rfl); clear hf; simp [] at e1)
  simp (disch := omega) [e1, e5, e6]
  (with_reducible first | refine Qo (fun h1 => ?_) (fun h1 => ?_) | refine Qn (fun h1 => ?_) (fun h1 => ?_))
  ·simp only [Qi, Qg, Ql, Qk, Qe, Qc, Bool.not_true, Bool.not_false] at h1
   simp (disch := omega) [e1, e5, e6, ZbN]
   have hm := Zp6 (List.getElem_mem (show i < ctx.length by omega))
   have hg := ZqC c ctx i (by omega)
   rw [Zjf (by omega), ← ZoJ c ctx i (by omega)]
   simp (disch := omega) [e1, e5, e6, Qf]
   omega
  ·simp only [Qi, Qg, Ql, Qk, Qe, Qc, Bool.not_true, Bool.not_false] at h1
   simp (disch := omega) [e5]
   rw [show i = ctx.length by omega, ← hz]; simp [Vi]
 ·rintro t1 hh hf e5
  simp (disch := omega) [e5]
theorem ZeI (c : Int) (nl n1 : Bool) (a : List Int) (hl : a.length ≤ 100000) : Qd Tryz.prog Wi [N c, .sl false nl 1 [[L n1 a]]] (· = OU true false (c :: a)) := by
 have := ZkQ c nl [(n1, a)] (by simp) (by simp [cws]; omega)
 simp only [List.map_cons, List.map_nil, List.flatten_cons, List.flatten_nil, List.append_nil] at this
 exact this
theorem Y4 (c : Int) (nl n1 n2 : Bool) (a b : List Int) (ha : a.length ≤ 100000) (hb : b.length ≤ 100000) : Qd Tryz.prog Wi [N c, .sl false nl 1 [[L n1 a], [L n2 b]]] (· = OU true false (c :: (a ++ b))) := by
 have := ZkQ c nl [(n1, a), (n2, b)] (by simp) (by simp [cws]; omega)
 simp only [List.map_cons, List.map_nil, List.flatten_cons, List.flatten_nil, List.append_nil] at this
 exact this
mutual
def RT.gr (size : Int) (data : Bool) : RT → Prop
 | .nd c ks => okC size true c = true ∧ (data = true → QM c = false) ∧ grs size data ks
def grs (size : Int) (data : Bool) : List RT → Prop
 | [] => True
 | t :: ts => RT.gr size data t ∧ grs size data ts
end
def Zic (size : Int) (data : Bool) (n : Nat) (l : List Int) : Prop := ∃ t : RT, t.ok ∧ RT.gr size data t ∧ l = t.flat ∧ l.length ≤ n
theorem Zqk {size g : Int} (h0 : 0 ≤ g) (h1 : g < size) (h2 : size ≤ 16) : Wv (3 + g) = some 2 ∧ okC size true (3 + g) = true ∧ QM (3 + g) = true := by
 have ha : QM (3 + g) = true := by simp [QM]; omega
 have hk : Wv (3 + g) = some 2 := by unfold Wv; rw [if_neg (by omega), if_pos (.inr (.inr ha))]
 have hg : W1 (3 + g) = g := by unfold W1; rw [if_neg (by omega), if_neg (by omega)]; omega
 refine ⟨hk, ?_, ha⟩
 simp [okC, hg, ltB, leB, h1, h0]
theorem okC_box {size g : Int} (h0 : 0 ≤ g) (h1 : g < size) (h2 : size ≤ 16) : Wv (19 + g) = some 1 ∧ okC size true (19 + g) = true ∧ QM (19 + g) = false := by
 have ha : QM (19 + g) = false := by simp [QM]; omega
 have hb : W4 (19 + g) = true := by simp [W4]; omega
 have hk : Wv (19 + g) = some 1 := by unfold Wv; rw [if_neg (by omega), if_neg (by rintro (h | h | h); omega; omega; rw [ha] at h; simp at h), if_pos hb]
 have hg : W1 (19 + g) = g := by unfold W1; rw [if_neg (by omega), if_pos (by omega)]; omega
 refine ⟨hk, ?_, ha⟩
 simp [okC, hg, ltB, leB, h1, h0]
theorem Zfl {size : Int} {data : Bool} {n : Nat} (hn : 1 ≤ n) : Zic size data n [0] :=
 ⟨.nd 0 [], by simp [RT.ok, Wv, oks], by simp [RT.gr, grs, okC, QM, W4], by simp [RT.flat, WF], by simpa using hn⟩
theorem tyIn_one {size c : Int} {data : Bool} {n m : Nat} {a : List Int} (ha : Zic size data n a) (hk : Wv c = some 1) (ho : okC size true c = true) (hd : data = true → QM c = false) (hm : n + 1 ≤ m) : Zic size data m (c :: a) := by
 obtain ⟨t, h1, h2, rfl, h4⟩ := ha
 exact ⟨.nd c [t], by simp [RT.ok, oks, hk, h1], by simp only [RT.gr, grs]; exact ⟨ho, hd, h2, trivial⟩, by simp [RT.flat, WF], by simp; omega⟩
theorem Zii {size c : Int} {data : Bool} {n k m : Nat} {a b : List Int} (ha : Zic size data n a) (hb : Zic size data k b) (hk : Wv c = some 2) (ho : okC size true c = true) (hd : data = true → QM c = false) (hm : n + k + 1 ≤ m) : Zic size data m (c :: (a ++ b)) := by
 obtain ⟨t, h1, h2, rfl, h4⟩ := ha
 obtain ⟨u, g1, g2, rfl, g4⟩ := hb
 exact ⟨.nd c [t, u], by simp [RT.ok, oks, hk, h1, g1], by simp only [RT.gr, grs]; exact ⟨ho, hd, h2, g2, trivial⟩, by simp [RT.flat, WF], by simp; omega⟩
theorem kids12 : Wv 1 = some 2 ∧ Wv 2 = some 2 := by decide
theorem okC12 (size : Int) : okC size true 1 = true ∧ okC size true 2 = true ∧ QM 1 = false ∧ QM 2 = false := by simp [okC, QM, W4]
section
variable (D : Dr) (ok : D.ok)
include ok
theorem Zz (s : GSys) (hs : 1 ≤ s.size ∧ s.size ≤ 16) (data : Bool) : ∀ deep : Nat, deep ≤ 12 → WJ Tryz.prog D Wy [s.lv, N deep, B data] (fun r => ∃ l, r = OU true false l ∧ Zic s.size data (2 ^ (deep + 1) - 1) l) := by
  intro deep
  induction deep with
  | zero =>
    intro _
    refine WJ.of_codeOf ZeU Qz (by simp) ⟨_, [0], rfl, Zfl (by simp)⟩ ?_
    intro h1 h3 ct i k hct hk
    simp (disch := omega) [Zbp, Qv, Qt]
    refine Qq (W9 D ok 6 (by unfold I64; omega)) hct hk ?_
    rintro r i1 k1 hk1 ⟨m, rfl, hm0, hm1, _⟩
    repeat' (first
    | (with_reducible (first | refine Qo (fun hb_ => ?_) (fun hb_ => ?_) | refine Qn (fun hb_ => ?_) (fun hb_ => ?_)) <;> simp (disch := omega) [hb_, Qf])
    | simp (disch := omega) [Qf])
    all_goals (first | refine Xw (.inr rfl) rfl ?_ (by simp) ?_ | refine Xa (.inr rfl) rfl ?_ (by simp) ?_)
    all_goals first | exact hk1 | exact ⟨[0], by simp, Zfl (by simp)⟩
  | succ deep ih =>
    intro hd
    have ih := ih (by omega)
    have hp : 1 ≤ 2 ^ (deep + 1) := Nat.one_le_two_pow
    have hp2 : 2 ^ (deep + 1 + 1) = 2 * 2 ^ (deep + 1) := by rw [Nat.pow_succ]; omega
    have hp3 : 2 ^ (deep + 1) ≤ 2 ^ 13 := Nat.pow_le_pow_right (by omega) (by omega)
    refine WJ.of_codeOf ZeU Qz (by simp) ⟨_, [0], rfl, Zfl (by omega)⟩ ?_
    intro h1 h3 ct i k hct hk
    have hsI : I64 s.size := by unfold I64; omega
    have glen : ∀ {l : List Int}, Zic s.size data (2 ^ (deep + 1) - 1) l → l.length ≤ 100000 := fun h => by obtain ⟨_, _, _, _, h⟩ := h; omega
    have num : ∃ l, OU true false [0] = OU true false l ∧ Zic s.size data (2 ^ (deep + 1 + 1) - 1) l := ⟨[0], rfl, Zfl (by omega)⟩
    simp (disch := omega) [Zbp, Qv, Qt]
    refine Qq (W9 D ok 6 (by unfold I64; omega)) hct hk ?_
    rintro r i1 k1 hk1 ⟨m, rfl, hm0, hm1, _⟩
    cases data
    all_goals
      repeat' (first
    | (with_reducible (first | refine Qo (fun hb_ => ?_) (fun hb_ => ?_) | refine Qn (fun hb_ => ?_) (fun hb_ => ?_)) <;> simp (disch := omega) [hb_, Qf])
    | simp (disch := omega) [Qf])
      · (first | refine Xw (.inr rfl) rfl ?_ (by simp) ?_ | refine Xa (.inr rfl) rfl ?_ (by simp) ?_)
        · exact hk1
        · exact num
      · (first | refine Xw (.inr rfl) rfl ?_ (by simp) ?_ | refine Xa (.inr rfl) rfl ?_ (by simp) ?_)
        · exact hk1
        · exact num
      · refine Qq ih hct hk1 ?_
        rintro r i2 k2 hk2 ⟨l, rfl, hl⟩
        have ll := glen hl
        repeat' (first
    | (with_reducible (first | refine Qo (fun hb_ => ?_) (fun hb_ => ?_) | refine Qn (fun hb_ => ?_) (fun hb_ => ?_)) <;> simp (disch := omega) [hb_, Qf])
    | simp (disch := omega) [Qf])
        ·
          refine Qq (W9 D ok s.size hsI) hct hk2 ?_
          rintro r i3 k3 hk3 ⟨g, rfl, hg0, hg1, _⟩
          have hg := hg1 (by omega)
          obtain ⟨q1, q2, q3⟩ := okC_box hg0 hg hs.2
          simp (disch := omega) [Qf]
          refine Qa (ZeI _ _ _ _ ll) (by simp) ?_
          simp (disch := omega) [Qf]
          (first | refine Xw (.inr rfl) rfl ?_ (by simp) ?_ | refine Xa (.inr rfl) rfl ?_ (by simp) ?_)
          · exact hk3
          · exact ⟨(19 + g) :: l, by simp, tyIn_one hl q1 q2 (fun _ => q3) (by omega)⟩
        all_goals first
          | (refine Qq (W9 D ok s.size hsI) hct hk2 ?_
             rintro r i3 k3 hk3 ⟨g, rfl, hg0, hg1, _⟩
             have hg := hg1 (by omega)
             obtain ⟨q1, q2, q3⟩ := Zqk hg0 hg hs.2
             simp (disch := omega) [Qf]
             refine Qq ih hct hk3 ?_
             rintro r i4 k4 hk4 ⟨l2, rfl, hl2⟩
             have ll2 := glen hl2
             simp (disch := omega) [Qf]
             refine Qa (Y4 _ _ _ _ _ _ ll ll2) (by simp) ?_
             simp (disch := omega) [Qf]
             (first | refine Xw (.inr rfl) rfl ?_ (by simp) ?_ | refine Xa (.inr rfl) rfl ?_ (by simp) ?_)
             · exact hk4
             · exact ⟨(3 + g) :: (l ++ l2), by simp, Zii hl hl2 q1 q2 (fun h => by simp at h) (by omega)⟩)
          | (refine Qq ih hct hk2 ?_
             rintro r i4 k4 hk4 ⟨l2, rfl, hl2⟩
             have ll2 := glen hl2
             simp (disch := omega) [Qf]
             refine Qa (Y4 _ _ _ _ _ _ ll ll2) (by simp) ?_
             simp (disch := omega) [Qf]
             (first | refine Xw (.inr rfl) rfl ?_ (by simp) ?_ | refine Xa (.inr rfl) rfl ?_ (by simp) ?_)
             · exact hk4
             · first
                 | (refine ⟨2 :: (l ++ l2), ?_, Zii hl hl2 kids12.2 (okC12 _).2.1 (fun _ => (okC12 s.size).2.2.2) (by omega)⟩; simp; done)
                 | (refine ⟨1 :: (l ++ l2), ?_, Zii hl hl2 kids12.1 (okC12 _).1 (fun _ => (okC12 s.size).2.2.1) (by omega)⟩; simp; done))
end
end Go.Proofs.YtclfngbealdbgaaGreat
namespace Go.Proofs.YtclfngbealdbgaaGreat
open Go Go.TL
open Go.Proofs.YtclfngbealdbgaaGreat.Ty
set_option linter.unusedSimpArgs false
set_option linter.unusedVariables false
set_option maxRecDepth 20000
set_option maxHeartbeats 4000000
theorem ZL (nl : Bool) (l : List Int) (hl : l.length ≤ 1099511627776) : Qd Tryz.prog XF [L nl l] (· = OU true false l) := by
 refine Qd.of_codeOf Zj2 Qz (by simp) ⟨_, rfl, by simp⟩ ?_
 have hm : l.length ≤ most := hl
 simp (disch := omega) [ZdU, Qm, WN, hm]
theorem ZaZ (n1 n2 : Bool) (a b : List Int) (ha : a.length ≤ 1099511627776) : Qd Tryz.prog Yx [L n1 a, L n2 b] (· = B (a == b)) := by
 generalize hq : (a == b) = q
 refine Qd.of_codeOf ZjR Qz (by simp) ⟨_, rfl, by simp⟩ ?_
 simp (disch := omega) [ZdC]
 (with_reducible first | refine Qo (fun h1 => ?_) (fun h1 => ?_) | refine Qn (fun h1 => ?_) (fun h1 => ?_))
 ·simp (disch := omega) [h1]
  simp only [Qi, Qg, Ql, Qk, Qe, Qc, Bool.not_true, Bool.not_false] at h1
  refine XH a.length 0 (fun i t _ => t 5 = N i ∧ q = (a.drop i == b.drop i)) (by simp [hq]) (by omega) ?_
  rintro i t1 hh hf hi ⟨e5, hj⟩
  (have e0 := hf 0 (by kernel_rfl); have e1 := hf 1 (by kernel_rfl); clear hf; simp [] at e0 e1)
  simp (disch := omega) [e0, e1, e5]
  (with_reducible first | refine Qo (fun h6 => ?_) (fun h6 => ?_) | refine Qn (fun h6 => ?_) (fun h6 => ?_))
  ·simp only [Qi, Qg, Ql, Qk, Qe, Qc, Bool.not_true, Bool.not_false] at h6
   have hd1 := List.drop_eq_getElem_cons (l := a) (i := i) (by omega)
   have hd2 := List.drop_eq_getElem_cons (l := b) (i := i) (by omega)
   have hq2 : q = (a[i]'(by omega) == b[i]'(by omega) && (a.drop (i + 1) == b.drop (i + 1))) := by rw [hj, hd1, hd2]; rfl
   clear hd1 hd2 hj
   simp (disch := omega) [e0, e1, e5, Xh]
   repeat' (first
  | (with_reducible (first | refine Qo (fun hb_ => ?_) (fun hb_ => ?_) | refine Qn (fun hb_ => ?_) (fun hb_ => ?_)) <;> simp (disch := omega) [hb_, e0, e1, e5, Qf])
  | simp (disch := omega) [e0, e1, e5, Qf])
   all_goals simp only [Qi, Qg, Ql, Qk, Qe, Qc, Bool.not_true, Bool.not_false] at hb_
   ·exact ⟨by omega, by simp [hq2, hb_]⟩
   ·simp [hq2, hb_]
  ·simp only [Qi, Qg, Ql, Qk, Qe, Qc, Bool.not_true, Bool.not_false] at h6
   simp (disch := omega)
   rw [hj, List.drop_of_length_le (by omega), List.drop_of_length_le (by omega)]; simp
 ·simp (disch := omega) [h1]
  simp only [Qi, Qg, Ql, Qk, Qe, Qc, Bool.not_true, Bool.not_false] at h1
  rw [← hq]; simp; intro h; exact h1 (by rw [h])
theorem Vp (n : Nat) (hn : n ≤ 1099511627776) : Qd Tryz.prog Zi [N n] (· = OU true false (zeros n)) := by
 refine Qd.of_codeOf Zjp Qz (by simp) ⟨_, rfl, by simp⟩ ?_
 have hm : (n : Int) ≤ (most : Nat) := by unfold most; omega
 simp (disch := omega) [ZdX, hm]
 have e : List.replicate n (N 0) = (zeros n).map N := by simp [zeros]
 have hz : (zeros n).length = n := by simp [zeros]
 have := Zp4 (h0 := []) (z := (zeros n).map N) (l := zeros n) rfl
 rw [hz] at this
 simp only [List.nil_append, List.length_nil] at this
 first
  | (rw [e, this]; simp)
def Zew (s : GSys) (a : List Int) (g : Int) (b : List Int) : List Int := List.zipWith (fun x y => s.pl x (s.tm g y)) a b
theorem Zc {s : GSys} (t : s.Tab) (n1 n2 : Bool) (a : List Int) (g : Int) (hg : s.G g) (b : List Int) (hl : a.length ≤ 1000000) (hab : a.length = b.length) (ha : ∀ u ∈ a, s.G u) (hb : ∀ u ∈ b, s.G u) :
  Qd Tryz.prog XX [s.lv, L n1 a, N g, L n2 b] (· = OU true false (Zew s a g b)) := by
 obtain ⟨z, hze⟩ : ∃ z, z = Zew s a g b := ⟨_, rfl⟩
 have hz : z.length = a.length := by rw [hze]; simp [Zew, hab]
 have hget : ∀ (i : Nat) (h : i < a.length), z[i]'(by omega) = s.pl a[i] (s.tm g (b[i]'(by omega))) := by intro i h; simp [hze, Zew]
 rw [← hze]; clear hze
 refine Qd.of_codeOf Zlg Qz (by simp) ⟨_, rfl, by simp⟩ ?_
 simp (disch := omega) [Zfr, Qv, Qt, Qm]
 refine XH a.length 0 (fun i t h => t 10 = N i ∧ t 9 = OU true false (z.take i) ∧ h = [none]) (by simp) (by omega) ?_
 rintro i t1 hh hf hi ⟨e10, e9, rfl⟩
 (have e1 := hf 1 (by kernel_rfl); have e2 := hf 2 (by kernel_rfl); have e3 := hf 3 (by kernel_rfl); have e4 := hf 4 (by kernel_rfl); clear hf; simp [] at e1 e2 e3 e4)
 simp (disch := omega) [e1, e2, e3, e4, e9, e10]
 (with_reducible first | refine Qo (fun h6 => ?_) (fun h6 => ?_) | refine Qn (fun h6 => ?_) (fun h6 => ?_))
 ·simp only [Qi, Qg, Ql, Qk, Qe, Qc, Bool.not_true, Bool.not_false] at h6
  simp (disch := omega) [e1, e2, e3, e4, e9, e10, Xh]
  refine Qa (ZaJ t hg (hb _ (List.getElem_mem (show i < b.length by omega)))) (by simp) ?_
  simp (disch := omega) [e1, e2, e3, e4, e9, e10, Xh]
  refine Qa (ZaT t (ha _ (List.getElem_mem (show i < a.length by omega))) (GSys.Gtm t _ _)) (by simp) ?_
  have hst : z.take (i + 1) = z.take i ++ [s.pl a[i] (s.tm g (b[i]'(by omega)))] := by rw [List.take_succ_eq_append_getElem (by omega), hget i (by omega)]
  rw [hst]
  have hlt : (z.take i).length ≤ a.length := by simp; omega
  generalize z.take i = y at *
  have hap : WN 1 (OU true false y) (.sl true false 1 [[N (s.pl a[i] (s.tm g (b[i]'(by omega))))]]) = some (OU true false (y ++ [s.pl a[i] (s.tm g (b[i]'(by omega)))])) := Zjf (l := y) (r := [_]) (u := true) (nl := false) (by simp; omega)
  simp (disch := omega) [e1, e2, e3, e4, e9, e10, Xh, Qf, Qm]
  rw [hap]
  simp (disch := omega) [e10, Qf]
  omega
 ·simp only [Qi, Qg, Ql, Qk, Qe, Qc, Bool.not_true, Bool.not_false] at h6
  simp (disch := omega) [e9]
  rw [List.take_of_length_le (by simp; omega)]
  simp
theorem ZkW {s : GSys} (t : s.Tab) (n1 n2 : Bool) (a b : List Int) (hl : a.length ≤ 1000000) (hab : a.length = b.length) (ha : ∀ u ∈ a, s.G u) (hb : ∀ u ∈ b, s.G u) :
  Qd Tryz.prog Ko [s.lv, L n1 a, L n2 b] (· = OU true false (XO s a b)) := by
 obtain ⟨z, hze⟩ : ∃ z, z = XO s a b := ⟨_, rfl⟩
 have hz : z.length = a.length := by rw [hze]; simp [XO, hab]
 have hget : ∀ (i : Nat) (h : i < a.length), z[i]'(by omega) = s.join a[i] (b[i]'(by omega)) := by intro i h; simp [hze, XO]
 rw [← hze]; clear hze
 refine Qd.of_codeOf ZjS Qz (by simp) ⟨_, rfl, by simp⟩ ?_
 simp (disch := omega) [Zd2, Qv, Qt, Qm]
 refine XH a.length 0 (fun i t h => t 8 = N i ∧ t 7 = OU true false (z.take i) ∧ h = [none]) (by simp) (by omega) ?_
 rintro i t1 hh hf hi ⟨e8, e7, rfl⟩
 (have e1 := hf 1 (by kernel_rfl); have e2 := hf 2 (by kernel_rfl); have e3 := hf 3 (by kernel_rfl); clear hf; simp [] at e1 e2 e3)
 simp (disch := omega) [e1, e2, e3, e7, e8]
 (with_reducible first | refine Qo (fun h6 => ?_) (fun h6 => ?_) | refine Qn (fun h6 => ?_) (fun h6 => ?_))
 ·simp only [Qi, Qg, Ql, Qk, Qe, Qc, Bool.not_true, Bool.not_false] at h6
  simp (disch := omega) [e1, e2, e3, e7, e8, Xh]
  refine Qa (Vm t (ha _ (List.getElem_mem (show i < a.length by omega))) (hb _ (List.getElem_mem (show i < b.length by omega)))) (by simp) ?_
  have hst : z.take (i + 1) = z.take i ++ [s.join a[i] (b[i]'(by omega))] := by rw [List.take_succ_eq_append_getElem (by omega), hget i (by omega)]
  rw [hst]
  have hlt : (z.take i).length ≤ a.length := by simp; omega
  generalize z.take i = y at *
  have hap : WN 1 (OU true false y) (.sl true false 1 [[N (s.join a[i] (b[i]'(by omega)))]]) = some (OU true false (y ++ [s.join a[i] (b[i]'(by omega))])) := Zjf (l := y) (r := [_]) (u := true) (nl := false) (by simp; omega)
  simp (disch := omega) [e1, e2, e3, e7, e8, Xh, Qf, Qm]
  rw [hap]
  simp (disch := omega) [e8, Qf]
  omega
 ·simp only [Qi, Qg, Ql, Qk, Qe, Qc, Bool.not_true, Bool.not_false] at h6
  simp (disch := omega) [e7]
  rw [List.take_of_length_le (by simp; omega)]
  simp
theorem Yg (n1 n2 : Bool) (c f : Wx) (hc : c.length ≤ 1000000) (hf : f.length ≤ 1000000) : Qd Tryz.prog WW [LC n1 c, LC n2 f] (· = .sl true false 1 ((f ++ c).map fun x => [eC x])) := by
 refine Qd.of_codeOf ZjN Qz (by simp) ⟨_, rfl, by simp⟩ ?_
 have h1 : f.length ≤ most := by unfold most; omega
 have h2 : f.length + c.length ≤ most := by unfold most; omega
 simp (disch := omega) [ZdQ, Qm, WN, h1, h2]
theorem XM {size : Int} {l : List Int} (h : okL size l = true) (k : Int) (hk : Wv (hd l) = some 1 ∨ Wv (hd l) = some 2) : Qd Tryz.prog Wh [L false l, N k] (· = OU true false (if k = 0 then QI l else Ws l)) := by
 have hl := QG h
 have hlok := ZbB (JT h)
 have he : Zw l 1 = 1 + (QI l).length ∧ l = hd l :: (QI l ++ Ws l) := by
  rcases hk with hk | hk
  ·obtain ⟨q1, q2, q3⟩ := Zhp h hk
   obtain ⟨u, g1, g2, _⟩ := YG.1 q3
   refine ⟨?_, by rw [q2, List.append_nil]; exact q1⟩
   unfold Zw
   rw [if_pos (by omega), show (1 : Int).toNat = 1 from rfl]
   have e : l.drop 1 = u.flat ++ [] := by
    conv => lhs; rw [q1]
    rw [List.drop_one, List.tail_cons, g2, List.append_nil]
   have e2 : l.length = 1 + u.flat.length := by
    conv => lhs; rw [q1]
    rw [g2]; simp; omega
   rw [e, Zed g1, e2, g2]; simp
  ·obtain ⟨q1, q2, q3⟩ := JQ h hk
   obtain ⟨u, g1, g2, _⟩ := YG.1 q2
   refine ⟨?_, q1⟩
   unfold Zw
   rw [if_pos (by omega), show (1 : Int).toNat = 1 from rfl]
   have e : l.drop 1 = u.flat ++ Ws l := by
    conv => lhs; rw [q1]
    rw [List.drop_one, List.tail_cons, g2]
   have e2 : l.length = 1 + (u.flat.length + (Ws l).length) := by
    conv => lhs; rw [q1]
    rw [g2]; simp; omega
   rw [e, Zed g1, e2, g2]; omega
 have hlen : l.length = 1 + ((QI l).length + (Ws l).length) := by
  have := congrArg List.length he.2
  simpa [Nat.add_comm] using this
 have c0 : Ja 1 (L false l) (some 1) (some (1 + ((QI l).length : Int))) none = some (L false (QI l)) := by
  simp only [Ja, Option.getD_none, Option.getD_some, List.length_map]
  rw [if_pos ⟨trivial, by omega, by omega, by omega, by omega⟩, show (1 + ((QI l).length : Int)).toNat = 1 + (QI l).length by omega, show (1 : Int).toNat = 1 from rfl, ← List.map_take, ← List.map_drop]
  have e : List.drop 1 (List.take (1 + (QI l).length) l) = QI l := by
   have h2 := he.2
   generalize QI l = p0 at *
   generalize Ws l = p1 at *
   rw [h2, Nat.add_comm, List.take_succ_cons, List.drop_one, List.tail_cons, List.take_left]
  rw [e]; simp only [Option.isSome_none, Bool.false_and, Zgo]
 have c1 : Ja 1 (L false l) (some (1 + ((QI l).length : Int))) none none = some (L false (Ws l)) := by
  have := Zd (n2 := false) (l := l) (k := 1 + (QI l).length) (by omega)
  rw [show ((1 + (QI l).length : Nat) : Int) = 1 + ((QI l).length : Int) by omega] at this
  rw [this]
  have e : List.drop (1 + (QI l).length) l = Ws l := by
   have h2 := he.2
   generalize QI l = p0 at *
   generalize Ws l = p1 at *
   rw [h2, Nat.add_comm, List.drop_succ_cons, List.drop_left]
  rw [e]
 have hend := Zn5 false l hlok 1 (by omega)
 rw [show ((1 : Nat) : Int) = 1 from rfl, he.1] at hend
 refine Qd.of_codeOf ZjI Qz (by simp) ⟨_, rfl, by split <;> simp⟩ ?_
 simp (disch := omega) [ZdB]
 refine Qa hend (by simp) ?_
 simp (disch := omega)
 by_cases h0 : k = 0
 ·subst h0
  have hz : eqB 0 0 = true := by rw [Qe]
  simp (disch := omega) [hz, c0]
  refine Qa (ZL false (QI l) (by omega)) (by simp) ?_
  simp (disch := omega)
 ·have hz : eqB k 0 = false := by rw [Qc]; exact h0
  simp (disch := omega) [hz, c1, h0]
  refine Qa (ZL false (Ws l) (by omega)) (by simp) ?_
  simp (disch := omega)
def Res.told : Res → LV → Prop
 | .ok x, r => ∃ u1 u2 u4 n4, r = .agg [OU u1 false x.ty, OU u2 false x.needs, N 0, .sl u4 n4 1 []]
 | .bad f p, r => f ≠ 0 ∧ ∃ u1 u2 u4 n4, r = .agg [.sl u1 true 1 [], .sl u2 true 1 [], N f, OU u4 n4 p]
theorem Xc (f : Int) (hf : f ≠ 0) : Qd Tryz.prog WH [N f] (Res.bad f []).told := by
 refine Qd.of_codeOf Zlt Qz (by simp) ⟨.agg [.sl false true 1 [], .sl false true 1 [], N f, .sl false true 1 []], ⟨hf, false, false, false, true, by simp⟩, by simp⟩ ?_
 simp (disch := omega) [ZfE]
 exact ⟨hf, true, true, true, true, by simp⟩
def ZhM (ty nd : List Int) : Res := if ty.length ≤ 40 then .ok (.mk ty nd []) else .bad 3 []
theorem V5 (x : Res) (h : ∀ f p, x = .bad f p → f ≠ 0) : ∃ r, x.told r ∧ Low 0 r := by
 cases x with
 | ok x => exact ⟨.agg [L false x.ty, L false x.needs, N 0, .sl false true 1 []], ⟨false, false, false, true, rfl⟩, by simp⟩
 | bad f p => exact ⟨.agg [.sl false true 1 [], .sl false true 1 [], N f, L true p], ⟨h f p rfl, false, false, false, true, rfl⟩, by simp⟩
theorem ZqU {ty nd : List Int} {f : Int} {p : List Int} (h : ZhM ty nd = .bad f p) : f ≠ 0 := by
 unfold ZhM at h
 split at h
 ·simp at h
 ·simp at h; omega
theorem ZaL (ty nd : List Int) : Qd Tryz.prog Yz [L false ty, L false nd] (ZhM ty nd).told := by
 refine Qd.of_codeOf ZkC Qz (by simp) (V5 _ fun f p h => ZqU h) ?_
 simp (disch := omega) [ZdT]
 by_cases h : ty.length ≤ 40
 ·have hb : ltB 40 (ty.length : Int) = false := by rw [Qg]; omega
  simp (disch := omega) [hb, ZhM, h]
  exact ⟨false, false, true, true, by simp⟩
 ·have hb : ltB 40 (ty.length : Int) = true := by rw [Qi]; omega
  simp (disch := omega) [hb, ZhM, h]
  refine Qh (Qd.low (Xc 3 (by omega))) (by simp) ?_
  rintro r ⟨⟨h3, u1, u2, u4, n4, rfl⟩, lo⟩
  simp (disch := omega)
  exact ⟨h3, u1, u2, u4, n4, by simp⟩
end Go.Proofs.YtclfngbealdbgaaGreat
namespace Go.Proofs.YtclfngbealdbgaaGreat
open Go Go.TL
open Go.Proofs.YtclfngbealdbgaaGreat.Ty
set_option linter.unusedSimpArgs false
set_option linter.unusedVariables false
set_option maxRecDepth 20000
set_option maxHeartbeats 4000000
def ofR (i : Nat) : Res → Res
 | .ok x => .ok x
 | .bad f p => .bad f ((i : Int) :: p)
def Res.fine : Res → Prop
 | .ok _ => True
 | .bad f p => f ≠ 0 ∧ p.length ≤ 1000000
theorem ofR_fine {i : Nat} {x : Res} (h : x.fine) : ∀ f p, ofR i x = .bad f p → f ≠ 0 := by
 intro f p e
 cases x with
 | ok x => simp [ofR] at e
 | bad f0 p0 => simp [ofR] at e; rw [← e.1]; exact h.1
theorem XN (s : GSys) (op n : Int) (nl1 : Bool) (gty : List Int) (nl2 : Bool) (ks : List GTerm) (i : Nat) (hi : i < ks.length) (nlc : Bool) (ctx : Wx) (R : Res) (hR : R.fine)
  (hk : Qd Tryz.prog Wt [s.lv, LC nlc ctx, (ks[i]).lv] R.told) : Qd Tryz.prog Ys [s.lv, LC nlc ctx, (GTerm.mk op n nl1 gty nl2 ks).lv, N i] (ofR i R).told := by
 refine Qd.of_codeOf Zoc Qz (by simp) (V5 _ (ofR_fine hR)) ?_
 have hix := ZdL ks false nl2 i hi
 simp (disch := omega) [ZgE, Qv, Qt, GTerm.cells, hix]
 refine Qh (Qd.low hk) (by simp) ?_
 rintro r ⟨hr, lo⟩
 cases R with
 | ok x =>
  obtain ⟨u1, u2, u4, n4, rfl⟩ := hr
  have hz : eqB 0 0 = true := by rw [Qe]
  simp (disch := omega) [hz]
  exact ⟨u1, u2, u4, n4, by simp⟩
 | bad f p =>
  obtain ⟨hf, u1, u2, u4, n4, rfl⟩ := hr
  have hf0 : eqB f 0 = false := by rw [Qc]; exact hf
  have hpm : 1 + p.length ≤ most := by have := hR.2; unfold most; omega
  simp (disch := omega) [hf0, Qm, WN, hpm]
  exact ⟨hf, u1, u2, true, false, by simp⟩
theorem ZkM {size : Int} {l : List Int} (h : okL size l = true) : ((QF (hd l)).1 = 0 ↔ hd l = 0) ∧ ((QF (hd l)).1 = 1 ↔ hd l = 1) ∧ ((QF (hd l)).1 = 2 ↔ hd l = 2) ∧ ((QF (hd l)).1 = 3 ↔ QM (hd l) = true) ∧ ((QF (hd l)).1 = 4 ↔ W4 (hd l) = true) := by
 have h1 := X8 h
 obtain ⟨a, b, c, d, e, _⟩ := Kg h1.2.1 h1.2.2.1
 exact ⟨a, b, c, d, e⟩
theorem sh00 : (QF 0).1 = 0 := by decide
theorem fo2 {s : GSys} {n : Int} {i : Nat} : QL s 2 n i 0 = 0 := by simp [QL, Jt, sh00]
theorem fo3 {s : GSys} {n : Int} : QL s 3 n 0 0 = 0 := by simp [QL, Jt, sh00]
theorem fo_add {s : GSys} {n : Int} {i : Nat} {l : List Int} (h : okL s.size l = true) : QL s 2 n i (hd l) = if hd l = 0 then 0 else 2 := by
 obtain ⟨a, b, c, d, e⟩ := ZkM h
 by_cases q : hd l = 0
 ·simp [QL, Jt, q, sh00]
 ·have : ¬ (QF (hd l)).1 = 0 := fun h => q (a.1 h)
  simp [QL, Jt, q, this]
theorem fo_if0 {s : GSys} {n : Int} {l : List Int} (h : okL s.size l = true) : QL s 3 n 0 (hd l) = if hd l = 0 then 0 else 2 := by
 obtain ⟨a, b, c, d, e⟩ := ZkM h
 by_cases q : hd l = 0
 ·simp [QL, Jt, q, sh00]
 ·have : ¬ (QF (hd l)).1 = 0 := fun h => q (a.1 h)
  simp [QL, Jt, q, this]
theorem ZaM {s : GSys} {op n : Int} {i : Nat} {c : Int} (h : i ≠ 0) (h2 : op ≠ 2) : QL s op n i c = 0 := by
 simp [QL, Jt, h, h2]
theorem tell_add {s : GSys} {cx : List (List Int)} {n : Int} {nl1 nl2 : Bool} {gty : List Int} {a b : GTerm} {x : TT} (hA : Qr s cx a = .ok x) (hx : okL s.size x.ty = true) (h0 : hd x.ty = 0) (hb : ∀ y, Qr s cx b = .ok y → okL s.size y.ty = true) :
  Qr s cx (.mk 2 n nl1 gty nl2 [a, b]) = match Qr s cx b with
   | .bad f p => .bad f (1 :: p)
   | .ok y => if hd y.ty = 0 then .ok (.mk [0] (XV s x.needs y.needs) [x, y]) else .bad 2 [] := by
 cases hB : Qr s cx b with
 | bad f p => simp [Qr, Q6, QB, Qp, hA, hB, fo2, h0]
 | ok y =>
  have := hb y hB
  by_cases q : hd y.ty = 0
  ·simp [Qr, Q6, QB, Qp, hA, hB, fo2, h0, q, Wc, ndP]
  ·simp [Qr, Q6, QB, Qp, hA, hB, fo2, fo_add this, h0, q]
theorem tell_if {s : GSys} {cx : List (List Int)} {n : Int} {nl1 nl2 : Bool} {gty : List Int} {a b c : GTerm} {x : TT} (hA : Qr s cx a = .ok x) (hx : okL s.size x.ty = true) (h0 : hd x.ty = 0) :
  Qr s cx (.mk 3 n nl1 gty nl2 [a, b, c]) = match Qr s cx b with
   | .bad f p => .bad f (1 :: p)
   | .ok y => match Qr s cx c with
    | .bad f p => .bad f (2 :: p)
    | .ok z => if y.ty = z.ty then .ok (.mk y.ty (XV s x.needs (XO s y.needs z.needs)) [x, y, z]) else .bad 3 [] := by
 cases hB : Qr s cx b with
 | bad f p => simp [Qr, Q6, QB, Qp, hA, hB, fo3, h0]
 | ok y =>
  cases hC : Qr s cx c with
  | bad f p => simp [Qr, Q6, QB, Qp, hA, hB, hC, fo3, h0, ZaM]
  | ok z =>
   by_cases q : y.ty = z.ty
   ·simp [Qr, Q6, QB, Qp, hA, hB, hC, fo3, h0, ZaM, Wc, tyP, ndP, q]
   ·simp [Qr, Q6, QB, Qp, hA, hB, hC, fo3, h0, ZaM, Wc, tyP, ndP, q]
end Go.Proofs.YtclfngbealdbgaaGreat
namespace Go.Proofs.YtclfngbealdbgaaGreat
open Go Go.TL
open Go.Proofs.YtclfngbealdbgaaGreat.Ty
set_option linter.unusedSimpArgs false
set_option linter.unusedVariables false
set_option maxRecDepth 20000
set_option maxHeartbeats 4000000
def ZV (ty nd : List Int) (ks : List TT) : Res := if ty.length ≤ 40 then .ok (.mk ty nd ks) else .bad 3 []
section
variable {s : GSys} {cx : List (List Int)} {n : Int} {nl1 nl2 : Bool} {gty : List Int} {a b c : GTerm} {x : TT}
theorem YS {op : Int} {ks : List GTerm} {f : Int} {p : List Int} (h : Qr s (QB op gty 0 [] ++ cx) a = .bad f p) : Qr s cx (.mk op n nl1 gty nl2 (a :: ks)) = .bad f (0 :: p) := by
 have h' : Qr s (QB op gty 0 (first []) ++ cx) a = .bad f p := h
 simp [Qr, Q6, h']
theorem Zcg : Qr s cx (.mk 0 n nl1 gty nl2 []) = .ok (.mk (cx.getD n.toNat []) ((zeros cx.length).set n.toNat 1) []) := by simp [Qr, Q6, Wc]
theorem tell_num : Qr s cx (.mk 1 n nl1 gty nl2 []) = .ok (.mk [0] (zeros cx.length) []) := by simp [Qr, Q6, Wc]
theorem K8 {op n : Int} {i : Nat} {c : Int} (h : op = 4 ∨ op = 6 ∨ op = 7 ∨ op = 9 ∨ op = 11) : QL s op n i c = 0 := by
 rcases h with rfl | rfl | rfl | rfl | rfl <;> simp [QL, Jt]
theorem fo_sh {op n : Int} {w f : Int} {l : List Int} (hw : Jt op 0 = (w, f)) (hw0 : 0 ≤ w) (ho : op = 5 ∨ op = 8 ∨ op = 12) {q : Prop} [Decidable q] (hq : (QF (hd l)).1 = w ↔ q) : QL s op n 0 (hd l) = if q then (if s.le 1 n = true then 0 else 8) else f := by
 unfold QL
 rw [hw]
 by_cases h : q
 ·rw [if_neg (by simp [hq.2 h]), if_pos h]
  cases g : s.le 1 n <;> simp [ho]
 ·have : (QF (hd l)).1 ≠ w := fun e => h (hq.1 e)
  rw [if_pos ⟨hw0, this⟩, if_neg h]
theorem ZqJ (hA : Qr s cx a = .ok x) : Qr s cx (.mk 4 n nl1 gty nl2 [a, b]) = match Qr s cx b with
  | .bad f p => .bad f (1 :: p)
  | .ok y => ZV (1 :: (x.ty ++ y.ty)) (XV s x.needs y.needs) [x, y] := by
 cases hB : Qr s cx b with
 | bad f p => simp [Qr, Q6, QB, Qp, hA, hB, K8]
 | ok y =>
  by_cases q : (1 :: (x.ty ++ y.ty)).length ≤ 40
  ·simp [Qr, Q6, QB, Qp, hA, hB, K8, Wc, ndP, tyP, Xf, ZV, q]
   simp at q
   simp [q]
  ·simp [Qr, Q6, QB, Qp, hA, hB, K8, Wc, ndP, tyP, Xf, ZV, q]
   simp at q
   simp [Nat.not_le.2 q]
theorem Zqy (hA : Qr s cx a = .ok x) : Qr s cx (.mk 6 n nl1 gty nl2 [a]) = ZV (2 :: (x.ty ++ gty)) x.needs [x] := by
 by_cases q : (2 :: (x.ty ++ gty)).length ≤ 40
 ·simp [Qr, Q6, QB, Qp, hA, K8, Wc, ndP, tyP, Xf, ZV, q]
  simp at q
  simp [q]
 ·simp [Qr, Q6, QB, Qp, hA, K8, Wc, ndP, tyP, Xf, ZV, q]
  simp at q
  simp [Nat.not_le.2 q]
theorem Zo2 (hA : Qr s cx a = .ok x) : Qr s cx (.mk 7 n nl1 gty nl2 [a]) = ZV (2 :: (gty ++ x.ty)) x.needs [x] := by
 by_cases q : (2 :: (gty ++ x.ty)).length ≤ 40
 ·simp [Qr, Q6, QB, Qp, hA, K8, Wc, ndP, tyP, Xf, ZV, q]
  simp at q
  simp [q]
 ·simp [Qr, Q6, QB, Qp, hA, K8, Wc, ndP, tyP, Xf, ZV, q]
  simp at q
  simp [Nat.not_le.2 q]
theorem tell_fun (hA : Qr s (gty :: cx) a = .ok x) : Qr s cx (.mk 9 n nl1 gty nl2 [a]) = if Wp s (x.needs.take 1) n = true then ZV ((3 + n) :: (gty ++ x.ty)) (x.needs.drop 1) [x] else .bad 9 [] := by
 by_cases u : Wp s (x.needs.take 1) n = true
 ·rw [if_pos u]
  by_cases q : ((3 + n) :: (gty ++ x.ty)).length ≤ 40
  ·simp [Qr, Q6, QB, Qp, hA, K8, Wc, ndP, tyP, usP, u, Xf, ZV, q]
   simp at q
   simp [q]
  ·simp [Qr, Q6, QB, Qp, hA, K8, Wc, ndP, tyP, usP, u, Xf, ZV, q]
   simp at q
   simp [Nat.not_le.2 q]
 ·rw [if_neg u]
  simp [Qr, Q6, QB, Qp, hA, K8, Wc, ndP, tyP, usP, u]
theorem tell_box (hA : Qr s cx a = .ok x) : Qr s cx (.mk 11 n nl1 gty nl2 [a]) = ZV ((19 + n) :: x.ty) (QT s n x.needs) [x] := by
 by_cases q : ((19 + n) :: x.ty).length ≤ 40
 ·simp [Qr, Q6, QB, Qp, hA, K8, Wc, ndP, tyP, Xf, ZV, q]
  simp at q
  simp [q]
 ·simp [Qr, Q6, QB, Qp, hA, K8, Wc, ndP, tyP, Xf, ZV, q]
  simp at q
  simp [Nat.not_le.2 q]
theorem tell_app (hA : Qr s cx a = .ok x) (hx : okL s.size x.ty = true) : Qr s cx (.mk 10 n nl1 gty nl2 [a, b]) = if QM (hd x.ty) = true then (match Qr s cx b with
  | .bad f p => .bad f (1 :: p)
  | .ok y => if y.ty = QI x.ty then .ok (.mk (Ws x.ty) (XV s x.needs (QT s (QF (hd x.ty)).2 y.needs)) [x, y]) else .bad 3 []) else .bad 6 [] := by
 have fo : QL s 10 n 0 (hd x.ty) = if QM (hd x.ty) = true then 0 else 6 := by
  obtain ⟨_, _, _, d, _⟩ := ZkM hx
  by_cases q : QM (hd x.ty) = true
  ·simp [QL, Jt, q, d.2 q]
  ·have : ¬ (QF (hd x.ty)).1 = 3 := fun h => q (d.1 h)
   simp [QL, Jt, q, this]
 by_cases q : QM (hd x.ty) = true
 ·rw [if_pos q]
  rw [if_pos q] at fo
  cases hB : Qr s cx b with
  | bad f p => simp [Qr, Q6, QB, Qp, hA, hB, fo]
  | ok y =>
   by_cases e : y.ty = QI x.ty
   ·simp [Qr, Q6, QB, Qp, hA, hB, fo, ZaM, first, tyP, e, Wc, ndP]
   ·simp [Qr, Q6, QB, Qp, hA, hB, fo, ZaM, first, tyP, e]
 ·rw [if_neg q]
  rw [if_neg q] at fo
  simp [Qr, Q6, QB, Qp, hA, fo]
theorem Zpo (hA : Qr s cx a = .ok x) (hx : okL s.size x.ty = true) : Qr s cx (.mk 5 n nl1 gty nl2 [a, b]) = if hd x.ty = 1 then (if s.le 1 n = true then (match Qr s (Ws x.ty :: QI x.ty :: cx) b with
  | .bad f p => .bad f (1 :: p)
  | .ok y => if Wp s (y.needs.take 2) n = true then .ok (.mk y.ty (XV s (QT s n x.needs) (y.needs.drop 2)) [x, y]) else .bad 9 []) else .bad 8 []) else .bad 4 [] := by
 have fo := fo_sh (s := s) (op := 5) (n := n) (w := 1) (f := 4) (l := x.ty) rfl (by omega) (by simp) (ZkM hx).2.1
 by_cases q : hd x.ty = 1
 ·rw [if_pos q] at fo ⊢
  by_cases l : s.le 1 n = true
  ·rw [if_pos l] at fo ⊢
   cases hB : Qr s (Ws x.ty :: QI x.ty :: cx) b with
   | bad f p => simp [Qr, Q6, QB, Qp, hA, hB, fo, first, tyP]
   | ok y =>
    by_cases u : Wp s (y.needs.take 2) n = true
    ·simp [Qr, Q6, QB, Qp, hA, hB, fo, ZaM, first, tyP, Wc, ndP, usP, u]
    ·simp [Qr, Q6, QB, Qp, hA, hB, fo, ZaM, first, tyP, Wc, ndP, usP, u]
  ·rw [if_neg l] at fo ⊢
   simp [Qr, Q6, QB, Qp, hA, fo]
 ·rw [if_neg q] at fo ⊢
  simp [Qr, Q6, QB, Qp, hA, fo]
theorem Zqt (hA : Qr s cx a = .ok x) (hx : okL s.size x.ty = true) : Qr s cx (.mk 12 n nl1 gty nl2 [a, b]) = if W4 (hd x.ty) = true then (if s.le 1 n = true then (match Qr s (QI x.ty :: cx) b with
  | .bad f p => .bad f (1 :: p)
  | .ok y => if Wp s (y.needs.take 1) (s.tm n (QF (hd x.ty)).2) = true then .ok (.mk y.ty (XV s (QT s n x.needs) (y.needs.drop 1)) [x, y]) else .bad 9 []) else .bad 8 []) else .bad 7 [] := by
 have fo := fo_sh (s := s) (op := 12) (n := n) (w := 4) (f := 7) (l := x.ty) rfl (by omega) (by simp) (ZkM hx).2.2.2.2
 by_cases q : W4 (hd x.ty) = true
 ·rw [if_pos q] at fo ⊢
  by_cases l : s.le 1 n = true
  ·rw [if_pos l] at fo ⊢
   cases hB : Qr s (QI x.ty :: cx) b with
   | bad f p => simp [Qr, Q6, QB, Qp, hA, hB, fo, first, tyP]
   | ok y =>
    by_cases u : Wp s (y.needs.take 1) (s.tm n (QF (hd x.ty)).2) = true
    ·simp [Qr, Q6, QB, Qp, hA, hB, fo, ZaM, first, tyP, Wc, ndP, usP, u]
    ·simp [Qr, Q6, QB, Qp, hA, hB, fo, ZaM, first, tyP, Wc, ndP, usP, u]
  ·rw [if_neg l] at fo ⊢
   simp [Qr, Q6, QB, Qp, hA, fo]
 ·rw [if_neg q] at fo ⊢
  simp [Qr, Q6, QB, Qp, hA, fo]
theorem Zqi (hA : Qr s cx a = .ok x) (hx : okL s.size x.ty = true) : Qr s cx (.mk 8 n nl1 gty nl2 [a, b, c]) = if hd x.ty = 2 then (if s.le 1 n = true then (match Qr s (QI x.ty :: cx) b with
  | .bad f p => .bad f (1 :: p)
  | .ok y => match Qr s (Ws x.ty :: cx) c with
   | .bad f p => .bad f (2 :: p)
   | .ok z => if y.ty = z.ty then (if Wp s (y.needs.take 1) n = true ∧ Wp s (z.needs.take 1) n = true then .ok (.mk y.ty (XV s (QT s n x.needs) (XO s (y.needs.drop 1) (z.needs.drop 1))) [x, y, z]) else .bad 9 []) else .bad 3 []) else .bad 8 []) else .bad 5 [] := by
 have fo := fo_sh (s := s) (op := 8) (n := n) (w := 2) (f := 5) (l := x.ty) rfl (by omega) (by simp) (ZkM hx).2.2.1
 by_cases q : hd x.ty = 2
 ·rw [if_pos q] at fo ⊢
  by_cases l : s.le 1 n = true
  ·rw [if_pos l] at fo ⊢
   cases hB : Qr s (QI x.ty :: cx) b with
   | bad f p => simp [Qr, Q6, QB, Qp, hA, hB, fo, first, tyP]
   | ok y =>
    cases hC : Qr s (Ws x.ty :: cx) c with
    | bad f p => simp [Qr, Q6, QB, Qp, hA, hB, hC, fo, ZaM, first, tyP]
    | ok z =>
     by_cases e : y.ty = z.ty
     ·by_cases u : Wp s (y.needs.take 1) n = true ∧ Wp s (z.needs.take 1) n = true
      ·simp [Qr, Q6, QB, Qp, hA, hB, hC, fo, ZaM, first, tyP, Wc, ndP, usP, u, e]
      ·simp [Qr, Q6, QB, Qp, hA, hB, hC, fo, ZaM, first, tyP, Wc, ndP, usP, u, e]
     ·simp [Qr, Q6, QB, Qp, hA, hB, hC, fo, ZaM, first, tyP, Wc, ndP, usP, e]
  ·rw [if_neg l] at fo ⊢
   simp [Qr, Q6, QB, Qp, hA, fo]
 ·rw [if_neg q] at fo ⊢
  simp [Qr, Q6, QB, Qp, hA, fo]
end
end Go.Proofs.YtclfngbealdbgaaGreat
namespace Go.Proofs.YtclfngbealdbgaaGreat
open Go Go.TL
open Go.Proofs.YtclfngbealdbgaaGreat.Ty
set_option linter.unusedSimpArgs false
set_option linter.unusedVariables false
set_option linter.unusedSectionVars false
set_option maxRecDepth 20000
set_option maxHeartbeats 4000000
theorem Zfw (p : Int → Bool) : ∀ (n : Nat) (g : Nat), Yc p g n = -1 ∨ p (Yc p g n) = true
 | 0, g => .inl rfl
 | n + 1, g => by
  unfold Yc
  split
  ·rename_i h; exact .inr h
  ·exact Zfw p n (g + 1)
structure GSys.Laws (s : GSys) : Prop where
 z_pl : ∀ a, s.G a → s.pl 0 a = a
 o_tm : ∀ a, s.G a → s.tm 1 a = a
 tm_o : ∀ a, s.G a → s.tm a 1 = a
 z_tm : ∀ a, s.G a → s.tm 0 a = 0
 tm_z : ∀ a, s.G a → s.tm a 0 = 0
 refl : ∀ a, s.G a → s.le a a = true
 comm : ∀ a b, s.G a → s.G b → s.pl a b = s.pl b a
 pl_as : ∀ a b c, s.G a → s.G b → s.G c → s.pl (s.pl a b) c = s.pl a (s.pl b c)
 tm_as : ∀ a b c, s.G a → s.G b → s.G c → s.tm (s.tm a b) c = s.tm a (s.tm b c)
 ldis : ∀ a b c, s.G a → s.G b → s.G c → s.tm a (s.pl b c) = s.pl (s.tm a b) (s.tm a c)
 rdis : ∀ a b c, s.G a → s.G b → s.G c → s.tm (s.pl a b) c = s.pl (s.tm a c) (s.tm b c)
 trans : ∀ a b c, s.G a → s.G b → s.G c → s.le a b = true → s.le b c = true → s.le a c = true
 pl_mo : ∀ a b c, s.G a → s.G b → s.G c → s.le a b = true → s.le (s.pl a c) (s.pl b c) = true
 tm_mr : ∀ a b c, s.G a → s.G b → s.G c → s.le a b = true → s.le (s.tm a c) (s.tm b c) = true
 tm_ml : ∀ a b c, s.G a → s.G b → s.G c → s.le a b = true → s.le (s.tm c a) (s.tm c b) = true
 anti : ∀ a b, s.G a → s.G b → s.le a b = true → s.le b a = true → a = b
 j_l : ∀ a b, s.G a → s.G b → s.le a (s.join a b) = true
 j_r : ∀ a b, s.G a → s.G b → s.le b (s.join a b) = true
 j_m : ∀ a b c, s.G a → s.G b → s.G c → s.le a c = true → s.le b c = true → s.le (s.join a b) c = true
theorem GSys.laws {s : GSys} (hs : s.sys = true) : s.Laws := by
 have t := GSys.sys_of hs
 have key : ∀ a b c, s.G a → s.G b → s.G c → s.one a = true ∧ s.two a b = true ∧ s.three a b c = true := by
  intro a b c ha hb hc
  have hs' := hs
  unfold GSys.sys at hs'
  rw [Bool.and_eq_true, Yr] at hs'
  have h := hs'.2 a.toNat (by have := ha.1; have := ha.2; omega)
  unfold GSys.sysB at h
  rw [Bool.and_eq_true, Yr] at h
  obtain ⟨h1, h⟩ := h
  have h := h b.toNat (by have := hb.1; have := hb.2; omega)
  unfold GSys.sysC at h
  rw [Bool.and_eq_true, Yr] at h
  obtain ⟨h2, h⟩ := h
  have h3 := h c.toNat (by have := hc.1; have := hc.2; omega)
  have e1 : ((a.toNat : Nat) : Int) = a := by have := ha.1; omega
  have e2 : ((b.toNat : Nat) : Int) = b := by have := hb.1; omega
  have e3 : ((c.toNat : Nat) : Int) = c := by have := hc.1; omega
  rw [e1] at h1
  rw [e1, e2] at h2
  rw [e1, e2, e3] at h3
  exact ⟨h1, h2, h3⟩
 have one : ∀ a, s.G a → _ := fun a ha => (key a 0 0 ha (GSys.G0 t) (GSys.G0 t)).1
 have two : ∀ a b, s.G a → s.G b → _ := fun a b ha hb => (key a b 0 ha hb (GSys.G0 t)).2.1
 have three : ∀ a b c, s.G a → s.G b → s.G c → _ := fun a b c ha hb hc => (key a b c ha hb hc).2.2
 simp only [GSys.one, GSys.two, GSys.three, Bool.and_eq_true, Qe, Bool.or_eq_true, Bool.not_eq_true', Ql] at one two three
 have isJ : ∀ a b, s.G a → s.G b → s.isJoin a b (s.join a b) = true := fun a b ha hb => by
  have h := (two a b ha hb).2
  rcases Zfw (s.isJoin a b) s.size.toNat 0 with q | q
  ·unfold GSys.join at h
   omega
  ·exact q
 simp only [GSys.isJoin, Bool.and_eq_true, Yr, GSys.jn, Bool.or_eq_true, Bool.not_eq_true'] at isJ
 refine ⟨fun a ha => (one a ha).1.1.1.1.1, fun a ha => (one a ha).1.1.1.1.2, fun a ha => (one a ha).1.1.1.2, fun a ha => (one a ha).1.1.2, fun a ha => (one a ha).1.2, fun a ha => (one a ha).2,
  fun a b ha hb => (two a b ha hb).1.1, fun a b c ha hb hc => (three a b c ha hb hc).1.1.1.1, fun a b c ha hb hc => (three a b c ha hb hc).1.1.1.2, fun a b c ha hb hc => (three a b c ha hb hc).1.1.2, fun a b c ha hb hc => (three a b c ha hb hc).1.2, ?_, ?_, ?_, ?_, ?_, fun a b ha hb => (isJ a b ha hb).1.1, fun a b ha hb => (isJ a b ha hb).1.2, ?_⟩
 ·intro a b c ha hb hc h1 h2
  rcases (three a b c ha hb hc).2 with h | h
  ·rw [h1] at h; simp at h
  ·rcases h.1.1.1 with g | g
   ·rw [h2] at g; simp at g
   ·exact g
 ·intro a b c ha hb hc h1
  rcases (three a b c ha hb hc).2 with h | h
  ·rw [h1] at h; simp at h
  ·exact h.1.1.2
 ·intro a b c ha hb hc h1
  rcases (three a b c ha hb hc).2 with h | h
  ·rw [h1] at h; simp at h
  ·exact h.1.2
 ·intro a b c ha hb hc h1
  rcases (three a b c ha hb hc).2 with h | h
  ·rw [h1] at h; simp at h
  ·exact h.2
 ·intro a b ha hb h1 h2
  rcases (two a b ha hb).1.2 with (h | h) | h
  ·exact h
  ·rw [h1] at h; simp at h
  ·rw [h2] at h; simp at h
 ·intro a b c ha hb hc h1 h2
  have h := (isJ a b ha hb).2 c.toNat (by have := hc.1; have := hc.2; omega)
  have e3 : ((c.toNat : Nat) : Int) = c := by have := hc.1; omega
  rw [e3, h1, h2] at h
  simpa using h
theorem GSys.Laws.pl_z {s : GSys} (l : s.Laws) (t : s.Tab) (a : Int) (h : s.G a) : s.pl a 0 = a := by rw [l.comm a 0 h (GSys.G0 t), l.z_pl a h]
theorem GSys.Laws.pl2 {s : GSys} (l : s.Laws) (t : s.Tab) {a b c d : Int} (ha : s.G a) (hb : s.G b) (hc : s.G c) (hd : s.G d) (h1 : s.le a c = true) (h2 : s.le b d = true) : s.le (s.pl a b) (s.pl c d) = true := by
 refine l.trans _ (s.pl c b) _ (GSys.Gpl t _ _) (GSys.Gpl t _ _) (GSys.Gpl t _ _) (l.pl_mo a c b ha hc hb h1) ?_
 rw [l.comm c b hc hb, l.comm c d hc hd]
 exact l.pl_mo b d c hb hd hc h2
theorem GSys.Laws.jn2 {s : GSys} (l : s.Laws) (hs : s.sys = true) {a b c d : Int} (ha : s.G a) (hb : s.G b) (hc : s.G c) (hd : s.G d) (h1 : s.le a c = true) (h2 : s.le b d = true) : s.le (s.join a b) (s.join c d) = true :=
 l.j_m a b _ ha hb (JR hs hc hd) (l.trans a c _ ha hc (JR hs hc hd) h1 (l.j_l c d hc hd)) (l.trans b d _ hb hd (JR hs hc hd) h2 (l.j_r c d hc hd))
def Gd (s : GSys) (c : Nat) (l : List Int) : Prop := l.length = c ∧ ∀ u ∈ l, s.G u
def leL (s : GSys) (a b : List Int) : Prop := ∀ i, i < a.length → s.le (a.getD i 0) (b.getD i 0) = true
structure PCl (s : GSys) (P : List Int → List Int → Prop) (c c' : Nat) : Prop where
 zero : P (zeros c) (zeros c')
 sum : ∀ a a' b b', Gd s c a → Gd s c' a' → Gd s c b → Gd s c' b' → P a a' → P b b' → P (XV s a b) (XV s a' b')
 join : ∀ a a' b b', Gd s c a → Gd s c' a' → Gd s c b → Gd s c' b' → P a a' → P b b' → P (XO s a b) (XO s a' b')
 scale : ∀ g a a', s.G g → Gd s c a → Gd s c' a' → P a a' → P (QT s g a) (QT s g a')
structure QR (s : GSys) (P : List Int → List Int → Prop) (c c' k : Nat) (a a' : List Int) : Prop where
 g : Gd s (k + c) a
 g' : Gd s (k + c') a'
 le : leL s (a'.take k) (a.take k)
 p : P (a.drop k) (a'.drop k)
theorem Gd.drop {s : GSys} {k c : Nat} {a : List Int} (h : Gd s (k + c) a) : Gd s c (a.drop k) := ⟨by rw [List.length_drop, h.1]; omega, fun u hu => h.2 u (List.mem_of_mem_drop hu)⟩
theorem Gd.take {s : GSys} {k c : Nat} {a : List Int} (h : Gd s (k + c) a) : Gd s k (a.take k) := ⟨by rw [List.length_take, h.1]; omega, fun u hu => h.2 u (List.mem_of_mem_take hu)⟩
theorem Gd.at {s : GSys} {c : Nat} {a : List Int} (h : Gd s c a) {i : Nat} (hi : i < c) : s.G (a.getD i 0) := by
 rw [List.getD_eq_getElem?_getD, List.getElem?_eq_getElem (by rw [h.1]; exact hi)]
 exact h.2 _ (List.getElem_mem _)
theorem XW {f : Int → Int → Int} {a b : List Int} {c i : Nat} (ha : a.length = c) (hb : b.length = c) (hi : i < c) : (List.zipWith f a b).getD i 0 = f (a.getD i 0) (b.getD i 0) := by
 simp [List.getD_eq_getElem?_getD, List.getElem?_zipWith, show i < a.length by omega, show i < b.length by omega]
theorem KP {f : Int → Int} {a : List Int} {i : Nat} (hi : i < a.length) : (a.map f).getD i 0 = f (a.getD i 0) := by
 simp [List.getD_eq_getElem?_getD, hi]
theorem Gd.sum {s : GSys} (t : s.Tab) {c : Nat} {a b : List Int} (ha : Gd s c a) (hb : Gd s c b) : Gd s c (XV s a b) := Zc1 t ha.1 hb.1
theorem Gd.join {s : GSys} (hs : s.sys = true) {c : Nat} {a b : List Int} (ha : Gd s c a) (hb : Gd s c b) : Gd s c (XO s a b) := ⟨Zbg ha.1 hb.1, fun u hu => ZhQ hs u hu ha.2 hb.2⟩
theorem Gd.scale {s : GSys} (t : s.Tab) {c : Nat} {a : List Int} (g : Int) (ha : Gd s c a) : Gd s c (QT s g a) := X5 t ha.1
theorem Gd.zeros {s : GSys} (t : s.Tab) (c : Nat) : Gd s c (zeros c) := VP t c
theorem leL_sum {s : GSys} (hs : s.sys = true) {c : Nat} {a a' b b' : List Int} (ha : Gd s c a) (ha' : Gd s c a') (hb : Gd s c b) (hb' : Gd s c b') (h1 : leL s a' a) (h2 : leL s b' b) : leL s (XV s a' b') (XV s a b) := by
 have t := GSys.sys_of hs
 intro i hi
 have hi' : i < c := by rw [(ha'.sum t hb').1] at hi; exact hi
 simp only [XV]
 rw [XW ha'.1 hb'.1 hi', XW ha.1 hb.1 hi']
 exact (GSys.laws hs).pl2 t (ha'.at hi') (hb'.at hi') (ha.at hi') (hb.at hi') (h1 i (by rw [ha'.1]; exact hi')) (h2 i (by rw [hb'.1]; exact hi'))
theorem leL_join {s : GSys} (hs : s.sys = true) {c : Nat} {a a' b b' : List Int} (ha : Gd s c a) (ha' : Gd s c a') (hb : Gd s c b) (hb' : Gd s c b') (h1 : leL s a' a) (h2 : leL s b' b) : leL s (XO s a' b') (XO s a b) := by
 intro i hi
 have hi' : i < c := by rw [(ha'.join hs hb').1] at hi; exact hi
 simp only [XO]
 rw [XW ha'.1 hb'.1 hi', XW ha.1 hb.1 hi']
 exact (GSys.laws hs).jn2 hs (ha'.at hi') (hb'.at hi') (ha.at hi') (hb.at hi') (h1 i (by rw [ha'.1]; exact hi')) (h2 i (by rw [hb'.1]; exact hi'))
theorem ZqI {s : GSys} (hs : s.sys = true) {c : Nat} {g : Int} (hg : s.G g) {a a' : List Int} (ha : Gd s c a) (ha' : Gd s c a') (h1 : leL s a' a) : leL s (QT s g a') (QT s g a) := by
 intro i hi
 have hi' : i < c := by simp [QT, ha'.1] at hi; exact hi
 simp only [QT]
 rw [KP (by rw [ha'.1]; exact hi'), KP (by rw [ha.1]; exact hi')]
 exact (GSys.laws hs).tm_ml _ _ g (ha'.at hi') (ha.at hi') hg (h1 i (by rw [ha'.1]; exact hi'))
section
variable {s : GSys} (hs : s.sys = true) {P : List Int → List Int → Prop} {c c' k : Nat} (cl : PCl s P c c')
include hs cl
theorem QR.zero : QR s P c c' k (zeros (k + c)) (zeros (k + c')) := by
 have t := GSys.sys_of hs
 refine ⟨Gd.zeros t _, Gd.zeros t _, fun i hi => ?_, ?_⟩
 ·have hk : i < k := by simp [zeros] at hi; exact hi
  simp only [zeros, List.take_replicate]
  rw [show min k (k + c') = k by omega, show min k (k + c) = k by omega]
  have : (List.replicate k (0 : Int)).getD i 0 = 0 := by simp [List.getD_eq_getElem?_getD, hk]
  rw [this]
  exact (GSys.laws hs).refl 0 (GSys.G0 t)
 ·simp only [zeros, List.drop_replicate]
  rw [show k + c - k = c by omega, show k + c' - k = c' by omega]
  exact cl.zero
theorem QR.sum {a a' b b' : List Int} (h1 : QR s P c c' k a a') (h2 : QR s P c c' k b b') : QR s P c c' k (XV s a b) (XV s a' b') := by
 have t := GSys.sys_of hs
 refine ⟨h1.g.sum t h2.g, h1.g'.sum t h2.g', ?_, ?_⟩
 ·simp only [XV, List.take_zipWith]
  exact leL_sum hs h1.g.take h1.g'.take h2.g.take h2.g'.take h1.le h2.le
 ·simp only [XV, List.drop_zipWith]
  exact cl.sum _ _ _ _ h1.g.drop h1.g'.drop h2.g.drop h2.g'.drop h1.p h2.p
theorem QR.join {a a' b b' : List Int} (h1 : QR s P c c' k a a') (h2 : QR s P c c' k b b') : QR s P c c' k (XO s a b) (XO s a' b') := by
 refine ⟨h1.g.join hs h2.g, h1.g'.join hs h2.g', ?_, ?_⟩
 ·simp only [XO, List.take_zipWith]
  exact leL_join hs h1.g.take h1.g'.take h2.g.take h2.g'.take h1.le h2.le
 ·simp only [XO, List.drop_zipWith]
  exact cl.join _ _ _ _ h1.g.drop h1.g'.drop h2.g.drop h2.g'.drop h1.p h2.p
theorem QR.scale {g : Int} (hg : s.G g) {a a' : List Int} (h1 : QR s P c c' k a a') : QR s P c c' k (QT s g a) (QT s g a') := by
 have t := GSys.sys_of hs
 refine ⟨h1.g.scale t g, h1.g'.scale t g, ?_, ?_⟩
 ·simp only [QT, ← List.map_take]
  exact ZqI hs hg h1.g.take h1.g'.take h1.le
 ·simp only [QT, ← List.map_drop]
  exact cl.scale g _ _ hg h1.g.drop h1.g'.drop h1.p
end
theorem QR.less {s : GSys} {P : List Int → List Int → Prop} {c c' k j : Nat} {a a' : List Int} (h : QR s P c c' (j + k) a a') : QR s P c c' k (a.drop j) (a'.drop j) := by
 refine ⟨(show Gd s (j + (k + c)) a by rw [← Nat.add_assoc]; exact h.g).drop, (show Gd s (j + (k + c')) a' by rw [← Nat.add_assoc]; exact h.g').drop, fun i hi => ?_, by rw [List.drop_drop, List.drop_drop]; exact h.p⟩
 have e : ∀ (l : List Int), i < k → ((l.drop j).take k).getD i 0 = (l.take (j + k)).getD (j + i) 0 := fun l hik => by
  simp [List.getD_eq_getElem?_getD, List.getElem?_take, List.getElem?_drop, hik]
 have hik : i < k := by simp at hi; omega
 rw [e a' hik, e a hik]
 exact h.le (j + i) (by have := h.g'.1; simp; omega)
theorem QR.used {s : GSys} (hs : s.sys = true) {P : List Int → List Int → Prop} {c c' k j : Nat} {a a' : List Int} (h : QR s P c c' (j + k) a a') {g : Int} (hg : s.G g) (hu : Wp s (a.take j) g = true) : Wp s (a'.take j) g = true := by
 unfold Wp at hu ⊢
 rw [List.all_eq_true] at hu ⊢
 intro u hu'
 obtain ⟨i, hi, rfl⟩ := List.getElem_of_mem hu'
 have l1 := h.g.1
 have l2 := h.g'.1
 have hij : i < j := by simp at hi; omega
 have e1 : (a'.take j)[i] = a'.getD i 0 := by simp [List.getD_eq_getElem?_getD, show i < a'.length by omega]
 have hle := h.le i (by simp; omega)
 have e2 : ∀ l : List Int, (l.take (j + k)).getD i 0 = l.getD i 0 := fun l => by simp [List.getD_eq_getElem?_getD, List.getElem?_take, show i < j + k by omega]
 rw [e2, e2] at hle
 rw [e1]
 have hg2 := hu (a.getD i 0) (by
  rw [List.getD_eq_getElem?_getD, List.getElem?_eq_getElem (by omega), Option.getD_some]
  rw [List.mem_iff_getElem]
  exact ⟨i, by simp; omega, by simp⟩)
 exact (GSys.laws hs).trans _ _ _ (h.g'.at (by omega)) (h.g.at (by omega)) hg hle hg2
end Go.Proofs.YtclfngbealdbgaaGreat
namespace Go.Proofs.YtclfngbealdbgaaGreat
open Go Go.TL
open Go.Proofs.YtclfngbealdbgaaGreat.Ty
set_option linter.unusedSimpArgs false
set_option linter.unusedVariables false
set_option linter.unusedSectionVars false
set_option maxRecDepth 20000
set_option maxHeartbeats 4000000
mutual
def rnG (σ : Nat → Int → GTerm) (k : Nat) : GTerm → GTerm
 | .mk op n nl1 ty nl2 ks => if op = 0 then σ k n else .mk op n nl1 ty nl2 (rnK σ op k 0 ks)
def rnK (σ : Nat → Int → GTerm) (op : Int) (k i : Nat) : List GTerm → List GTerm
 | [] => []
 | t :: ts => rnG σ ((Qp op i).toNat + k) t :: rnK σ op k (i + 1) ts
end
structure KRel (s : GSys) (P : List Int → List Int → Prop) (c c' : Nat) (op : Int) (k : Nat) (l l' : List TT) : Prop where
 len : l'.length = l.length
 each : ∀ (i : Nat) (x x' : TT), l[i]? = some x → l'[i]? = some x' → x'.ty = x.ty ∧ QR s P c c' ((Qp op i).toNat + k) x.needs x'.needs
theorem KRel.ty {s : GSys} {P : List Int → List Int → Prop} {c c' k : Nat} {op : Int} {l l' : List TT} (h : KRel s P c c' op k l l') (i : Nat) : tyP l' i = tyP l i := by
 unfold tyP
 by_cases hi : i < l.length
 ·have hi' : i < l'.length := by rw [h.len]; exact hi
  have := (h.each i l[i] l'[i] (List.getElem?_eq_getElem hi) (List.getElem?_eq_getElem hi')).1
  simpa [List.getD_eq_getElem?_getD, hi, hi'] using this
 ·simp [List.getD_eq_getElem?_getD, List.getElem?_eq_none (show l.length ≤ i by omega), List.getElem?_eq_none (show l'.length ≤ i by rw [h.len]; omega)]
theorem KRel.at {s : GSys} {P : List Int → List Int → Prop} {c c' k : Nat} {op : Int} {l l' : List TT} (h : KRel s P c c' op k l l') (i : Nat) (hi : i < l.length) : QR s P c c' ((Qp op i).toNat + k) (l.getD i (.mk [] [] [])).needs (l'.getD i (.mk [] [] [])).needs := by
 have hi' : i < l'.length := by rw [h.len]; exact hi
 have := (h.each i l[i] l'[i] (List.getElem?_eq_getElem hi) (List.getElem?_eq_getElem hi')).2
 simpa [List.getD_eq_getElem?_getD, hi, hi'] using this
theorem KRel.nd {s : GSys} {P : List Int → List Int → Prop} {c c' k : Nat} {op : Int} {l l' : List TT} (h : KRel s P c c' op k l l') (i : Nat) (hi : i < l.length) : QR s P c c' k (ndP op l i) (ndP op l' i) := by
 unfold ndP
 exact (h.at i hi).less
theorem KRel.us {s : GSys} (hs : s.sys = true) {P : List Int → List Int → Prop} {c c' k : Nat} {op : Int} {l l' : List TT} (h : KRel s P c c' op k l l') (i : Nat) (hi : i < l.length) {g : Int} (hg : s.G g) (hu : Wp s (usP op l i) g = true) : Wp s (usP op l' i) g = true := by
 unfold usP at hu ⊢
 exact (h.at i hi).used hs hg hu
theorem KRel.snoc {s : GSys} {P : List Int → List Int → Prop} {c c' k : Nat} {op : Int} {l l' : List TT} (h : KRel s P c c' op k l l') {x x' : TT} (h1 : x'.ty = x.ty) (h2 : QR s P c c' ((Qp op l.length).toNat + k) x.needs x'.needs) : KRel s P c c' op k (l ++ [x]) (l' ++ [x']) := by
 refine ⟨by simp [h.len], fun i y y' hy hy' => ?_⟩
 have hl := h.len
 rcases Nat.lt_trichotomy i l.length with g | g | g
 ·rw [List.getElem?_append_left g] at hy
  rw [List.getElem?_append_left (by omega)] at hy'
  exact h.each i y y' hy hy'
 ·subst g
  rw [List.getElem?_append_right (Nat.le_refl _)] at hy
  rw [List.getElem?_append_right (by omega), hl] at hy'
  simp at hy hy'
  subst hy; subst hy'
  exact ⟨h1, h2⟩
 ·rw [List.getElem?_append_right (by omega), List.getElem?_eq_none (by simp; omega)] at hy; simp at hy
theorem ZcZ {ty nd nd' : List Int} (h : (Xf ty nd).1 = 0) : (Xf ty nd').1 = 0 ∧ (Xf ty nd').2.1 = (Xf ty nd).2.1 ∧ (Xf ty nd).2.2 = nd ∧ (Xf ty nd').2.2 = nd' := by
 obtain ⟨g1, g2, g3⟩ := Zde h
 unfold Xf
 simp [g1]
section
variable {s : GSys} (hs : s.sys = true) {P : List Int → List Int → Prop} {ctx ctx' : List (List Int)} (cl : PCl s P ctx.length ctx'.length)
include hs cl
theorem fin_rn {ds : List (List Int)} {op n : Int} {ty : List Int} {l l' : List TT} (h0 : op ≠ 0) (nd : NodeOk s (ds ++ ctx).length op n ty l.length) (k : KidsOk s (ds ++ ctx).length op n l) (r : KRel s P ctx.length ctx'.length op ds.length l l')
  (h : (Wc s (ds ++ ctx) op n ty l).1 = 0) :
  (Wc s (ds ++ ctx') op n ty l').1 = 0 ∧ (Wc s (ds ++ ctx') op n ty l').2.1 = (Wc s (ds ++ ctx) op n ty l).2.1 ∧ QR s P ctx.length ctx'.length ds.length (Wc s (ds ++ ctx) op n ty l).2.2 (Wc s (ds ++ ctx') op n ty l').2.2 := by
 have t := GSys.sys_of hs
 have h16 := t.hi
 obtain ⟨many, hvar, hgr, hty, o1, o2⟩ := nd
 have hops : op = 1 ∨ op = 2 ∨ op = 3 ∨ op = 4 ∨ op = 5 ∨ op = 6 ∨ op = 7 ∨ op = 8 ∨ op = 9 ∨ op = 10 ∨ op = 11 ∨ op = 12 := by omega
 have t0 := r.ty 0
 have t1 := r.ty 1
 have t2 := r.ty 2
 rcases hops with e | e | e | e | e | e | e | e | e | e | e | e
 all_goals subst e
 all_goals simp [YV] at many
 ·have E : ∀ cx m, Wc s cx 1 n ty m = (0, [0], zeros cx.length) := fun _ _ => rfl
  rw [E, E, List.length_append, List.length_append]
  exact ⟨rfl, rfl, QR.zero hs cl⟩
 ·have E : ∀ cx m, Wc s cx 2 n ty m = (0, [0], XV s (ndP 2 m 0) (ndP 2 m 1)) := fun _ _ => rfl
  rw [E, E]
  exact ⟨rfl, rfl, QR.sum hs cl (r.nd 0 (by omega)) (r.nd 1 (by omega))⟩
 ·have E : ∀ cx m, Wc s cx 3 n ty m = (if tyP m 1 = tyP m 2 then (0, tyP m 1, XV s (ndP 3 m 0) (XO s (ndP 3 m 1) (ndP 3 m 2))) else (3, [], [])) := fun _ _ => rfl
  rw [E] at h ⊢
  rw [E, t1, t2]
  split at h
  ·rename_i e
   rw [if_pos e, if_pos e]
   exact ⟨rfl, rfl, QR.sum hs cl (r.nd 0 (by omega)) (QR.join hs cl (r.nd 1 (by omega)) (r.nd 2 (by omega)))⟩
  ·simp at h
 ·have E : ∀ cx m, Wc s cx 4 n ty m = Xf (1 :: (tyP m 0 ++ tyP m 1)) (XV s (ndP 4 m 0) (ndP 4 m 1)) := fun _ _ => rfl
  rw [E] at h ⊢
  rw [E, t0, t1]
  obtain ⟨g1, g2, g3, g4⟩ := ZcZ (nd' := XV s (ndP 4 l' 0) (ndP 4 l' 1)) h
  rw [g3, g4]
  exact ⟨g1, g2, QR.sum hs cl (r.nd 0 (by omega)) (r.nd 1 (by omega))⟩
 ·have hg := hgr (by simp [Z0, Qe])
  have E : ∀ cx m, Wc s cx 5 n ty m = (if Wp s (usP 5 m 1) n = true then (0, tyP m 1, XV s (QT s n (ndP 5 m 0)) (ndP 5 m 1)) else (9, [], [])) := fun _ _ => rfl
  rw [E] at h ⊢
  rw [E, t1]
  split at h
  ·rename_i e
   rw [if_pos e, if_pos (r.us hs 1 (by omega) hg e)]
   exact ⟨rfl, rfl, QR.sum hs cl (QR.scale hs cl hg (r.nd 0 (by omega))) (r.nd 1 (by omega))⟩
  ·simp at h
 ·have E : ∀ cx m, Wc s cx 6 n ty m = Xf (2 :: (tyP m 0 ++ ty)) (ndP 6 m 0) := fun _ _ => rfl
  rw [E] at h ⊢
  rw [E, t0]
  obtain ⟨g1, g2, g3, g4⟩ := ZcZ (nd' := ndP 6 l' 0) h
  rw [g3, g4]
  exact ⟨g1, g2, r.nd 0 (by omega)⟩
 ·have E : ∀ cx m, Wc s cx 7 n ty m = Xf (2 :: (ty ++ tyP m 0)) (ndP 7 m 0) := fun _ _ => rfl
  rw [E] at h ⊢
  rw [E, t0]
  obtain ⟨g1, g2, g3, g4⟩ := ZcZ (nd' := ndP 7 l' 0) h
  rw [g3, g4]
  exact ⟨g1, g2, r.nd 0 (by omega)⟩
 ·have hg := hgr (by simp [Z0, Qe])
  have E : ∀ cx m, Wc s cx 8 n ty m = (if tyP m 1 = tyP m 2 then (if Wp s (usP 8 m 1) n = true ∧ Wp s (usP 8 m 2) n = true then (0, tyP m 1, XV s (QT s n (ndP 8 m 0)) (XO s (ndP 8 m 1) (ndP 8 m 2))) else (9, [], [])) else (3, [], [])) := fun _ _ => rfl
  rw [E] at h ⊢
  rw [E, t1, t2]
  split at h
  ·rename_i e
   split at h
   ·rename_i e2
    rw [if_pos e, if_pos e2, if_pos e, if_pos ⟨r.us hs 1 (by omega) hg e2.1, r.us hs 2 (by omega) hg e2.2⟩]
    exact ⟨rfl, rfl, QR.sum hs cl (QR.scale hs cl hg (r.nd 0 (by omega))) (QR.join hs cl (r.nd 1 (by omega)) (r.nd 2 (by omega)))⟩
   ·simp at h
  ·simp at h
 ·have hg := hgr (by simp [Z0, Qe])
  have E : ∀ cx m, Wc s cx 9 n ty m = (if Wp s (usP 9 m 0) n = true then Xf ((3 + n) :: (ty ++ tyP m 0)) (ndP 9 m 0) else (9, [], [])) := fun _ _ => rfl
  rw [E] at h ⊢
  rw [E, t0]
  split at h
  ·rename_i e
   obtain ⟨g1, g2, g3, g4⟩ := ZcZ (nd' := ndP 9 l' 0) h
   rw [if_pos e, if_pos (r.us hs 0 (by omega) hg e), g3, g4]
   exact ⟨g1, g2, r.nd 0 (by omega)⟩
  ·simp at h
 ·have E : ∀ cx m, Wc s cx 10 n ty m = (0, Ws (tyP m 0), XV s (ndP 10 m 0) (QT s (QF (hd (tyP m 0))).2 (ndP 10 m 1))) := fun _ _ => rfl
  rw [E, E, t0]
  have hf := k.first (by rintro rfl; simp at many)
  have ho := X8 hf.1
  have hG : s.G (QF (hd (tyP l 0))).2 := by
   have ha := hf.2.1.2.2.2.1 rfl
   have := (Kg ho.2.1 ho.2.2.1).2.2.2.2.2 (.inl ha)
   have e : hd (tyP l 0) = hd (first l) := rfl
   rw [e, this]
   exact Ke ho.1 (.inl ha)
  exact ⟨rfl, rfl, QR.sum hs cl (r.nd 0 (by omega)) (QR.scale hs cl hG (r.nd 1 (by omega)))⟩
 ·have hg := hgr (by simp [Z0, Qe])
  have E : ∀ cx m, Wc s cx 11 n ty m = Xf ((19 + n) :: tyP m 0) (QT s n (ndP 11 m 0)) := fun _ _ => rfl
  rw [E] at h ⊢
  rw [E, t0]
  obtain ⟨g1, g2, g3, g4⟩ := ZcZ (nd' := QT s n (ndP 11 l' 0)) h
  rw [g3, g4]
  exact ⟨g1, g2, QR.scale hs cl hg (r.nd 0 (by omega))⟩
 ·have hg := hgr (by simp [Z0, Qe])
  have E : ∀ cx m, Wc s cx 12 n ty m = (if Wp s (usP 12 m 1) (s.tm n (QF (hd (tyP m 0))).2) = true then (0, tyP m 1, XV s (QT s n (ndP 12 m 0)) (ndP 12 m 1)) else (9, [], [])) := fun _ _ => rfl
  rw [E] at h ⊢
  rw [E, t0, t1]
  split at h
  ·rename_i e
   rw [if_pos e, if_pos (r.us hs 1 (by omega) (GSys.Gtm t _ _) e)]
   exact ⟨rfl, rfl, QR.sum hs cl (QR.scale hs cl hg (r.nd 0 (by omega))) (r.nd 1 (by omega))⟩
  ·simp at h
variable (σ : Nat → Int → GTerm) (hc : ∀ l ∈ ctx, okL s.size l = true)
 (hσ : ∀ (ds : List (List Int)) (n : Int), (∀ l ∈ ds, okL s.size l = true) → 0 ≤ n → n < ds.length + ctx.length →
  ∃ y, Qr s (ds ++ ctx') (σ ds.length n) = .ok y ∧ y.ty = (ds ++ ctx).getD n.toNat [] ∧ QR s P ctx.length ctx'.length ds.length ((zeros (ds.length + ctx.length)).set n.toNat 1) y.needs)
include hc hσ
mutual
theorem Zmd : ∀ (g : GTerm) (ds : List (List Int)) (x : TT), (∀ l ∈ ds, okL s.size l = true) → WE (ds ++ ctx).length s.size true g = true → Qr s (ds ++ ctx) g = .ok x →
  ∃ y, Qr s (ds ++ ctx') (rnG σ ds.length g) = .ok y ∧ y.ty = x.ty ∧ QR s P ctx.length ctx'.length ds.length x.needs y.needs
 | .mk op n nl1 ty nl2 ks, ds, x, hd, hf, he => by
  have t := GSys.sys_of hs
  have hall : ∀ l ∈ ds ++ ctx, okL s.size l = true := fun l hl => (List.mem_append.1 hl).elim (hd l) (hc l)
  simp only [WE, Bool.and_eq_true] at hf
  have nd := Zdc hf.1
  rw [Qr] at he
  split at he
  ·simp at he
  ·rename_i l hl
   split at he
   ·rename_i h0
    simp only [Res.ok.injEq] at he
    subst he
    by_cases ho : op = 0
    ·subst ho
     obtain ⟨v0, v1⟩ := nd.var rfl
     simp only [rnG, if_true]
     obtain ⟨y, y1, y2, y3⟩ := hσ ds n hd v0 (by rw [List.length_append] at v1; omega)
     refine ⟨y, y1, ?_, ?_⟩
     ·rw [y2]; simp [Wc]
     ·simp only [TT.needs_mk]
      have : (Wc s (ds ++ ctx) 0 n ty l).2.2 = (zeros (ds.length + ctx.length)).set n.toNat 1 := by simp [Wc]
      rw [this]; exact y3
    ·simp only [rnG, if_neg ho]
     have hty9 : op = 9 → okL s.size ty = true := fun h9 => nd.typed (by subst h9; simp [Xs, Qe])
     have k0 : KidsOk s (ds ++ ctx).length op n [] := ⟨fun i x h => by simp at h, fun _ x h => by simp at h⟩
     obtain ⟨k, hlen⟩ := Zej t ks (ds ++ ctx) op n ty [] l hall hty9 (by simpa using hf.2) k0 hl
     obtain ⟨l', e1, e2⟩ := ZnQ ks ds op n ty [] [] l hd hty9 (by simpa using hf.2) k0 ⟨rfl, fun i x x' h => by simp at h⟩ hl
     obtain ⟨q1, q2, q3⟩ := fin_rn hs cl ho (by rw [show l.length = ks.length by simpa using hlen]; exact nd) k e2 h0
     refine ⟨.mk (Wc s (ds ++ ctx') op n ty l').2.1 (Wc s (ds ++ ctx') op n ty l').2.2 l', ?_, q2, q3⟩
     rw [Qr]
     simp only [List.length_nil] at e1
     rw [e1]
     simp only [q1, if_true]
   ·simp at he
theorem ZnQ : ∀ (ks : List GTerm) (ds : List (List Int)) (op n : Int) (ty : List Int) (acc acc' l : List TT), (∀ l ∈ ds, okL s.size l = true) → (op = 9 → okL s.size ty = true) → WR (ds ++ ctx).length s.size true op acc.length ks = true →
  KidsOk s (ds ++ ctx).length op n acc → KRel s P ctx.length ctx'.length op ds.length acc acc' → Q6 s (ds ++ ctx) op n ty acc ks = .ok l →
  ∃ l', Q6 s (ds ++ ctx') op n ty acc' (rnK σ op ds.length acc.length ks) = .ok l' ∧ KRel s P ctx.length ctx'.length op ds.length l l'
 | [], ds, op, n, ty, acc, acc', l, hd, hty, hf, k, r, he => by
  simp only [Q6, KRes.ok.injEq] at he
  subst he
  exact ⟨acc', by simp [rnK, Q6], r⟩
 | g :: ks, ds, op, n, ty, acc, acc', l, hd, hty, hf, k, r, he => by
  have t := GSys.sys_of hs
  have hall : ∀ l ∈ ds ++ ctx, okL s.size l = true := fun l hl => (List.mem_append.1 hl).elim (hd l) (hc l)
  simp only [WR, Bool.and_eq_true] at hf
  rw [Q6] at he
  split at he
  ·simp at he
  ·rename_i x hx
   split at he
   ·simp at he
   ·rename_i h1
    split at he
    ·simp at he
    ·rename_i h2
     have ext := Zpk hall hty k
     have hal : (QB op ty acc.length (first acc)).length = (Qp op acc.length).toNat := ZaN op ty acc.length (first acc)
     have hlen : (QB op ty acc.length (first acc) ++ (ds ++ ctx)).length = (ds ++ ctx).length + (Qp op acc.length).toNat := by
      rw [List.length_append, hal]; omega
     have hrg := WV op acc.length
     have hfm : WE (QB op ty acc.length (first acc) ++ (ds ++ ctx)).length s.size true g = true := by
      rw [hlen, show (((ds ++ ctx).length + (Qp op acc.length).toNat : Nat) : Int) = (ds ++ ctx).length + Qp op acc.length by omega]; exact hf.1
     have hg := Jr t g _ x ext hfm hx
     rw [hlen] at hg
     have k2 := k.snoc hg (by simpa using h1) h2
     have eL : ∀ c : List (List Int), QB op ty acc.length (first acc) ++ (ds ++ c) = (QB op ty acc.length (first acc) ++ ds) ++ c := fun c => by rw [List.append_assoc]
     rw [eL] at hfm hx ext
     obtain ⟨y, y1, y2, y3⟩ := Zmd g (QB op ty acc.length (first acc) ++ ds) x (fun l hl => ext l (List.mem_append_left _ hl)) hfm hx
     rw [List.length_append, hal] at y1 y3
     rw [← eL] at y1
     have hfirst : first acc' = first acc := r.ty 0
     have hal' : acc'.length = acc.length := r.len
     obtain ⟨l', e1, e2⟩ := ZnQ ks ds op n ty (acc ++ [x]) (acc' ++ [y]) l hd hty (by rw [show (acc ++ [x]).length = acc.length + 1 by simp]; exact hf.2) k2 (r.snoc y2 y3) he
     refine ⟨l', ?_, e2⟩
     rw [List.length_append] at e1
     simp only [rnK, Q6, hal', hfirst, y1, y2]
     rw [if_neg h1, if_neg h2]
     exact e1
end
end
end Go.Proofs.YtclfngbealdbgaaGreat
namespace Go.Proofs.YtclfngbealdbgaaGreat
open Go Go.TL
set_option linter.unusedSimpArgs false
set_option linter.unusedVariables false
set_option linter.unusedSectionVars false
set_option maxRecDepth 20000
set_option maxHeartbeats 4000000
abbrev ZmT {α : Type} (e : α → LV) (l : List α) : List (List LV) := l.map fun x => [e x]
theorem ZiH {α : Type} (v : α → Value) : ∀ (l : List α) (n : Nat) (cells : List LV) (bs : List Box), Zc9 (ZmT (fun x => .sc (v x)) l) 1 n cells bs ↔ cells = l.map (fun x => .sc (v x)) ∧ bs = []
 | [], n, cells, bs => by simp [Zc9]
 | x :: l, n, cells, bs => by
  simp only [ZmT, List.map_cons, Zc9, J6, Th]
  constructor
  ·rintro ⟨c1, b1, c2, b2, _, ⟨y, b3, ys', b4, ⟨rfl, rfl⟩, ⟨rfl, rfl⟩, rfl, rfl⟩, h2, rfl, rfl⟩
   obtain ⟨rfl, rfl⟩ := (ZiH v l _ _ _).1 h2
   simp
  ·rintro ⟨rfl, rfl⟩
   exact ⟨[.sc (v x)], [], l.map (fun x => .sc (v x)), [], rfl, ⟨.sc (v x), [], [], [], ⟨rfl, rfl⟩, ⟨rfl, rfl⟩, rfl, rfl⟩, (ZiH v l _ _ _).2 ⟨rfl, rfl⟩, rfl, rfl⟩
theorem th_sc {α : Type} (v : α → Value) {u nl : Bool} {l : List α} {n : Nat} {y : LV} {bs : List Box} : Th (.sl u nl 1 (ZmT (fun x => .sc (v x)) l)) n y bs ↔ (l = [] ∧ y = .sl false nl 1 [] ∧ bs = []) ∨
  (nl = false ∧ l ≠ [] ∧ ∃ slack cap, (l.length ≤ cap ∧ l.length * 1 + slack = cap * 1) ∧ y = .ha n 1 0 l.length cap ∧ bs = [some (l.map (fun x => .sc (v x)) ++ List.replicate slack .dead)]) := by
 simp only [Th, ZiH, List.length_map, List.map_eq_nil_iff]
 constructor
 ·rintro (⟨h1, h2, h3⟩ | ⟨h1, h2, cells, bs', slack, cap, ⟨rfl, rfl⟩, h3, h4, h5⟩)
  ·exact .inl ⟨h1, h2, h3⟩
  ·exact .inr ⟨h1, by simpa using h2, slack, cap, h3, by simpa using h4, by simpa using h5⟩
 ·rintro (⟨h1, h2, h3⟩ | ⟨h1, h2, slack, cap, h3, h4, h5⟩)
  ·exact .inl ⟨h1, h2, h3⟩
  ·exact .inr ⟨h1, by simpa using h2, _, [], slack, cap, ⟨rfl, rfl⟩, h3, by simpa using h4, by simpa using h5⟩
theorem whole_sc {α : Type} (v : α → Value) (u nl : Bool) (l : List α) (h : l = [] ∨ (u = true ∧ nl = false)) : Wo (.sl u nl 1 (ZmT (fun x => .sc (v x)) l)) := by
 simp only [Wo]
 refine ⟨?_, ?_⟩
 ·rcases h with rfl | ⟨rfl, rfl⟩
  ·left; rfl
  ·right; simp
 ·clear h
  induction l with
  | nil => simp [Xu]
  | cons x l ih => simp only [ZmT, List.map_cons, Xu, WZ, Wo]; exact ⟨⟨trivial, trivial⟩, ih⟩
@[simp] theorem bin_rem3 {a : Int} : Xi .num .rem (.sc (.int .i64 a)) (.sc (.int .i64 3)) = some (.sc (.int .i64 (a.tmod 3))) := by simp [Xi, ZZ]
end Go.Proofs.YtclfngbealdbgaaGreat
namespace Go.Proofs.YtclfngbealdbgaaGreat
open Go Go.TL
open Go.Proofs.YtclfngbealdbgaaGreat.Ty
set_option linter.unusedSimpArgs false
set_option linter.unusedVariables false
set_option linter.unusedSectionVars false
set_option maxRecDepth 20000
set_option maxHeartbeats 4000000
theorem frz_at {H : List Box} {p sz n cap : Nat} {xs : List LV} (hl : H[p]? = some (some xs)) (hx : xs.length = cap * sz) (hn : n ≤ cap) : Qt H (.ha p sz 0 n cap) = some (.sl true false sz (Qm sz n xs), H.set p none) := by
 simp only [Qt, hl]
 rw [if_pos ⟨hx, hn⟩]
theorem Zol (l : List Int) (ex : List LV) : ∀ n, n ≤ l.length → Qm 1 n (l.map N ++ ex) = (l.take n).map fun x => [N x] := by
  induction l with
  | nil => intro n hn; have : n = 0 := by simpa using hn
           subst this; rfl
  | cons a l ih =>
    intro n hn
    cases n with
    | zero => rfl
    | succ n =>
      have := ih n (by simpa using hn)
      simp only [Qm, List.map_cons, List.cons_append, List.take_succ_cons, List.take_zero, List.drop_succ_cons, List.drop_zero, this]
theorem ZgR (l : List Int) (ex : List LV) (i : Nat) (v : Int) (h : i < l.length) : splice (l.map N ++ ex) i [N v] = (l.set i v).map N ++ ex := by
 unfold splice
 rw [List.take_append_of_le_length (by simp; omega), List.drop_append_of_le_length (by simp; omega), List.set_eq_take_append_cons_drop, if_pos h]
 simp
theorem Zmf (l : List Int) (ex : List LV) (i : Nat) (v : Int) (h : i < l.length) : Qm 1 l.length (List.take i (l.map N ++ ex) ++ N v :: List.drop (i + 1) (l.map N ++ ex)) = (l.set i v).map fun x => [N x] := by
 have h1 := ZgR l ex i v h
 have e : List.take i (l.map N ++ ex) ++ N v :: List.drop (i + 1) (l.map N ++ ex) = splice (l.map N ++ ex) i [N v] := by unfold splice; simp
 rw [e, h1]
 have h2 := Zol (l.set i v) ex l.length (by simp)
 rw [h2, List.take_of_length_le (by simp)]
section
variable (D : Dr) (ok : D.ok)
include ok
theorem l1New_ok (h : List Box) : Wa Tryz.prog Zbo [D.lv] h (fun r h' => ∃ k, r = .ptr h.length 0 ∧ Yd D 0 k ∧ h' = h ++ [some [D.lv, N 0, N k]]) := by
 refine Wa.of_codeOf Zmh Qz (by simp) ⟨_, _, 0, rfl, ⟨by omega, by omega, by omega, by omega⟩, rfl⟩ ?_
 have hlen := ok.len
 simp (disch := omega) [Zfn]
 refine Wf D.bs.length 0 (fun i t h' => h' = h ∧ t 4 = N i ∧ ∃ k, t 3 = N k ∧ I64 k) (fun t h' => h' = h ∧ ∃ k, t 3 = N k ∧ I64 k) ⟨by simp, by simp, _, by simp; rfl, wrap_i64 _⟩ (by omega) ?_ ?_
 ·rintro i t1 hh hf hi ⟨rfl, e4, k, e3, hk⟩
  (have e0 := hf 0 (by kernel_rfl); clear hf; simp [] at e0)
  by_cases h1 : i < D.bs.length
  ·have hb1 : ltB (i : Int) D.bs.length = true := by rw [Qi]; omega
   simp (disch := omega) [e0, e3, e4, hb1]
   by_cases h2 : i < 4000
   ·have hb2 : ltB (i : Int) 4000 = true := by rw [Qi]; omega
    simp (disch := omega) [e0, e3, e4, hb1, hb2, idx_D (D := D) (i := i) (by omega) (by omega), Qf]
    exact ⟨by omega, and_I64 _ _⟩
   ·have hb2 : ltB (i : Int) 4000 = false := by rw [Qg]; omega
    simp (disch := omega) [e0, e3, e4, hb1, hb2]
    exact hk
  ·have hb1 : ltB (i : Int) D.bs.length = false := by rw [Qg]; omega
   simp (disch := omega) [e0, e3, e4, hb1]
   exact hk
 ·rintro t1 hh hf ⟨rfl, k, e3, hk⟩
  (have e0 := hf 0 (by kernel_rfl); clear hf; simp [] at e0)
  simp (disch := omega) [e0, e3, Qv]
  refine Q8 (.inr rfl) (by simp) ⟨by simp, k, ⟨by omega, by omega, hk.1, hk.2⟩, by simp⟩
end
theorem big_ok (D : Dr) : Qd Tryz.prog Zeb [D.lv] (· = B (ltB 1048576 D.bs.length)) := by
 refine Qd.of_codeOf ZoT Qz (by simp) ⟨_, rfl, by simp⟩ ?_
 simp (disch := omega) [Zi9]
theorem ZpQ (n1 n2 : Bool) (a b : List Int) (ha : a.length ≤ 1099511627776) : Qd Tryz.prog KB [L n1 a, L n2 b] (· = B (a == b)) := by
 generalize hq : (a == b) = q
 refine Qd.of_codeOf Zno Qz (by simp) ⟨_, rfl, by simp⟩ ?_
 simp (disch := omega) [ZgL]
 (with_reducible first | refine Qo (fun h1 => ?_) (fun h1 => ?_) | refine Qn (fun h1 => ?_) (fun h1 => ?_))
 ·simp (disch := omega) [h1]
  simp only [Qi, Qg, Ql, Qk, Qe, Qc, Bool.not_true, Bool.not_false] at h1
  refine XH a.length 0 (fun i t _ => t 5 = N i ∧ q = (a.drop i == b.drop i)) (by simp [hq]) (by omega) ?_
  rintro i t1 hh hf hi ⟨e5, hj⟩
  (have e0 := hf 0 (by kernel_rfl); have e1 := hf 1 (by kernel_rfl); clear hf; simp [] at e0 e1)
  simp (disch := omega) [e0, e1, e5]
  (with_reducible first | refine Qo (fun h6 => ?_) (fun h6 => ?_) | refine Qn (fun h6 => ?_) (fun h6 => ?_))
  ·simp only [Qi, Qg, Ql, Qk, Qe, Qc, Bool.not_true, Bool.not_false] at h6
   have hd1 := List.drop_eq_getElem_cons (l := a) (i := i) (by omega)
   have hd2 := List.drop_eq_getElem_cons (l := b) (i := i) (by omega)
   have hq2 : q = (a[i]'(by omega) == b[i]'(by omega) && (a.drop (i + 1) == b.drop (i + 1))) := by rw [hj, hd1, hd2]; rfl
   clear hd1 hd2 hj
   simp (disch := omega) [e0, e1, e5, Xh]
   repeat' (first
  | (with_reducible (first | refine Qo (fun hb_ => ?_) (fun hb_ => ?_) | refine Qn (fun hb_ => ?_) (fun hb_ => ?_)) <;> simp (disch := omega) [hb_, e0, e1, e5, Qf])
  | simp (disch := omega) [e0, e1, e5, Qf])
   all_goals simp only [Qi, Qg, Ql, Qk, Qe, Qc, Bool.not_true, Bool.not_false] at hb_
   ·exact ⟨by omega, by simp [hq2, hb_]⟩
   ·simp [hq2, hb_]
  ·simp only [Qi, Qg, Ql, Qk, Qe, Qc, Bool.not_true, Bool.not_false] at h6
   simp (disch := omega)
   rw [hj, List.drop_of_length_le (by omega), List.drop_of_length_le (by omega)]; simp
 ·simp (disch := omega) [h1]
  simp only [Qi, Qg, Ql, Qk, Qe, Qc, Bool.not_true, Bool.not_false] at h1
  rw [← hq]; simp; intro h; exact h1 (by rw [h])
end Go.Proofs.YtclfngbealdbgaaGreat
namespace Go.Proofs.YtclfngbealdbgaaGreat
open Go Go.TL
open Go.Proofs.YtclfngbealdbgaaGreat.Ty
set_option linter.unusedSimpArgs false
set_option linter.unusedVariables false
set_option maxRecDepth 20000
set_option maxHeartbeats 4000000
theorem one_of {s : GSys} (hs : s.sys = true) {a : Int} (ha : s.G a) : s.pl 0 a = a ∧ s.tm 1 a = a := by
 unfold GSys.sys at hs
 rw [Bool.and_eq_true, Yr] at hs
 have h := hs.2 a.toNat (by have := ha.1; have := ha.2; omega)
 unfold GSys.sysB at h
 rw [Bool.and_eq_true] at h
 have h := h.1
 unfold GSys.one at h
 simp only [Bool.and_eq_true, Qe] at h
 have e1 : ((a.toNat : Nat) : Int) = a := by have := ha.1; omega
 rw [e1] at h
 exact ⟨h.1.1.1.1.1, h.1.1.1.1.2⟩
theorem Zab {s : GSys} (hs : s.sys = true) : ∀ (a b : List Int), (∀ u ∈ b, s.G u) → Zew s a 1 b = XV s a b
 | [], b, _ => by simp [Zew, XV]
 | x :: a, [], _ => by simp [Zew, XV]
 | x :: a, y :: b, h => by
  have := Zab hs a b fun u hu => h u (by simp [hu])
  simp only [Zew, XV, List.zipWith_cons_cons] at this ⊢
  rw [this, (one_of hs (h y (by simp))).2]
theorem Zct {s : GSys} (hs : s.sys = true) (g : Int) : ∀ (a : List Int), Zew s (zeros a.length) g a = QT s g a
 | [] => by simp [Zew, QT]
 | x :: a => by
  have := Zct hs g a
  simp only [Zew, QT, zeros, List.length_cons, List.replicate_succ, List.zipWith_cons_cons, List.map_cons] at this ⊢
  rw [this, (one_of hs (GSys.Gtm (GSys.sys_of hs) g x)).1]
theorem WA {s : GSys} {cx : List (List Int)} {g : GTerm} (h : g.size ≤ 1000000) : (Qr s cx g).fine := by
 cases e : Qr s cx g with
 | ok x => exact trivial
 | bad f p => exact ⟨Zl g cx f p e, by have := VY g cx f p e; omega⟩
abbrev aLV (x : TT) (n4 : Bool) : LV := .agg [L false x.ty, L false x.needs, N 0, .sl false n4 1 []]
section
variable {s : GSys} (hsy : s.sys = true) (nlc : Bool) (ctx : Wx) (hcl : ctx.length ≤ 100000)
include hsy hcl
theorem Zkc (n : Int) (nl1 : Bool) (gty : List Int) (nl2 : Bool) (a b : GTerm) (x : TT) (n4 : Bool) (hxg : x.good s ctx.length) (hA : Qr s (ctx.map Prod.snd) a = .ok x) (h0 : hd x.ty = 0) (hbs : b.size ≤ 1000000)
  (hb : Qd Tryz.prog Wt [s.lv, LC nlc ctx, b.lv] (Qr s (ctx.map Prod.snd) b).told) (hbg : ∀ y, Qr s (ctx.map Prod.snd) b = .ok y → y.good s ctx.length) :
  Qd Tryz.prog ZM [s.lv, LC nlc ctx, (GTerm.mk 2 n nl1 gty nl2 [a, b]).lv, aLV x n4] (Qr s (ctx.map Prod.snd) (GTerm.mk 2 n nl1 gty nl2 [a, b])).told := by
 have t := GSys.sys_of hsy
 have T := tell_add (n := n) (nl1 := nl1) (nl2 := nl2) (gty := gty) hA hxg.1 h0 (fun y h => (hbg y h).1)
 refine Qd.of_codeOf ZaO Qz (by simp) (V5 _ fun f p h => Zl _ _ f p h) ?_
 have of := XN s 2 n nl1 gty nl2 [a, b] 1 (by simp) nlc ctx _ (WA hbs) hb
 simp only [GTerm.lv, GTerm.cells] at of
 simp (disch := omega) [Kb, Qv, Qt, GTerm.cells]
 refine Qh (Qd.low of) (by simp) ?_
 rintro r ⟨hr, lo⟩
 rw [T]
 cases hB : Qr s (ctx.map Prod.snd) b with
 | bad f p =>
  rw [hB] at hr
  simp only [ofR] at hr
  obtain ⟨hf, u1, u2, u4, n4', rfl⟩ := hr
  have hf0 : eqB f 0 = false := by rw [Qc]; exact hf
  simp (disch := omega) [Qv, Qt, hf0]
  exact ⟨hf, false, false, false, n4', by simp⟩
 | ok y =>
  have hyg := hbg y hB
  rw [hB] at hr
  simp only [ofR] at hr
  obtain ⟨u1, u2, u4, n4', rfl⟩ := hr
  have hz : eqB 0 0 = true := by rw [Qe]
  have hy := X8 hyg.1
  have hyi : QQ 1 (L false y.ty) 0 = some (.rp [N (hd y.ty)]) := Z4 hy.2.2.2.1
  by_cases q : hd y.ty = 0
  ·have hn := okL_none hyg.1 (by rw [q]; decide)
   rw [q] at hn
   have hq0 : eqB (hd y.ty) 0 = true := by rw [Qe]; exact q
   simp (disch := omega) [Qv, Qt, hz, hyi, hq0]
   refine Qa (Zc t false false x.needs 1 (GSys.G1 t) y.needs (by rw [hxg.2.1]; omega) (by rw [hxg.2.1, hyg.2.1]) hxg.2.2 hyg.2.2) (by simp) ?_
   rw [Zab hsy _ _ hyg.2.2]
   simp (disch := omega) [q, hn]
   exact ⟨false, true, true, true, by simp⟩
  ·have hq0 : eqB (hd y.ty) 0 = false := by rw [Qc]; exact q
   simp (disch := omega) [Qv, Qt, hz, hyi, hq0]
   refine Qh (Qd.low (Xc 2 (by omega))) (by simp) ?_
   rintro r ⟨⟨h3, v1, v2, v4, m4, rfl⟩, lo⟩
   simp (disch := omega) [q]
   exact ⟨by omega, v1, v2, v4, m4, by simp⟩
theorem Zme (n : Int) (nl1 : Bool) (gty : List Int) (nl2 : Bool) (a b c : GTerm) (x : TT) (n4 : Bool) (hxg : x.good s ctx.length) (hA : Qr s (ctx.map Prod.snd) a = .ok x) (h0 : hd x.ty = 0) (hbs : b.size ≤ 1000000) (hcs : c.size ≤ 1000000)
  (hb : Qd Tryz.prog Wt [s.lv, LC nlc ctx, b.lv] (Qr s (ctx.map Prod.snd) b).told) (hbg : ∀ y, Qr s (ctx.map Prod.snd) b = .ok y → y.good s ctx.length)
  (hc : Qd Tryz.prog Wt [s.lv, LC nlc ctx, c.lv] (Qr s (ctx.map Prod.snd) c).told) (hcg : ∀ y, Qr s (ctx.map Prod.snd) c = .ok y → y.good s ctx.length) :
  Qd Tryz.prog ZM [s.lv, LC nlc ctx, (GTerm.mk 3 n nl1 gty nl2 [a, b, c]).lv, aLV x n4] (Qr s (ctx.map Prod.snd) (GTerm.mk 3 n nl1 gty nl2 [a, b, c])).told := by
 have t := GSys.sys_of hsy
 have T := tell_if (n := n) (nl1 := nl1) (nl2 := nl2) (gty := gty) (b := b) (c := c) hA hxg.1 h0
 refine Qd.of_codeOf ZaO Qz (by simp) (V5 _ fun f p h => Zl _ _ f p h) ?_
 have of := XN s 3 n nl1 gty nl2 [a, b, c] 1 (by simp) nlc ctx _ (WA hbs) hb
 have of2 := XN s 3 n nl1 gty nl2 [a, b, c] 2 (by simp) nlc ctx _ (WA hcs) hc
 simp only [GTerm.lv, GTerm.cells] at of of2
 have hz : eqB 0 0 = true := by rw [Qe]
 have e32 : eqB 3 2 = false := by rw [Qc]; omega
 simp (disch := omega) [Kb, Qv, Qt, GTerm.cells]
 refine Qh (Qd.low of) (by simp) ?_
 rintro r ⟨hr, lo⟩
 rw [T]
 cases hB : Qr s (ctx.map Prod.snd) b with
 | bad f p =>
  rw [hB] at hr
  simp only [ofR] at hr
  obtain ⟨hf, u1, u2, u4, n4', rfl⟩ := hr
  have hf0 : eqB f 0 = false := by rw [Qc]; exact hf
  simp (disch := omega) [Qv, Qt, hf0]
  exact ⟨hf, false, false, false, n4', by simp⟩
 | ok y =>
  have hyg := hbg y hB
  rw [hB] at hr
  simp only [ofR] at hr
  obtain ⟨u1, u2, u4, n4', rfl⟩ := hr
  simp (disch := omega) [Qv, Qt, hz, e32]
  refine Qh (Qd.low of2) (by simp) ?_
  rintro r ⟨hr, lo⟩
  cases hC : Qr s (ctx.map Prod.snd) c with
  | bad f p =>
   rw [hC] at hr
   simp only [ofR] at hr
   obtain ⟨hf, v1, v2, v4, m4', rfl⟩ := hr
   have hf0 : eqB f 0 = false := by rw [Qc]; exact hf
   simp (disch := omega) [Qv, Qt, hf0]
   exact ⟨hf, false, false, false, m4', by simp⟩
  | ok z =>
   have hzg := hcg z hC
   rw [hC] at hr
   simp only [ofR] at hr
   obtain ⟨v1, v2, v4, m4', rfl⟩ := hr
   simp (disch := omega) [Qv, Qt, hz]
   have ly := QG hyg.1
   have sm := ZaZ false false y.ty z.ty (by omega)
   refine Qa sm (by simp) ?_
   cases he : (y.ty == z.ty)
   ·have he' : y.ty ≠ z.ty := by simpa using he
    simp (disch := omega)
    refine Qh (Qd.low (Xc 3 (by omega))) (by simp) ?_
    rintro r ⟨⟨h3, w1, w2, w4, k4, rfl⟩, lo⟩
    simp (disch := omega) [he']
    exact ⟨by omega, w1, w2, w4, k4, by simp⟩
   ·have he' : y.ty = z.ty := by simpa using he
    simp (disch := omega)
    have jn := ZkW t false false y.needs z.needs (by rw [hyg.2.1]; omega) (by rw [hyg.2.1, hzg.2.1]) hyg.2.2 hzg.2.2
    refine Qa jn (by simp) ?_
    have jl := Zbg (s := s) hyg.2.1 hzg.2.1
    have jg : ∀ u ∈ XO s y.needs z.needs, s.G u := fun u hu => ZhQ hsy u hu hyg.2.2 hzg.2.2
    simp (disch := omega)
    have sm := Zc t false false x.needs 1 (GSys.G1 t) (XO s y.needs z.needs) (by rw [hxg.2.1]; omega) (by rw [hxg.2.1, jl]) hxg.2.2 jg
    refine Qa sm (by simp) ?_
    rw [Zab hsy _ _ jg]
    simp (disch := omega) [he']
    exact ⟨false, true, true, true, by simp [he']⟩
end
end Go.Proofs.YtclfngbealdbgaaGreat
namespace Go.Proofs.YtclfngbealdbgaaGreat
open Go Go.TL
open Go.Proofs.YtclfngbealdbgaaGreat.Ty
set_option linter.unusedSimpArgs false
set_option linter.unusedVariables false
set_option maxRecDepth 20000
set_option maxHeartbeats 4000000
theorem used1 {s : GSys} {l : List Int} {g : Int} (h : 1 ≤ l.length) : Wp s (l.take 1) g = s.le (l.getD 0 0) g := by
 cases l with
 | nil => simp at h
 | cons a l => simp [Wp]
theorem used2 {s : GSys} {l : List Int} {g : Int} (h : 2 ≤ l.length) : Wp s (l.take 2) g = (s.le (l.getD 0 0) g && s.le (l.getD 1 0) g) := by
 match l, h with
 | [], h => simp at h
 | [_], h => simp at h
 | a :: b :: l, _ => simp [Wp]
theorem Zf9 {s : GSys} {l : List Int} {i : Nat} (h : ∀ u ∈ l, s.G u) (hi : i < l.length) : s.G (l.getD i 0) := by
 rw [List.getD_eq_getElem?_getD, List.getElem?_eq_getElem hi]; exact h _ (List.getElem_mem _)
theorem Zlc {l : List Int} {i : Nat} (hi : i < l.length) : QQ 1 (L false l) (i : Int) = some (.rp [N (l.getD i 0)]) := by
 have := Xh l false false i (by omega) (by omega)
 simpa using this
section
variable {s : GSys} (hsy : s.sys = true) (nlc : Bool) (ctx : Wx) (hcl : ctx.length ≤ 100000)
include hsy hcl
theorem Zkr (n : Int) (nl1 : Bool) (gty : List Int) (nl2 : Bool) (a b : GTerm) (x : TT) (n4 : Bool) (hn : s.G n) (hxg : x.good s ctx.length) (hA : Qr s (ctx.map Prod.snd) a = .ok x) (hbs : b.size ≤ 1000000)
  (hb : hd x.ty = 1 → Qd Tryz.prog Wt [s.lv, LC false ((false, Ws x.ty) :: (false, QI x.ty) :: ctx), b.lv] (Qr s (Ws x.ty :: QI x.ty :: ctx.map Prod.snd) b).told)
  (hbg : hd x.ty = 1 → ∀ y, Qr s (Ws x.ty :: QI x.ty :: ctx.map Prod.snd) b = .ok y → y.good s (ctx.length + 2)) :
  Qd Tryz.prog ZA [s.lv, LC nlc ctx, (GTerm.mk 5 n nl1 gty nl2 [a, b]).lv, aLV x n4] (Qr s (ctx.map Prod.snd) (GTerm.mk 5 n nl1 gty nl2 [a, b])).told := by
 have t := GSys.sys_of hsy
 have T := Zpo (n := n) (nl1 := nl1) (nl2 := nl2) (gty := gty) (b := b) hA hxg.1
 refine Qd.of_codeOf VL Qz (by simp) (V5 _ fun f p h => Zl _ _ f p h) ?_
 rw [T]
 have hx := X8 hxg.1
 have hxi : QQ 1 (L false x.ty) 0 = some (.rp [N (hd x.ty)]) := Z4 hx.2.2.2.1
 have e55 : eqB 5 5 = true := by rw [Qe]
 have e58 : eqB 5 8 = false := by rw [Qc]; omega
 have e512 : eqB 5 12 = false := by rw [Qc]; omega
 have hz : eqB 0 0 = true := by rw [Qe]
 by_cases q : hd x.ty = 1
 ·have hq : eqB (hd x.ty) 1 = true := by rw [Qe]; exact q
  have hk : Wv (hd x.ty) = some 2 := by rw [q]; exact Xo.1
  simp (disch := omega) [X7, Qv, Qt, GTerm.cells, hxi, hq, e55, e58, e512]
  refine Qa (XZ t (GSys.G1 t) hn) (by simp) ?_
  rw [if_pos q]
  cases hl : s.le 1 n
  ·simp (disch := omega)
   refine Qh (Qd.low (Xc 8 (by omega))) (by simp) ?_
   rintro r ⟨⟨h3, w1, w2, w4, k4, rfl⟩, lo⟩
   simp (disch := omega)
   exact ⟨by omega, w1, w2, w4, k4, by simp⟩
  ·have p0 := XM hxg.1 0 (.inr hk)
   have p1 := XM hxg.1 1 (.inr hk)
   simp (disch := omega)
   refine Qa p0 (by simp) ?_
   simp (disch := omega) [Qm]
   refine Qa p1 (by simp) ?_
   simp (disch := omega) [Qm]
   refine Qa p0 (by simp) ?_
   simp (disch := omega) [Qm]
   have w := Yg nlc false ctx [(false, Ws x.ty), (false, QI x.ty)] (by omega) (by simp)
   simp only [List.map_cons, List.map_nil, List.cons_append, List.nil_append] at w
   refine Qa w (by simp) ?_
   have of := XN s 5 n nl1 gty nl2 [a, b] 1 (by simp) false ((false, Ws x.ty) :: (false, QI x.ty) :: ctx) _ (WA hbs) (hb q)
   simp only [GTerm.lv, GTerm.cells, List.map_cons] at of
   simp (disch := omega) [Qm]
   refine Qh (Qd.low of) (by simp) ?_
   rintro r ⟨hr, lo⟩
   cases hB : Qr s (Ws x.ty :: QI x.ty :: ctx.map Prod.snd) b with
   | bad f p =>
    rw [hB] at hr
    simp only [ofR] at hr
    obtain ⟨hf, u1, u2, u4, n4', rfl⟩ := hr
    have hf0 : eqB f 0 = false := by rw [Qc]; exact hf
    simp (disch := omega) [Qv, Qt, hf0]
    exact ⟨hf, false, false, false, n4', by simp⟩
   | ok y =>
    have hyg := hbg q y hB
    rw [hB] at hr
    simp only [ofR] at hr
    obtain ⟨u1, u2, u4, n4', rfl⟩ := hr
    have hyl := hyg.2.1
    have c2 : Ja 1 (L false y.needs) (some 2) none none = some (L false (y.needs.drop 2)) := Zd (k := 2) (by omega)
    have i0 : QQ 1 (L false y.needs) 0 = some (.rp [N (y.needs.getD 0 0)]) := Zlc (i := 0) (by omega)
    have i1 : QQ 1 (L false y.needs) 1 = some (.rp [N (y.needs.getD 1 0)]) := Zlc (i := 1) (by omega)
    have g0 := Zf9 hyg.2.2 (show 0 < y.needs.length by omega)
    have g1 := Zf9 hyg.2.2 (show 1 < y.needs.length by omega)
    have cp := ZL false (y.needs.drop 2) (by simp; omega)
    have dl : (y.needs.drop 2).length = ctx.length := by simp; omega
    have dg : ∀ u ∈ y.needs.drop 2, s.G u := fun u hu => hyg.2.2 u (List.mem_of_mem_drop hu)
    have us := used2 (s := s) (l := y.needs) (g := n) (by omega)
    generalize y.needs.getD 0 0 = y0 at *
    generalize y.needs.getD 1 0 = y1 at *
    obtain ⟨yr, hyr⟩ : ∃ yr, yr = y.needs.drop 2 := ⟨_, rfl⟩
    rw [← hyr] at c2 cp dl dg
    simp (disch := omega) [Qv, Qt, hz, c2]
    refine Qa cp (by simp) ?_
    simp (disch := omega) [e512, e55, i1]
    refine Qa (XZ t g1 hn) (by simp) ?_
    cases hu1 : s.le y1 n
    ·simp (disch := omega) [i0]
     refine Qh (Qd.low (Xc 9 (by omega))) (by simp) ?_
     rintro r ⟨⟨h3, w1, w2, w4, k4, rfl⟩, lo⟩
     simp (disch := omega) [us, hu1]
     exact ⟨by omega, w1, w2, w4, k4, by simp⟩
    ·simp (disch := omega) [i0]
     refine Qa (XZ t g0 hn) (by simp) ?_
     cases hu0 : s.le y0 n
     ·simp (disch := omega)
      refine Qh (Qd.low (Xc 9 (by omega))) (by simp) ?_
      rintro r ⟨⟨h3, w1, w2, w4, k4, rfl⟩, lo⟩
      simp (disch := omega) [us, hu1, hu0]
      exact ⟨by omega, w1, w2, w4, k4, by simp⟩
     ·have zr := Vp ctx.length (by omega)
      have sc := Zc t false false (zeros ctx.length) n hn x.needs (by simp [zeros]; omega) (by rw [hxg.2.1]; simp [zeros]) (VP t _).2 hxg.2.2
      have e1 := Zct hsy n x.needs
      rw [hxg.2.1] at e1
      rw [e1] at sc
      have so := X5 t (g := n) hxg.2.1
      have s2 := Zc t false false (QT s n x.needs) 1 (GSys.G1 t) yr (by rw [so.1]; omega) (by rw [so.1, dl]) so.2 dg
      rw [Zab hsy _ _ dg] at s2
      simp (disch := omega)
      refine Qa zr (by simp) ?_
      simp (disch := omega)
      refine Qa sc (by simp) ?_
      simp (disch := omega)
      refine Qa s2 (by simp) ?_
      simp (disch := omega) [us, hu1, hu0]
      exact ⟨false, true, true, true, by simp [hyr]⟩
 ·have hq : eqB (hd x.ty) 1 = false := by rw [Qc]; exact q
  rw [if_neg q]
  simp (disch := omega) [X7, Qv, Qt, GTerm.cells, hxi, hq, e55, e58, e512]
  refine Qh (Qd.low (Xc 4 (by omega))) (by simp) ?_
  rintro r ⟨⟨h3, w1, w2, w4, k4, rfl⟩, lo⟩
  simp (disch := omega)
  exact ⟨by omega, w1, w2, w4, k4, by simp⟩
theorem ZlN (n : Int) (nl1 : Bool) (gty : List Int) (nl2 : Bool) (a b : GTerm) (x : TT) (n4 : Bool) (hn : s.G n) (hxg : x.good s ctx.length) (hA : Qr s (ctx.map Prod.snd) a = .ok x) (hbs : b.size ≤ 1000000)
  (hb : W4 (hd x.ty) = true → Qd Tryz.prog Wt [s.lv, LC false ((false, QI x.ty) :: ctx), b.lv] (Qr s (QI x.ty :: ctx.map Prod.snd) b).told)
  (hbg : W4 (hd x.ty) = true → ∀ y, Qr s (QI x.ty :: ctx.map Prod.snd) b = .ok y → y.good s (ctx.length + 1)) :
  Qd Tryz.prog ZA [s.lv, LC nlc ctx, (GTerm.mk 12 n nl1 gty nl2 [a, b]).lv, aLV x n4] (Qr s (ctx.map Prod.snd) (GTerm.mk 12 n nl1 gty nl2 [a, b])).told := by
 have t := GSys.sys_of hsy
 have T := Zqt (n := n) (nl1 := nl1) (nl2 := nl2) (gty := gty) (b := b) hA hxg.1
 refine Qd.of_codeOf VL Qz (by simp) (V5 _ fun f p h => Zl _ _ f p h) ?_
 rw [T]
 have hx := X8 hxg.1
 have hxi : QQ 1 (L false x.ty) 0 = some (.rp [N (hd x.ty)]) := Z4 hx.2.2.2.1
 have e55 : eqB 12 5 = false := by rw [Qc]; omega
 have e58 : eqB 12 8 = false := by rw [Qc]; omega
 have e512 : eqB 12 12 = true := by rw [Qe]
 have hz : eqB 0 0 = true := by rw [Qe]
 by_cases q : W4 (hd x.ty) = true
 ·have hk : Wv (hd x.ty) = some 1 := Zdk q
  have hsg : (QF (hd x.ty)).2 = W1 (hd x.ty) := (Kg hx.2.1 hx.2.2.1).2.2.2.2.2 (.inr q)
  have hgc := Ke hx.1 (.inr q)
  have hgG : s.G (W1 (hd x.ty)) := hgc
  rw [hsg]
  simp (disch := omega) [X7, Qv, Qt, GTerm.cells, hxi, e55, e58, e512]
  refine Qa (Zms (hd x.ty)) (by simp) ?_
  simp (disch := omega) [q]
  refine Qa (XZ t (GSys.G1 t) hn) (by simp) ?_
  cases hl : s.le 1 n
  ·simp (disch := omega)
   refine Qh (Qd.low (Xc 8 (by omega))) (by simp) ?_
   rintro r ⟨⟨h3, w1, w2, w4, k4, rfl⟩, lo⟩
   simp (disch := omega)
   exact ⟨by omega, w1, w2, w4, k4, by simp⟩
  ·have p0 := XM hxg.1 0 (.inl hk)
   simp (disch := omega)
   refine Qa p0 (by simp) ?_
   simp (disch := omega) [Qm, e55]
   have w := Yg nlc false ctx [(false, QI x.ty)] (by omega) (by simp)
   simp only [List.map_cons, List.map_nil, List.cons_append, List.nil_append] at w
   refine Qa w (by simp) ?_
   have of := XN s 12 n nl1 gty nl2 [a, b] 1 (by simp) false ((false, QI x.ty) :: ctx) _ (WA hbs) (hb q)
   simp only [GTerm.lv, GTerm.cells, List.map_cons] at of
   simp (disch := omega) [Qm]
   refine Qh (Qd.low of) (by simp) ?_
   rintro r ⟨hr, lo⟩
   cases hB : Qr s (QI x.ty :: ctx.map Prod.snd) b with
   | bad f p =>
    rw [hB] at hr
    simp only [ofR] at hr
    obtain ⟨hf, u1, u2, u4, n4', rfl⟩ := hr
    have hf0 : eqB f 0 = false := by rw [Qc]; exact hf
    simp (disch := omega) [Qv, Qt, hf0]
    exact ⟨hf, false, false, false, n4', by simp⟩
   | ok y =>
    have hyg := hbg q y hB
    rw [hB] at hr
    simp only [ofR] at hr
    obtain ⟨u1, u2, u4, n4', rfl⟩ := hr
    have hyl := hyg.2.1
    have c2 : Ja 1 (L false y.needs) (some 1) none none = some (L false (y.needs.drop 1)) := Zd (k := 1) (by omega)
    have i0 : QQ 1 (L false y.needs) 0 = some (.rp [N (y.needs.getD 0 0)]) := Zlc (i := 0) (by omega)
    have g0 := Zf9 hyg.2.2 (show 0 < y.needs.length by omega)
    have cp := ZL false (y.needs.drop 1) (by simp; omega)
    have dl : (y.needs.drop 1).length = ctx.length := by simp; omega
    have dg : ∀ u ∈ y.needs.drop 1, s.G u := fun u hu => hyg.2.2 u (List.mem_of_mem_drop hu)
    have us := used1 (s := s) (l := y.needs) (g := s.tm n (W1 (hd x.ty))) (by omega)
    generalize y.needs.getD 0 0 = y0 at *
    obtain ⟨yr, hyr⟩ : ∃ yr, yr = y.needs.drop 1 := ⟨_, rfl⟩
    rw [← hyr] at c2 cp dl dg
    simp (disch := omega) [Qv, Qt, hz, c2]
    refine Qa cp (by simp) ?_
    simp (disch := omega) [e512]
    refine Qa (ZcJ (hd x.ty) (by unfold I64; omega) hx.2.1) (by simp) ?_
    simp (disch := omega)
    refine Qa (ZaJ t hn hgG) (by simp) ?_
    simp (disch := omega) [i0]
    refine Qa (XZ t g0 (GSys.Gtm t _ _)) (by simp) ?_
    cases hu0 : s.le y0 (s.tm n (W1 (hd x.ty)))
    ·simp (disch := omega)
     refine Qh (Qd.low (Xc 9 (by omega))) (by simp) ?_
     rintro r ⟨⟨h3, w1, w2, w4, k4, rfl⟩, lo⟩
     simp (disch := omega) [us, hu0]
     exact ⟨by omega, w1, w2, w4, k4, by simp⟩
    ·have zr := Vp ctx.length (by omega)
     have sc := Zc t false false (zeros ctx.length) n hn x.needs (by simp [zeros]; omega) (by rw [hxg.2.1]; simp [zeros]) (VP t _).2 hxg.2.2
     have e1 := Zct hsy n x.needs
     rw [hxg.2.1] at e1
     rw [e1] at sc
     have so := X5 t (g := n) hxg.2.1
     have s2 := Zc t false false (QT s n x.needs) 1 (GSys.G1 t) yr (by rw [so.1]; omega) (by rw [so.1, dl]) so.2 dg
     rw [Zab hsy _ _ dg] at s2
     simp (disch := omega)
     refine Qa zr (by simp) ?_
     simp (disch := omega)
     refine Qa sc (by simp) ?_
     simp (disch := omega)
     refine Qa s2 (by simp) ?_
     simp (disch := omega) [us, hu0]
     exact ⟨false, true, true, true, by simp [hyr]⟩
 ·have q' : W4 (hd x.ty) = false := by simpa using q
  rw [if_neg q]
  simp (disch := omega) [X7, Qv, Qt, GTerm.cells, hxi, e55, e58, e512]
  refine Qa (Zms (hd x.ty)) (by simp) ?_
  simp (disch := omega) [q']
  refine Qh (Qd.low (Xc 7 (by omega))) (by simp) ?_
  rintro r ⟨⟨h3, w1, w2, w4, k4, rfl⟩, lo⟩
  simp (disch := omega)
  exact ⟨by omega, w1, w2, w4, k4, by simp⟩
theorem ZlF (n : Int) (nl1 : Bool) (gty : List Int) (nl2 : Bool) (a b c : GTerm) (x : TT) (n4 : Bool) (hn : s.G n) (hxg : x.good s ctx.length) (hA : Qr s (ctx.map Prod.snd) a = .ok x) (hbs : b.size ≤ 1000000) (hcs : c.size ≤ 1000000)
  (hb : hd x.ty = 2 → Qd Tryz.prog Wt [s.lv, LC false ((false, QI x.ty) :: ctx), b.lv] (Qr s (QI x.ty :: ctx.map Prod.snd) b).told)
  (hbg : hd x.ty = 2 → ∀ y, Qr s (QI x.ty :: ctx.map Prod.snd) b = .ok y → y.good s (ctx.length + 1))
  (hc : hd x.ty = 2 → Qd Tryz.prog Wt [s.lv, LC false ((false, Ws x.ty) :: ctx), c.lv] (Qr s (Ws x.ty :: ctx.map Prod.snd) c).told)
  (hcg : hd x.ty = 2 → ∀ y, Qr s (Ws x.ty :: ctx.map Prod.snd) c = .ok y → y.good s (ctx.length + 1)) :
  Qd Tryz.prog ZA [s.lv, LC nlc ctx, (GTerm.mk 8 n nl1 gty nl2 [a, b, c]).lv, aLV x n4] (Qr s (ctx.map Prod.snd) (GTerm.mk 8 n nl1 gty nl2 [a, b, c])).told := by
 have t := GSys.sys_of hsy
 have T := Zqi (n := n) (nl1 := nl1) (nl2 := nl2) (gty := gty) (b := b) (c := c) hA hxg.1
 refine Qd.of_codeOf VL Qz (by simp) (V5 _ fun f p h => Zl _ _ f p h) ?_
 rw [T]
 have hx := X8 hxg.1
 have hxi : QQ 1 (L false x.ty) 0 = some (.rp [N (hd x.ty)]) := Z4 hx.2.2.2.1
 have e55 : eqB 8 5 = false := by rw [Qc]; omega
 have e58 : eqB 8 8 = true := by rw [Qe]
 have e512 : eqB 8 12 = false := by rw [Qc]; omega
 have hz : eqB 0 0 = true := by rw [Qe]
 by_cases q : hd x.ty = 2
 ·have hq : eqB (hd x.ty) 2 = true := by rw [Qe]; exact q
  have hk : Wv (hd x.ty) = some 2 := by rw [q]; exact Xo.2
  simp (disch := omega) [X7, Qv, Qt, GTerm.cells, hxi, hq, e55, e58, e512]
  refine Qa (XZ t (GSys.G1 t) hn) (by simp) ?_
  rw [if_pos q]
  cases hl : s.le 1 n
  ·simp (disch := omega)
   refine Qh (Qd.low (Xc 8 (by omega))) (by simp) ?_
   rintro r ⟨⟨h3, w1, w2, w4, k4, rfl⟩, lo⟩
   simp (disch := omega)
   exact ⟨by omega, w1, w2, w4, k4, by simp⟩
  ·have p0 := XM hxg.1 0 (.inr hk)
   have p1 := XM hxg.1 1 (.inr hk)
   simp (disch := omega)
   refine Qa p0 (by simp) ?_
   simp (disch := omega) [Qm, e55]
   have w := Yg nlc false ctx [(false, QI x.ty)] (by omega) (by simp)
   have w2 := Yg nlc false ctx [(false, Ws x.ty)] (by omega) (by simp)
   simp only [List.map_cons, List.map_nil, List.cons_append, List.nil_append] at w w2
   refine Qa w (by simp) ?_
   have of := XN s 8 n nl1 gty nl2 [a, b, c] 1 (by simp) false ((false, QI x.ty) :: ctx) _ (WA hbs) (hb q)
   have of2 := XN s 8 n nl1 gty nl2 [a, b, c] 2 (by simp) false ((false, Ws x.ty) :: ctx) _ (WA hcs) (hc q)
   simp only [GTerm.lv, GTerm.cells, List.map_cons] at of of2
   simp (disch := omega) [Qm]
   refine Qh (Qd.low of) (by simp) ?_
   rintro r ⟨hr, lo⟩
   cases hB : Qr s (QI x.ty :: ctx.map Prod.snd) b with
   | bad f p =>
    rw [hB] at hr
    simp only [ofR] at hr
    obtain ⟨hf, u1, u2, u4, n4', rfl⟩ := hr
    have hf0 : eqB f 0 = false := by rw [Qc]; exact hf
    simp (disch := omega) [Qv, Qt, hf0]
    exact ⟨hf, false, false, false, n4', by simp⟩
   | ok y =>
    have hyg := hbg q y hB
    rw [hB] at hr
    simp only [ofR] at hr
    obtain ⟨u1, u2, u4, n4', rfl⟩ := hr
    have hyl := hyg.2.1
    have c2 : Ja 1 (L false y.needs) (some 1) none none = some (L false (y.needs.drop 1)) := Zd (k := 1) (by omega)
    have i0 : QQ 1 (L false y.needs) 0 = some (.rp [N (y.needs.getD 0 0)]) := Zlc (i := 0) (by omega)
    have g0 := Zf9 hyg.2.2 (show 0 < y.needs.length by omega)
    have cp := ZL false (y.needs.drop 1) (by simp; omega)
    have dl : (y.needs.drop 1).length = ctx.length := by simp; omega
    have dg : ∀ u ∈ y.needs.drop 1, s.G u := fun u hu => hyg.2.2 u (List.mem_of_mem_drop hu)
    have us := used1 (s := s) (l := y.needs) (g := n) (by omega)
    generalize y.needs.getD 0 0 = y0 at *
    obtain ⟨yr, hyr⟩ : ∃ yr, yr = y.needs.drop 1 := ⟨_, rfl⟩
    rw [← hyr] at c2 cp dl dg
    simp (disch := omega) [Qv, Qt, hz, c2]
    refine Qa cp (by simp) ?_
    simp (disch := omega) [e512, e55, e58]
    refine Qa p1 (by simp) ?_
    simp (disch := omega) [Qm]
    refine Qa w2 (by simp) ?_
    simp (disch := omega) [Qm]
    refine Qh (Qd.low of2) (by simp) ?_
    rintro r ⟨hr, lo⟩
    cases hC : Qr s (Ws x.ty :: ctx.map Prod.snd) c with
    | bad f p =>
     rw [hC] at hr
     simp only [ofR] at hr
     obtain ⟨hf, v1, v2, v4, m4', rfl⟩ := hr
     have hf0 : eqB f 0 = false := by rw [Qc]; exact hf
     simp (disch := omega) [Qv, Qt, hf0]
     exact ⟨hf, false, false, false, m4', by simp⟩
    | ok z =>
     have hzg := hcg q z hC
     rw [hC] at hr
     simp only [ofR] at hr
     obtain ⟨v1, v2, v4, m4', rfl⟩ := hr
     have hzl := hzg.2.1
     have d2 : Ja 1 (L false z.needs) (some 1) none none = some (L false (z.needs.drop 1)) := Zd (k := 1) (by omega)
     have j0 : QQ 1 (L false z.needs) 0 = some (.rp [N (z.needs.getD 0 0)]) := Zlc (i := 0) (by omega)
     have k0 := Zf9 hzg.2.2 (show 0 < z.needs.length by omega)
     have el : (z.needs.drop 1).length = ctx.length := by simp; omega
     have eg : ∀ u ∈ z.needs.drop 1, s.G u := fun u hu => hzg.2.2 u (List.mem_of_mem_drop hu)
     have vs := used1 (s := s) (l := z.needs) (g := n) (by omega)
     generalize z.needs.getD 0 0 = z0 at *
     obtain ⟨zr, hzr⟩ : ∃ zr, zr = z.needs.drop 1 := ⟨_, rfl⟩
     rw [← hzr] at d2 el eg
     have ly := QG hyg.1
     simp (disch := omega) [Qv, Qt, hz]
     have sm := ZaZ false false y.ty z.ty (by omega)
     refine Qa sm (by simp) ?_
     cases he : (y.ty == z.ty)
     ·have he' : y.ty ≠ z.ty := by simpa using he
      simp (disch := omega)
      refine Qh (Qd.low (Xc 3 (by omega))) (by simp) ?_
      rintro r ⟨⟨h3, w1, w2, w4, k4, rfl⟩, lo⟩
      simp (disch := omega) [he']
      exact ⟨by omega, w1, w2, w4, k4, by simp⟩
     ·have he' : y.ty = z.ty := by simpa using he
      simp (disch := omega) [j0]
      refine Qa (XZ t k0 hn) (by simp) ?_
      simp (disch := omega) [d2]
      have jn := ZkW t false false yr zr (by omega) (by omega) dg eg
      refine Qa jn (by simp) ?_
      have jl := Zbg (s := s) dl el
      have jg : ∀ u ∈ XO s yr zr, s.G u := fun u hu => ZhQ hsy u hu dg eg
      cases hv0 : s.le z0 n
      ·simp (disch := omega)
       refine Qh (Qd.low (Xc 9 (by omega))) (by simp) ?_
       rintro r ⟨⟨h3, w1, w2, w4, k4, rfl⟩, lo⟩
       simp (disch := omega) [us, vs, hv0, he']
       exact ⟨by omega, w1, w2, w4, k4, by simp⟩
      ·simp (disch := omega) [i0]
       refine Qa (XZ t g0 hn) (by simp) ?_
       cases hu0 : s.le y0 n
       ·simp (disch := omega)
        refine Qh (Qd.low (Xc 9 (by omega))) (by simp) ?_
        rintro r ⟨⟨h3, w1, w2, w4, k4, rfl⟩, lo⟩
        simp (disch := omega) [us, vs, hu0, hv0, he']
        exact ⟨by omega, w1, w2, w4, k4, by simp⟩
       ·have zz := Vp ctx.length (by omega)
        have sc := Zc t false false (zeros ctx.length) n hn x.needs (by simp [zeros]; omega) (by rw [hxg.2.1]; simp [zeros]) (VP t _).2 hxg.2.2
        have e1 := Zct hsy n x.needs
        rw [hxg.2.1] at e1
        rw [e1] at sc
        have so := X5 t (g := n) hxg.2.1
        have s2 := Zc t false false (QT s n x.needs) 1 (GSys.G1 t) (XO s yr zr) (by rw [so.1]; omega) (by rw [so.1, jl]) so.2 jg
        rw [Zab hsy _ _ jg] at s2
        simp (disch := omega)
        refine Qa zz (by simp) ?_
        simp (disch := omega)
        refine Qa sc (by simp) ?_
        simp (disch := omega)
        refine Qa s2 (by simp) ?_
        simp (disch := omega) [us, vs, hu0, hv0, he']
        exact ⟨false, true, true, true, by simp [hyr, hzr, he']⟩
 ·have hq : eqB (hd x.ty) 2 = false := by rw [Qc]; exact q
  rw [if_neg q]
  simp (disch := omega) [X7, Qv, Qt, GTerm.cells, hxi, hq, e55, e58, e512]
  refine Qh (Qd.low (Xc 5 (by omega))) (by simp) ?_
  rintro r ⟨⟨h3, w1, w2, w4, k4, rfl⟩, lo⟩
  simp (disch := omega)
  exact ⟨by omega, w1, w2, w4, k4, by simp⟩
end
end Go.Proofs.YtclfngbealdbgaaGreat
namespace Go.Proofs.YtclfngbealdbgaaGreat
open Go Go.TL
open Go.Proofs.YtclfngbealdbgaaGreat.Ty
set_option linter.unusedSimpArgs false
set_option linter.unusedVariables false
set_option maxRecDepth 20000
set_option maxHeartbeats 4000000
theorem kids0 {ks : List GTerm} (h : (ks.length : Int) = 0) : ks = [] := by cases ks with
 | nil => rfl
 | cons a l => simp at h; omega
theorem kids1 {ks : List GTerm} (h : (ks.length : Int) = 1) : ∃ a, ks = [a] := by
 match ks, h with
 | [a], _ => exact ⟨a, rfl⟩
 | [], h => simp at h
 | _ :: _ :: _, h => simp at h; omega
theorem Zob {ks : List GTerm} (h : (ks.length : Int) = 2) : ∃ a b, ks = [a, b] := by
 match ks, h with
 | [a, b], _ => exact ⟨a, b, rfl⟩
 | [], h => simp at h
 | [_], h => simp at h
 | _ :: _ :: _ :: _, h => simp at h; omega
theorem kids3 {ks : List GTerm} (h : (ks.length : Int) = 3) : ∃ a b c, ks = [a, b, c] := by
 match ks, h with
 | [a, b, c], _ => exact ⟨a, b, c, rfl⟩
 | [], h => simp at h
 | [_], h => simp at h
 | [_, _], h => simp at h
 | _ :: _ :: _ :: _ :: _, h => simp at h; omega
theorem Zoo {s : GSys} {cx : List (List Int)} {op n : Int} {nl1 nl2 : Bool} {gty : List Int} {a : GTerm} {ks : List GTerm} {x : TT} (h : Qr s (QB op gty 0 [] ++ cx) a = .ok x) (h2 : QL s op n 0 (hd x.ty) ≠ 0) :
  Qr s cx (.mk op n nl1 gty nl2 (a :: ks)) = .bad (QL s op n 0 (hd x.ty)) [] := by
 have h' : Qr s (QB op gty 0 (first []) ++ cx) a = .ok x := h
 simp [Qr, Q6, h', h2]
theorem ZaR {ty nd : List Int} {ks : List TT} {r : LV} (h : (ZhM ty nd).told r) : (ZV ty nd ks).told r := by
 unfold ZhM at h
 unfold ZV
 split at h
 ·rename_i q; rw [if_pos q]; exact h
 ·rename_i q; rw [if_neg q]; exact h
theorem ZiF {s : GSys} (g : Int) : ∀ (a b : List Int), Zew s a g b = XV s a (QT s g b)
 | [], b => by simp [Zew, XV]
 | x :: a, [] => by simp [Zew, XV, QT]
 | x :: a, y :: b => by
  have := ZiF (s := s) g a b
  simp only [Zew, XV, QT, List.zipWith_cons_cons, List.map_cons] at this ⊢
  rw [this]
structure KidT (s : GSys) (cx : Wx) (k : GTerm) : Prop where
 tell : ∀ nl, Qd Tryz.prog Wt [s.lv, LC nl cx, k.lv] (Qr s (cx.map Prod.snd) k).told
 good : ∀ y, Qr s (cx.map Prod.snd) k = .ok y → y.good s cx.length
 small : k.size ≤ 1000000
theorem ZfY {s : GSys} (hsy : s.sys = true) (d : Nat) : ∀ (g : GTerm) (nlc : Bool) (ctx : Wx), g.size ≤ d → g.wf → g.fl → (∀ c ∈ ctx, okL s.size c.2 = true) → (∀ c ∈ ctx, c.1 = false) → ctx.length + 2 * g.size ≤ 100000 → WE ctx.length s.size true g = true →
  Qd Tryz.prog Wt [s.lv, LC nlc ctx, g.lv] (Qr s (ctx.map Prod.snd) g).told := by
 induction d with
 | zero => intro g _ _ h; have := g.size_pos; omega
 | succ d ih =>
  rintro ⟨op, n, nl1, gty, nl2, ks⟩ nlc ctx hsz hw hfl hc hcf hlen hform
  have t := GSys.sys_of hsy
  have h16 := t.hi
  simp only [WE, Bool.and_eq_true] at hform
  obtain ⟨hnode, hforms⟩ := hform
  have no := Zdc hnode
  simp only [GTerm.wf] at hw
  obtain ⟨wop, wn, wty, wk, wks⟩ := hw
  simp only [GTerm.fl] at hfl
  obtain ⟨fl1, flk⟩ := hfl
  simp only [GTerm.size] at hsz hlen
  obtain ⟨many, hvar, hgr, hty, o1, o2⟩ := no
  have kid : ∀ (i : Nat) (hi : i < ks.length) (more : Wx), more.length = (Qp op i).toNat → (∀ c ∈ more, okL s.size c.2 = true) → (∀ c ∈ more, c.1 = false) → KidT s (more ++ ctx) ks[i] := by
   intro i hi more hml hmo hmf
   have ha := WV op i
   have hf := ZhW hforms i hi
   simp only [Nat.zero_add] at hf
   have hks := Yt hi
   have e : (((more ++ ctx).length : Nat) : Int) = ctx.length + Qp op i := by rw [List.length_append]; omega
   have hok : ∀ c ∈ more ++ ctx, okL s.size c.2 = true := fun c h => (List.mem_append.1 h).elim (hmo c) (hc c)
   have hfl' : ∀ c ∈ more ++ ctx, c.1 = false := fun c h => (List.mem_append.1 h).elim (hmf c) (hcf c)
   refine ⟨fun nl => ih ks[i] nl (more ++ ctx) (by omega) ((V7.1 wks) _ (List.getElem_mem hi)) ((ZS.1 flk) _ (List.getElem_mem hi)) hok hfl' (by rw [List.length_append]; omega) (by rw [e]; exact hf), fun y hy => ?_, by omega⟩
   have := Jr t ks[i] ((more ++ ctx).map Prod.snd) y (fun l hl => by
    obtain ⟨c, h1, rfl⟩ := List.mem_map.1 hl
    exact hok c h1) (by rw [List.length_map, e]; exact hf) hy
   rw [List.length_map] at this
   exact this
  have hops : op = 0 ∨ op = 1 ∨ op = 2 ∨ op = 3 ∨ op = 4 ∨ op = 5 ∨ op = 6 ∨ op = 7 ∨ op = 8 ∨ op = 9 ∨ op = 10 ∨ op = 11 ∨ op = 12 := by omega
  have hz : eqB 0 0 = true := by rw [Qe]
  have hm : ctx.length ≤ 100000 := by omega
  refine Qd.of_codeOf Zke Qz (by simp) (V5 _ fun f p h => Zl _ _ f p h) ?_
  rcases hops with e | e | e | e | e | e | e | e | e | e | e | e | e
  all_goals subst e
  all_goals simp [YV] at many
  ·
   obtain rfl : ks = [] := by first | exact many | exact kids0 (by omega)
   obtain ⟨v0, v1⟩ := hvar rfl
   obtain ⟨v, rfl⟩ : ∃ v : Nat, n = v := ⟨n.toNat, by omega⟩
   have hv : v < ctx.length := by omega
   have hx := ZbN ctx nlc v hv
   have hxo := hc _ (List.getElem_mem hv)
   have hxf := hcf _ (List.getElem_mem hv)
   have hget : (ctx.map Prod.snd).getD v [] = ctx[v].2 := by simp [List.getD_eq_getElem?_getD, hv]
   generalize ctx[v] = c at hx hxo hxf hget
   obtain ⟨cf, cl⟩ := c
   simp only at hxo hxf hget
   subst hxf
   have hlen2 := QG hxo
   rw [Zcg, show ((v : Int)).toNat = v by omega, hget, List.length_map]
   simp (disch := omega) [WD, Qv, Qt, GTerm.cells, hz]
   refine Zns (Vp ctx.length (by omega)) (by simp only [Ym, ZcP]; exact ⟨_, [], rfl, rfl, rfl⟩) (by rintro r rfl; exact whole_sc (fun n : Int => Value.int .i64 n) true false _ (.inr ⟨rfl, rfl⟩)) ?_
   rintro tz y bs rfl hth
   rcases (th_sc (fun n : Int => Value.int .i64 n)).1 hth with ⟨h0, _, _⟩ | ⟨_, hne, slack, cap, ⟨hcap, hsl⟩, rfl, rfl⟩
   ·exfalso
    have h9 := congrArg List.length h0
    rw [show (zeros ctx.length).length = ctx.length by simp [zeros]] at h9
    have h9 : ctx.length = 0 := h9
    omega
   have hzl : (zeros ctx.length).length = ctx.length := by simp [zeros]
   clear hth
   have hst := Zmf (zeros ctx.length) (List.replicate slack .dead) v 1 (by omega)
   have hsp := ZgR (zeros ctx.length) (List.replicate slack .dead) v 1 (by omega)
   simp (disch := omega) [hx, Zmy (show v < (zeros ctx.length).length by omega)]
   refine ⟨by omega, ?_⟩
   rw [frz_at (xs := List.take v ((zeros ctx.length).map N ++ List.replicate slack .dead) ++ N 1 :: List.drop (v + 1) ((zeros ctx.length).map N ++ List.replicate slack .dead)) (by simp) (by simp; omega) hcap, hst]
   generalize (zeros ctx.length).set v 1 = zz
   simp (disch := omega) [hx]
   refine Qa (ZL false cl (by omega)) (by simp) ?_
   simp (disch := omega)
   exact ⟨true, true, true, true, by simp⟩
  ·
   obtain rfl : ks = [] := by first | exact many | exact kids0 (by omega)
   have e10 : eqB 1 0 = false := by rw [Qc]; omega
   have e11 : eqB 1 1 = true := by rw [Qe]
   rw [tell_num]
   simp (disch := omega) [WD, Qv, Qt, GTerm.cells, e10, e11, Qm]
   refine Qa (Vp ctx.length (by omega)) (by simp) ?_
   simp (disch := omega)
   exact ⟨true, true, true, true, by simp⟩
  ·obtain ⟨a, b, rfl⟩ := Zob (by omega)
   have ka := kid 0 (by simp) [] (by simp [Qp]) (by simp) (by simp)
   simp only [List.nil_append, List.getElem_cons_zero] at ka
   have kb := kid 1 (by simp) [] (by simp [Qp]) (by simp) (by simp)
   simp only [List.nil_append, List.getElem_cons_succ, List.getElem_cons_zero] at kb
   have E : ∀ k : Int, k ≠ 2 → eqB 2 k = false := fun k h => by rw [Qc]; omega
   have E2 : eqB 2 2 = true := by rw [Qe]
   have a0 : QB 2 gty 0 [] ++ ctx.map Prod.snd = ctx.map Prod.snd := by simp [QB, Qp]
   have of := XN s 2 n nl1 gty nl2 [a, b] 0 (by simp) nlc ctx _ (WA ka.small) (ka.tell nlc)
   simp only [GTerm.lv, GTerm.cells] at of
   simp (disch := omega) [WD, Qv, Qt, GTerm.cells, E, E2]
   refine Qh (Qd.low of) (by simp) ?_
   rintro r ⟨hr, lo⟩
   cases hA : Qr s (ctx.map Prod.snd) a with
   | bad f p =>
    rw [hA] at hr
    simp only [ofR] at hr
    obtain ⟨hf, u1, u2, u4, n4', rfl⟩ := hr
    have hf0 : eqB f 0 = false := by rw [Qc]; exact hf
    rw [YS (by rw [a0]; exact hA)]
    simp (disch := omega) [Qv, Qt, hf0]
    exact ⟨hf, false, false, false, n4', by simp⟩
   | ok x =>
    have hxg := ka.good x hA
    rw [hA] at hr
    simp only [ofR] at hr
    obtain ⟨u1, u2, u4, n4', rfl⟩ := hr
    have hx := X8 hxg.1
    have lx := QG hxg.1
    have hxi : QQ 1 (L false x.ty) 0 = some (.rp [N (hd x.ty)]) := Z4 hx.2.2.2.1
    by_cases q : hd x.ty = 0
    ·have hq : eqB (hd x.ty) 0 = true := by rw [Qe]; exact q
     simp (disch := omega) [Qv, Qt, hz, hxi, hq, E, E2]
     have tk := Zkc hsy nlc ctx hm n nl1 gty nl2 a b x n4' hxg hA q kb.small (kb.tell nlc) kb.good
     simp only [GTerm.lv, GTerm.cells] at tk
     refine Qh (Qd.low tk) (by simp) ?_
     rintro r ⟨hr, lo⟩
     cases hT : Qr s (ctx.map Prod.snd) (GTerm.mk 2 n nl1 gty nl2 [a, b]) with
     | ok z =>
      rw [hT] at hr
      obtain ⟨v1, v2, v4, m4, rfl⟩ := hr
      simp (disch := omega)
      exact ⟨v1, v2, v4, m4, by simp⟩
     | bad f p =>
      rw [hT] at hr
      obtain ⟨hf, v1, v2, v4, m4, rfl⟩ := hr
      simp (disch := omega)
      exact ⟨hf, v1, v2, v4, m4, by simp⟩
    ·have hq : eqB (hd x.ty) 0 = false := by rw [Qc]; exact q
     have fo := fo_add (n := n) (i := 0) hxg.1
     rw [if_neg q] at fo
     rw [Zoo (by rw [a0]; exact hA) (by rw [fo]; omega), fo]
     simp (disch := omega) [Qv, Qt, hz, hxi, hq, E, E2]
     refine Qh (Qd.low (Xc 2 (by omega))) (by simp) ?_
     rintro r ⟨⟨h3, w1, w2, w4, k4, rfl⟩, lo⟩
     simp (disch := omega)
     exact ⟨by omega, w1, w2, w4, k4, by simp⟩
  ·obtain ⟨a, b, c, rfl⟩ := kids3 (by omega)
   have ka := kid 0 (by simp) [] (by simp [Qp]) (by simp) (by simp)
   simp only [List.nil_append, List.getElem_cons_zero] at ka
   have kb := kid 1 (by simp) [] (by simp [Qp]) (by simp) (by simp)
   simp only [List.nil_append, List.getElem_cons_succ, List.getElem_cons_zero] at kb
   have kc := kid 2 (by simp) [] (by simp [Qp]) (by simp) (by simp)
   simp only [List.nil_append, List.getElem_cons_succ, List.getElem_cons_zero] at kc
   have E : ∀ k : Int, k ≠ 3 → eqB 3 k = false := fun k h => by rw [Qc]; omega
   have E2 : eqB 3 3 = true := by rw [Qe]
   have a0 : QB 3 gty 0 [] ++ ctx.map Prod.snd = ctx.map Prod.snd := by simp [QB, Qp]
   have of := XN s 3 n nl1 gty nl2 [a, b, c] 0 (by simp) nlc ctx _ (WA ka.small) (ka.tell nlc)
   simp only [GTerm.lv, GTerm.cells] at of
   simp (disch := omega) [WD, Qv, Qt, GTerm.cells, E, E2]
   refine Qh (Qd.low of) (by simp) ?_
   rintro r ⟨hr, lo⟩
   cases hA : Qr s (ctx.map Prod.snd) a with
   | bad f p =>
    rw [hA] at hr
    simp only [ofR] at hr
    obtain ⟨hf, u1, u2, u4, n4', rfl⟩ := hr
    have hf0 : eqB f 0 = false := by rw [Qc]; exact hf
    rw [YS (by rw [a0]; exact hA)]
    simp (disch := omega) [Qv, Qt, hf0]
    exact ⟨hf, false, false, false, n4', by simp⟩
   | ok x =>
    have hxg := ka.good x hA
    rw [hA] at hr
    simp only [ofR] at hr
    obtain ⟨u1, u2, u4, n4', rfl⟩ := hr
    have hx := X8 hxg.1
    have lx := QG hxg.1
    have hxi : QQ 1 (L false x.ty) 0 = some (.rp [N (hd x.ty)]) := Z4 hx.2.2.2.1
    by_cases q : hd x.ty = 0
    ·have hq : eqB (hd x.ty) 0 = true := by rw [Qe]; exact q
     simp (disch := omega) [Qv, Qt, hz, hxi, hq, E, E2]
     have tk := Zme hsy nlc ctx hm n nl1 gty nl2 a b c x n4' hxg hA q kb.small kc.small (kb.tell nlc) kb.good (kc.tell nlc) kc.good
     simp only [GTerm.lv, GTerm.cells] at tk
     refine Qh (Qd.low tk) (by simp) ?_
     rintro r ⟨hr, lo⟩
     cases hT : Qr s (ctx.map Prod.snd) (GTerm.mk 3 n nl1 gty nl2 [a, b, c]) with
     | ok z =>
      rw [hT] at hr
      obtain ⟨v1, v2, v4, m4, rfl⟩ := hr
      simp (disch := omega)
      exact ⟨v1, v2, v4, m4, by simp⟩
     | bad f p =>
      rw [hT] at hr
      obtain ⟨hf, v1, v2, v4, m4, rfl⟩ := hr
      simp (disch := omega)
      exact ⟨hf, v1, v2, v4, m4, by simp⟩
    ·have hq : eqB (hd x.ty) 0 = false := by rw [Qc]; exact q
     have fo := fo_if0 (n := n) hxg.1
     rw [if_neg q] at fo
     rw [Zoo (by rw [a0]; exact hA) (by rw [fo]; omega), fo]
     simp (disch := omega) [Qv, Qt, hz, hxi, hq, E, E2]
     refine Qh (Qd.low (Xc 2 (by omega))) (by simp) ?_
     rintro r ⟨⟨h3, w1, w2, w4, k4, rfl⟩, lo⟩
     simp (disch := omega)
     exact ⟨by omega, w1, w2, w4, k4, by simp⟩
  ·obtain ⟨a, b, rfl⟩ := Zob (by omega)
   have ka := kid 0 (by simp) [] (by simp [Qp]) (by simp) (by simp)
   simp only [List.nil_append, List.getElem_cons_zero] at ka
   have kb := kid 1 (by simp) [] (by simp [Qp]) (by simp) (by simp)
   simp only [List.nil_append, List.getElem_cons_succ, List.getElem_cons_zero] at kb
   have E : ∀ k : Int, k ≠ 4 → eqB 4 k = false := fun k h => by rw [Qc]; omega
   have E2 : eqB 4 4 = true := by rw [Qe]
   have a0 : QB 4 gty 0 [] ++ ctx.map Prod.snd = ctx.map Prod.snd := by simp [QB, Qp]
   have of := XN s 4 n nl1 gty nl2 [a, b] 0 (by simp) nlc ctx _ (WA ka.small) (ka.tell nlc)
   simp only [GTerm.lv, GTerm.cells] at of
   simp (disch := omega) [WD, Qv, Qt, GTerm.cells, E, E2]
   refine Qh (Qd.low of) (by simp) ?_
   rintro r ⟨hr, lo⟩
   cases hA : Qr s (ctx.map Prod.snd) a with
   | bad f p =>
    rw [hA] at hr
    simp only [ofR] at hr
    obtain ⟨hf, u1, u2, u4, n4', rfl⟩ := hr
    have hf0 : eqB f 0 = false := by rw [Qc]; exact hf
    rw [YS (by rw [a0]; exact hA)]
    simp (disch := omega) [Qv, Qt, hf0]
    exact ⟨hf, false, false, false, n4', by simp⟩
   | ok x =>
    have hxg := ka.good x hA
    rw [hA] at hr
    simp only [ofR] at hr
    obtain ⟨u1, u2, u4, n4', rfl⟩ := hr
    have hx := X8 hxg.1
    have lx := QG hxg.1
    have hxi : QQ 1 (L false x.ty) 0 = some (.rp [N (hd x.ty)]) := Z4 hx.2.2.2.1
    simp (disch := omega) [Qv, Qt, hz, hxi, E, E2]
    rw [ZqJ hA]
    have of2 := XN s 4 n nl1 gty nl2 [a, b] 1 (by simp) nlc ctx _ (WA kb.small) (kb.tell nlc)
    simp only [GTerm.lv, GTerm.cells] at of2
    refine Qh (Qd.low of2) (by simp) ?_
    rintro r ⟨hr, lo⟩
    cases hB : Qr s (ctx.map Prod.snd) b with
    | bad f p =>
     rw [hB] at hr
     simp only [ofR] at hr
     obtain ⟨hf, v1, v2, v4, m4', rfl⟩ := hr
     have hf0 : eqB f 0 = false := by rw [Qc]; exact hf
     simp (disch := omega) [Qv, Qt, hf0]
     exact ⟨hf, false, false, false, m4', by simp⟩
    | ok y =>
     have hyg := kb.good y hB
     rw [hB] at hr
     simp only [ofR] at hr
     obtain ⟨v1, v2, v4, m4', rfl⟩ := hr
     have ly := QG hyg.1
     have s1 := Zc t false false x.needs 1 (GSys.G1 t) y.needs (by rw [hxg.2.1]; omega) (by rw [hxg.2.1, hyg.2.1]) hxg.2.2 hyg.2.2
     rw [Zab hsy _ _ hyg.2.2] at s1
     obtain ⟨z, hzz⟩ : ∃ z, z = 1 :: (x.ty ++ y.ty) := ⟨_, rfl⟩
     have gl := Y4 1 false false false x.ty y.ty (by omega) (by omega)
     dsimp only
     rw [← hzz] at gl ⊢
     simp (disch := omega) [Qv, Qt, hz, Qm]
     refine Qa gl (by simp) ?_
     simp (disch := omega)
     refine Qa s1 (by simp) ?_
     simp (disch := omega)
     have dn := ZaL z (XV s x.needs y.needs)
     refine Qh (Qd.low dn) (by simp) ?_
     rintro r ⟨hr, lo⟩
     have hl := ZaR (ks := [x, y]) hr
     unfold ZV at hl ⊢
     by_cases q9 : z.length ≤ 40
     ·rw [if_pos q9] at hl ⊢
      obtain ⟨v1, v2, v4, m4, rfl⟩ := hl
      simp (disch := omega)
      exact ⟨v1, v2, v4, m4, by simp⟩
     ·rw [if_neg q9] at hl ⊢
      obtain ⟨hf, v1, v2, v4, m4, rfl⟩ := hl
      simp (disch := omega)
      exact ⟨hf, v1, v2, v4, m4, by simp⟩
  ·obtain ⟨a, b, rfl⟩ := Zob (by omega)
   have ka := kid 0 (by simp) [] (by simp [Qp]) (by simp) (by simp)
   simp only [List.nil_append, List.getElem_cons_zero] at ka
   have E : ∀ k : Int, k ≠ 5 → eqB 5 k = false := fun k h => by rw [Qc]; omega
   have E2 : eqB 5 5 = true := by rw [Qe]
   have a0 : QB 5 gty 0 [] ++ ctx.map Prod.snd = ctx.map Prod.snd := by simp [QB, Qp]
   have of := XN s 5 n nl1 gty nl2 [a, b] 0 (by simp) nlc ctx _ (WA ka.small) (ka.tell nlc)
   simp only [GTerm.lv, GTerm.cells] at of
   simp (disch := omega) [WD, Qv, Qt, GTerm.cells, E, E2]
   refine Qh (Qd.low of) (by simp) ?_
   rintro r ⟨hr, lo⟩
   cases hA : Qr s (ctx.map Prod.snd) a with
   | bad f p =>
    rw [hA] at hr
    simp only [ofR] at hr
    obtain ⟨hf, u1, u2, u4, n4', rfl⟩ := hr
    have hf0 : eqB f 0 = false := by rw [Qc]; exact hf
    rw [YS (by rw [a0]; exact hA)]
    simp (disch := omega) [Qv, Qt, hf0]
    exact ⟨hf, false, false, false, n4', by simp⟩
   | ok x =>
    have hxg := ka.good x hA
    rw [hA] at hr
    simp only [ofR] at hr
    obtain ⟨u1, u2, u4, n4', rfl⟩ := hr
    have hx := X8 hxg.1
    have lx := QG hxg.1
    have hxi : QQ 1 (L false x.ty) 0 = some (.rp [N (hd x.ty)]) := Z4 hx.2.2.2.1
    have kb : hd x.ty = 1 → KidT s ([(false, Ws x.ty), (false, QI x.ty)] ++ ctx) b := fun q => by
     have two := JQ hxg.1 (by rw [q]; exact Xo.1)
     have := kid 1 (by simp) [(false, Ws x.ty), (false, QI x.ty)] (by simp [Qp]) (by simp [two.2.1, two.2.2]) (by simp)
     simpa using this
    have hgn := hgr (by simp [Z0, Qe])
    simp (disch := omega) [Qv, Qt, hz, hxi, E, E2]
    have tk := Zkr hsy nlc ctx hm n nl1 gty nl2 a b x n4' hgn hxg hA (by have := Yt (ks := [a, b]) (i := 1) (by simp); simp at this; omega) (fun q => (kb q).tell false) (fun q y hy => (kb q).good y hy)
    simp only [GTerm.lv, GTerm.cells] at tk
    refine Qh (Qd.low tk) (by simp) ?_
    rintro r ⟨hr, lo⟩
    cases hT : Qr s (ctx.map Prod.snd) (GTerm.mk 5 n nl1 gty nl2 [a, b]) with
    | ok z =>
     rw [hT] at hr
     obtain ⟨v1, v2, v4, m4, rfl⟩ := hr
     simp (disch := omega)
     exact ⟨v1, v2, v4, m4, by simp⟩
    | bad f p =>
     rw [hT] at hr
     obtain ⟨hf, v1, v2, v4, m4, rfl⟩ := hr
     simp (disch := omega)
     exact ⟨hf, v1, v2, v4, m4, by simp⟩
  ·obtain ⟨a, rfl⟩ := kids1 (by omega)
   have ka := kid 0 (by simp) [] (by simp [Qp]) (by simp) (by simp)
   simp only [List.nil_append, List.getElem_cons_zero] at ka
   have E : ∀ k : Int, k ≠ 6 → eqB 6 k = false := fun k h => by rw [Qc]; omega
   have E2 : eqB 6 6 = true := by rw [Qe]
   have a0 : QB 6 gty 0 [] ++ ctx.map Prod.snd = ctx.map Prod.snd := by simp [QB, Qp]
   have of := XN s 6 n nl1 gty nl2 [a] 0 (by simp) nlc ctx _ (WA ka.small) (ka.tell nlc)
   simp only [GTerm.lv, GTerm.cells] at of
   simp (disch := omega) [WD, Qv, Qt, GTerm.cells, E, E2]
   refine Qh (Qd.low of) (by simp) ?_
   rintro r ⟨hr, lo⟩
   cases hA : Qr s (ctx.map Prod.snd) a with
   | bad f p =>
    rw [hA] at hr
    simp only [ofR] at hr
    obtain ⟨hf, u1, u2, u4, n4', rfl⟩ := hr
    have hf0 : eqB f 0 = false := by rw [Qc]; exact hf
    rw [YS (by rw [a0]; exact hA)]
    simp (disch := omega) [Qv, Qt, hf0]
    exact ⟨hf, false, false, false, n4', by simp⟩
   | ok x =>
    have hxg := ka.good x hA
    rw [hA] at hr
    simp only [ofR] at hr
    obtain ⟨u1, u2, u4, n4', rfl⟩ := hr
    have hx := X8 hxg.1
    have lx := QG hxg.1
    have hxi : QQ 1 (L false x.ty) 0 = some (.rp [N (hd x.ty)]) := Z4 hx.2.2.2.1
    have hgt := hty (by simp [Xs, Qe])
    have lg := QG hgt
    rw [Zqy hA]
    obtain ⟨z, hzz⟩ : ∃ z, z = 2 :: (x.ty ++ gty) := ⟨_, rfl⟩
    have gl := Y4 2 false false nl1 x.ty gty (by omega) (by omega)
    rw [← hzz] at gl ⊢
    simp (disch := omega) [Qv, Qt, hz, hxi, E, E2, Qm]
    refine Qa gl (by simp) ?_
    simp (disch := omega)
    have dn := ZaL z x.needs
    refine Qh (Qd.low dn) (by simp) ?_
    rintro r ⟨hr, lo⟩
    have hl := ZaR (ks := [x]) hr
    unfold ZV at hl ⊢
    by_cases q9 : z.length ≤ 40
    ·rw [if_pos q9] at hl ⊢
     obtain ⟨v1, v2, v4, m4, rfl⟩ := hl
     simp (disch := omega)
     exact ⟨v1, v2, v4, m4, by simp⟩
    ·rw [if_neg q9] at hl ⊢
     obtain ⟨hf, v1, v2, v4, m4, rfl⟩ := hl
     simp (disch := omega)
     exact ⟨hf, v1, v2, v4, m4, by simp⟩
  ·obtain ⟨a, rfl⟩ := kids1 (by omega)
   have ka := kid 0 (by simp) [] (by simp [Qp]) (by simp) (by simp)
   simp only [List.nil_append, List.getElem_cons_zero] at ka
   have E : ∀ k : Int, k ≠ 7 → eqB 7 k = false := fun k h => by rw [Qc]; omega
   have E2 : eqB 7 7 = true := by rw [Qe]
   have a0 : QB 7 gty 0 [] ++ ctx.map Prod.snd = ctx.map Prod.snd := by simp [QB, Qp]
   have of := XN s 7 n nl1 gty nl2 [a] 0 (by simp) nlc ctx _ (WA ka.small) (ka.tell nlc)
   simp only [GTerm.lv, GTerm.cells] at of
   simp (disch := omega) [WD, Qv, Qt, GTerm.cells, E, E2]
   refine Qh (Qd.low of) (by simp) ?_
   rintro r ⟨hr, lo⟩
   cases hA : Qr s (ctx.map Prod.snd) a with
   | bad f p =>
    rw [hA] at hr
    simp only [ofR] at hr
    obtain ⟨hf, u1, u2, u4, n4', rfl⟩ := hr
    have hf0 : eqB f 0 = false := by rw [Qc]; exact hf
    rw [YS (by rw [a0]; exact hA)]
    simp (disch := omega) [Qv, Qt, hf0]
    exact ⟨hf, false, false, false, n4', by simp⟩
   | ok x =>
    have hxg := ka.good x hA
    rw [hA] at hr
    simp only [ofR] at hr
    obtain ⟨u1, u2, u4, n4', rfl⟩ := hr
    have hx := X8 hxg.1
    have lx := QG hxg.1
    have hxi : QQ 1 (L false x.ty) 0 = some (.rp [N (hd x.ty)]) := Z4 hx.2.2.2.1
    have hgt := hty (by simp [Xs, Qe])
    have lg := QG hgt
    rw [Zo2 hA]
    obtain ⟨z, hzz⟩ : ∃ z, z = 2 :: (gty ++ x.ty) := ⟨_, rfl⟩
    have gl := Y4 2 false nl1 false gty x.ty (by omega) (by omega)
    rw [← hzz] at gl ⊢
    simp (disch := omega) [Qv, Qt, hz, hxi, E, E2, Qm]
    refine Qa gl (by simp) ?_
    simp (disch := omega)
    have dn := ZaL z x.needs
    refine Qh (Qd.low dn) (by simp) ?_
    rintro r ⟨hr, lo⟩
    have hl := ZaR (ks := [x]) hr
    unfold ZV at hl ⊢
    by_cases q9 : z.length ≤ 40
    ·rw [if_pos q9] at hl ⊢
     obtain ⟨v1, v2, v4, m4, rfl⟩ := hl
     simp (disch := omega)
     exact ⟨v1, v2, v4, m4, by simp⟩
    ·rw [if_neg q9] at hl ⊢
     obtain ⟨hf, v1, v2, v4, m4, rfl⟩ := hl
     simp (disch := omega)
     exact ⟨hf, v1, v2, v4, m4, by simp⟩
  ·obtain ⟨a, b, c, rfl⟩ := kids3 (by omega)
   have ka := kid 0 (by simp) [] (by simp [Qp]) (by simp) (by simp)
   simp only [List.nil_append, List.getElem_cons_zero] at ka
   have E : ∀ k : Int, k ≠ 8 → eqB 8 k = false := fun k h => by rw [Qc]; omega
   have E2 : eqB 8 8 = true := by rw [Qe]
   have a0 : QB 8 gty 0 [] ++ ctx.map Prod.snd = ctx.map Prod.snd := by simp [QB, Qp]
   have of := XN s 8 n nl1 gty nl2 [a, b, c] 0 (by simp) nlc ctx _ (WA ka.small) (ka.tell nlc)
   simp only [GTerm.lv, GTerm.cells] at of
   simp (disch := omega) [WD, Qv, Qt, GTerm.cells, E, E2]
   refine Qh (Qd.low of) (by simp) ?_
   rintro r ⟨hr, lo⟩
   cases hA : Qr s (ctx.map Prod.snd) a with
   | bad f p =>
    rw [hA] at hr
    simp only [ofR] at hr
    obtain ⟨hf, u1, u2, u4, n4', rfl⟩ := hr
    have hf0 : eqB f 0 = false := by rw [Qc]; exact hf
    rw [YS (by rw [a0]; exact hA)]
    simp (disch := omega) [Qv, Qt, hf0]
    exact ⟨hf, false, false, false, n4', by simp⟩
   | ok x =>
    have hxg := ka.good x hA
    rw [hA] at hr
    simp only [ofR] at hr
    obtain ⟨u1, u2, u4, n4', rfl⟩ := hr
    have hx := X8 hxg.1
    have lx := QG hxg.1
    have hxi : QQ 1 (L false x.ty) 0 = some (.rp [N (hd x.ty)]) := Z4 hx.2.2.2.1
    have kb : hd x.ty = 2 → KidT s ([(false, QI x.ty)] ++ ctx) b := fun q => by
     have two := JQ hxg.1 (by rw [q]; exact Xo.2)
     have := kid 1 (by simp) [(false, QI x.ty)] (by simp [Qp]) (by simp [two.2.1, two.2.2]) (by simp)
     simpa using this
    have kc : hd x.ty = 2 → KidT s ([(false, Ws x.ty)] ++ ctx) c := fun q => by
     have two := JQ hxg.1 (by rw [q]; exact Xo.2)
     have := kid 2 (by simp) [(false, Ws x.ty)] (by simp [Qp]) (by simp [two.2.1, two.2.2]) (by simp)
     simpa using this
    have hgn := hgr (by simp [Z0, Qe])
    simp (disch := omega) [Qv, Qt, hz, hxi, E, E2]
    have tk := ZlF hsy nlc ctx hm n nl1 gty nl2 a b c x n4' hgn hxg hA (by have := Yt (ks := [a, b, c]) (i := 1) (by simp); simp at this; omega) (by have := Yt (ks := [a, b, c]) (i := 2) (by simp); simp at this; omega) (fun q => (kb q).tell false) (fun q y hy => (kb q).good y hy) (fun q => (kc q).tell false) (fun q y hy => (kc q).good y hy)
    simp only [GTerm.lv, GTerm.cells] at tk
    refine Qh (Qd.low tk) (by simp) ?_
    rintro r ⟨hr, lo⟩
    cases hT : Qr s (ctx.map Prod.snd) (GTerm.mk 8 n nl1 gty nl2 [a, b, c]) with
    | ok z =>
     rw [hT] at hr
     obtain ⟨v1, v2, v4, m4, rfl⟩ := hr
     simp (disch := omega)
     exact ⟨v1, v2, v4, m4, by simp⟩
    | bad f p =>
     rw [hT] at hr
     obtain ⟨hf, v1, v2, v4, m4, rfl⟩ := hr
     simp (disch := omega)
     exact ⟨hf, v1, v2, v4, m4, by simp⟩
  ·obtain ⟨a, rfl⟩ := kids1 (by omega)
   have hgt := hty (by simp [Xs, Qe])
   have lg := QG hgt
   have hn1 : nl1 = false := by
    cases hn : nl1 with
    | false => rfl
    | true => have := fl1 hn; subst this; simp at lg
   subst hn1
   have hgn := hgr (by simp [Z0, Qe])
   have ka : KidT s ([(false, gty)] ++ ctx) a := by
    have := kid 0 (by simp) [(false, gty)] (by simp [Qp]) (by simp [hgt]) (by simp)
    simpa using this
   have E : ∀ k : Int, k ≠ 9 → eqB 9 k = false := fun k h => by rw [Qc]; omega
   have E2 : eqB 9 9 = true := by rw [Qe]
   have a0 : QB 9 gty 0 [] ++ ctx.map Prod.snd = gty :: ctx.map Prod.snd := by simp [QB]
   have of := XN s 9 n false gty nl2 [a] 0 (by simp) false ((false, gty) :: ctx) _ (WA ka.small) (ka.tell false)
   have w := Yg nlc false ctx [(false, gty)] (by omega) (by simp)
   simp only [GTerm.lv, GTerm.cells, List.map_cons, List.map_nil, List.cons_append, List.nil_append] at of w
   simp (disch := omega) [WD, Qv, Qt, GTerm.cells, E, E2, Qm]
   refine Qa w (by simp) ?_
   simp (disch := omega) [E, E2]
   refine Qh (Qd.low of) (by simp) ?_
   rintro r ⟨hr, lo⟩
   cases hA : Qr s (gty :: ctx.map Prod.snd) a with
   | bad f p =>
    rw [hA] at hr
    simp only [ofR] at hr
    obtain ⟨hf, u1, u2, u4, n4', rfl⟩ := hr
    have hf0 : eqB f 0 = false := by rw [Qc]; exact hf
    rw [YS (by rw [a0]; exact hA)]
    simp (disch := omega) [Qv, Qt, hf0]
    exact ⟨hf, false, false, false, n4', by simp⟩
   | ok x =>
    have hxg := ka.good x hA
    rw [hA] at hr
    simp only [ofR] at hr
    obtain ⟨u1, u2, u4, n4', rfl⟩ := hr
    have lx := QG hxg.1
    have hxl : x.needs.length = ctx.length + 1 := by have := hxg.2.1; simpa using this
    have c2 : Ja 1 (L false x.needs) (some 1) none none = some (L false (x.needs.drop 1)) := Zd (k := 1) (by omega)
    have i0 : QQ 1 (L false x.needs) 0 = some (.rp [N (x.needs.getD 0 0)]) := Zlc (i := 0) (by omega)
    have g0 := Zf9 hxg.2.2 (show 0 < x.needs.length by omega)
    have cp := ZL false (x.needs.drop 1) (by simp; omega)
    have us := used1 (s := s) (l := x.needs) (g := n) (by omega)
    rw [tell_fun hA, us]
    generalize x.needs.getD 0 0 = y0 at *
    obtain ⟨yr, hyr⟩ : ∃ yr, yr = x.needs.drop 1 := ⟨_, rfl⟩
    rw [← hyr] at c2 cp ⊢
    obtain ⟨z, hzz⟩ : ∃ z, z = (3 + n) :: (gty ++ x.ty) := ⟨_, rfl⟩
    have gl := Y4 (3 + n) false false false gty x.ty (by omega) (by omega)
    rw [← hzz] at gl ⊢
    have wr : IntKind.i64.wrap (3 + n) = 3 + n := Qf (by have := hgn.1; have := hgn.2; omega)
    simp (disch := omega) [Qv, Qt, hz, E, E2, i0]
    refine Qa (XZ t g0 hgn) (by simp) ?_
    cases hu : s.le y0 n
    ·simp (disch := omega)
     refine Qh (Qd.low (Xc 9 (by omega))) (by simp) ?_
     rintro r ⟨⟨h3, w1, w2, w4, k4, rfl⟩, lo⟩
     simp (disch := omega)
     exact ⟨by omega, w1, w2, w4, k4, by simp⟩
    ·simp (disch := omega) [Qm, wr, c2]
     refine Qa gl (by simp) ?_
     simp (disch := omega) [c2]
     refine Qa cp (by simp) ?_
     simp (disch := omega)
     have dn := ZaL z yr
     refine Qh (Qd.low dn) (by simp) ?_
     rintro r ⟨hr, lo⟩
     have hl := ZaR (ks := [x]) hr
     unfold ZV at hl ⊢
     by_cases q9 : z.length ≤ 40
     ·rw [if_pos q9] at hl ⊢
      obtain ⟨v1, v2, v4, m4, rfl⟩ := hl
      simp (disch := omega)
      exact ⟨v1, v2, v4, m4, by simp⟩
     ·rw [if_neg q9] at hl ⊢
      obtain ⟨hf, v1, v2, v4, m4, rfl⟩ := hl
      simp (disch := omega)
      exact ⟨hf, v1, v2, v4, m4, by simp⟩
  ·obtain ⟨a, b, rfl⟩ := Zob (by omega)
   have ka := kid 0 (by simp) [] (by simp [Qp]) (by simp) (by simp)
   simp only [List.nil_append, List.getElem_cons_zero] at ka
   have kb := kid 1 (by simp) [] (by simp [Qp]) (by simp) (by simp)
   simp only [List.nil_append, List.getElem_cons_succ, List.getElem_cons_zero] at kb
   have E : ∀ k : Int, k ≠ 10 → eqB 10 k = false := fun k h => by rw [Qc]; omega
   have E2 : eqB 10 10 = true := by rw [Qe]
   have a0 : QB 10 gty 0 [] ++ ctx.map Prod.snd = ctx.map Prod.snd := by simp [QB, Qp]
   have of := XN s 10 n nl1 gty nl2 [a, b] 0 (by simp) nlc ctx _ (WA ka.small) (ka.tell nlc)
   simp only [GTerm.lv, GTerm.cells] at of
   simp (disch := omega) [WD, Qv, Qt, GTerm.cells, E, E2]
   refine Qh (Qd.low of) (by simp) ?_
   rintro r ⟨hr, lo⟩
   cases hA : Qr s (ctx.map Prod.snd) a with
   | bad f p =>
    rw [hA] at hr
    simp only [ofR] at hr
    obtain ⟨hf, u1, u2, u4, n4', rfl⟩ := hr
    have hf0 : eqB f 0 = false := by rw [Qc]; exact hf
    rw [YS (by rw [a0]; exact hA)]
    simp (disch := omega) [Qv, Qt, hf0]
    exact ⟨hf, false, false, false, n4', by simp⟩
   | ok x =>
    have hxg := ka.good x hA
    rw [hA] at hr
    simp only [ofR] at hr
    obtain ⟨u1, u2, u4, n4', rfl⟩ := hr
    have hx := X8 hxg.1
    have lx := QG hxg.1
    have hxi : QQ 1 (L false x.ty) 0 = some (.rp [N (hd x.ty)]) := Z4 hx.2.2.2.1
    rw [tell_app hA hxg.1]
    simp (disch := omega) [Qv, Qt, hz, hxi, E, E2]
    refine Qa (Zm4 (hd x.ty)) (by simp) ?_
    cases q : QM (hd x.ty)
    ·simp (disch := omega)
     refine Qh (Qd.low (Xc 6 (by omega))) (by simp) ?_
     rintro r ⟨⟨h3, w1, w2, w4, k4, rfl⟩, lo⟩
     simp (disch := omega)
     exact ⟨by omega, w1, w2, w4, k4, by simp⟩
    ·simp (disch := omega)
     have of2 := XN s 10 n nl1 gty nl2 [a, b] 1 (by simp) nlc ctx _ (WA kb.small) (kb.tell nlc)
     simp only [GTerm.lv, GTerm.cells] at of2
     refine Qh (Qd.low of2) (by simp) ?_
     rintro r ⟨hr, lo⟩
     cases hB : Qr s (ctx.map Prod.snd) b with
     | bad f p =>
      rw [hB] at hr
      simp only [ofR] at hr
      obtain ⟨hf, v1, v2, v4, m4', rfl⟩ := hr
      have hf0 : eqB f 0 = false := by rw [Qc]; exact hf
      simp (disch := omega) [Qv, Qt, hf0]
      exact ⟨hf, false, false, false, m4', by simp⟩
     | ok y =>
      have hyg := kb.good y hB
      rw [hB] at hr
      simp only [ofR] at hr
      obtain ⟨v1, v2, v4, m4', rfl⟩ := hr
      have ly := QG hyg.1
      have s1 := Zc t false false x.needs 1 (GSys.G1 t) y.needs (by rw [hxg.2.1]; omega) (by rw [hxg.2.1, hyg.2.1]) hxg.2.2 hyg.2.2
      rw [Zab hsy _ _ hyg.2.2] at s1
      have hk := JG q
      have p0 := XM hxg.1 0 (.inr hk)
      have p1 := XM hxg.1 1 (.inr hk)
      have hsg : (QF (hd x.ty)).2 = W1 (hd x.ty) := (Kg hx.2.1 hx.2.2.1).2.2.2.2.2 (.inl q)
      have hgG : s.G (W1 (hd x.ty)) := Ke hx.1 (.inl q)
      simp (disch := omega) [Qv, Qt, hz, Qm]
      refine Qa p0 (by simp) ?_
      simp (disch := omega)
      refine Qa (ZaZ false false y.ty (QI x.ty) (by omega)) (by simp) ?_
      cases he : (y.ty == QI x.ty)
      ·have he' : y.ty ≠ QI x.ty := by simpa using he
       simp (disch := omega)
       refine Qh (Qd.low (Xc 3 (by omega))) (by simp) ?_
       rintro r ⟨⟨h3, w1, w2, w4, k4, rfl⟩, lo⟩
       simp (disch := omega) [he']
       exact ⟨by omega, w1, w2, w4, k4, by simp⟩
      ·have he' : y.ty = QI x.ty := by simpa using he
       simp (disch := omega)
       refine Qa p1 (by simp) ?_
       simp (disch := omega) [hxi]
       refine Qa (ZcJ (hd x.ty) (by unfold I64; omega) hx.2.1) (by simp) ?_
       simp (disch := omega)
       have s3 := Zc t false false x.needs (W1 (hd x.ty)) hgG y.needs (by rw [hxg.2.1]; omega) (by rw [hxg.2.1, hyg.2.1]) hxg.2.2 hyg.2.2
       rw [ZiF] at s3
       refine Qa s3 (by simp) ?_
       simp (disch := omega) [he', hsg]
       exact ⟨true, true, true, true, by simp⟩
  ·obtain ⟨a, rfl⟩ := kids1 (by omega)
   have ka := kid 0 (by simp) [] (by simp [Qp]) (by simp) (by simp)
   simp only [List.nil_append, List.getElem_cons_zero] at ka
   have E : ∀ k : Int, k ≠ 11 → eqB 11 k = false := fun k h => by rw [Qc]; omega
   have E2 : eqB 11 11 = true := by rw [Qe]
   have a0 : QB 11 gty 0 [] ++ ctx.map Prod.snd = ctx.map Prod.snd := by simp [QB, Qp]
   have of := XN s 11 n nl1 gty nl2 [a] 0 (by simp) nlc ctx _ (WA ka.small) (ka.tell nlc)
   simp only [GTerm.lv, GTerm.cells] at of
   simp (disch := omega) [WD, Qv, Qt, GTerm.cells, E, E2]
   refine Qh (Qd.low of) (by simp) ?_
   rintro r ⟨hr, lo⟩
   cases hA : Qr s (ctx.map Prod.snd) a with
   | bad f p =>
    rw [hA] at hr
    simp only [ofR] at hr
    obtain ⟨hf, u1, u2, u4, n4', rfl⟩ := hr
    have hf0 : eqB f 0 = false := by rw [Qc]; exact hf
    rw [YS (by rw [a0]; exact hA)]
    simp (disch := omega) [Qv, Qt, hf0]
    exact ⟨hf, false, false, false, n4', by simp⟩
   | ok x =>
    have hxg := ka.good x hA
    rw [hA] at hr
    simp only [ofR] at hr
    obtain ⟨u1, u2, u4, n4', rfl⟩ := hr
    have hx := X8 hxg.1
    have lx := QG hxg.1
    have hxi : QQ 1 (L false x.ty) 0 = some (.rp [N (hd x.ty)]) := Z4 hx.2.2.2.1
    have hgn := hgr (by simp [Z0, Qe])
    rw [tell_box hA]
    obtain ⟨z, hzz⟩ : ∃ z, z = (19 + n) :: x.ty := ⟨_, rfl⟩
    have gl := ZeI (19 + n) false false x.ty (by omega)
    rw [← hzz] at gl ⊢
    have zr := Vp ctx.length (by omega)
    have sc := Zc t false false (zeros ctx.length) n hgn x.needs (by simp [zeros]; omega) (by rw [hxg.2.1]; simp [zeros]) (VP t _).2 hxg.2.2
    have e1 := Zct hsy n x.needs
    rw [hxg.2.1] at e1
    rw [e1] at sc
    have wr : IntKind.i64.wrap (19 + n) = 19 + n := Qf (by have := hgn.1; have := hgn.2; omega)
    simp (disch := omega) [Qv, Qt, hz, hxi, E, E2, Qm, wr]
    refine Qa gl (by simp) ?_
    simp (disch := omega)
    refine Qa zr (by simp) ?_
    simp (disch := omega)
    refine Qa sc (by simp) ?_
    simp (disch := omega)
    have dn := ZaL z (QT s n x.needs)
    refine Qh (Qd.low dn) (by simp) ?_
    rintro r ⟨hr, lo⟩
    have hl := ZaR (ks := [x]) hr
    unfold ZV at hl ⊢
    by_cases q9 : z.length ≤ 40
    ·rw [if_pos q9] at hl ⊢
     obtain ⟨v1, v2, v4, m4, rfl⟩ := hl
     simp (disch := omega)
     exact ⟨v1, v2, v4, m4, by simp⟩
    ·rw [if_neg q9] at hl ⊢
     obtain ⟨hf, v1, v2, v4, m4, rfl⟩ := hl
     simp (disch := omega)
     exact ⟨hf, v1, v2, v4, m4, by simp⟩
  ·obtain ⟨a, b, rfl⟩ := Zob (by omega)
   have ka := kid 0 (by simp) [] (by simp [Qp]) (by simp) (by simp)
   simp only [List.nil_append, List.getElem_cons_zero] at ka
   have E : ∀ k : Int, k ≠ 12 → eqB 12 k = false := fun k h => by rw [Qc]; omega
   have E2 : eqB 12 12 = true := by rw [Qe]
   have a0 : QB 12 gty 0 [] ++ ctx.map Prod.snd = ctx.map Prod.snd := by simp [QB, Qp]
   have of := XN s 12 n nl1 gty nl2 [a, b] 0 (by simp) nlc ctx _ (WA ka.small) (ka.tell nlc)
   simp only [GTerm.lv, GTerm.cells] at of
   simp (disch := omega) [WD, Qv, Qt, GTerm.cells, E, E2]
   refine Qh (Qd.low of) (by simp) ?_
   rintro r ⟨hr, lo⟩
   cases hA : Qr s (ctx.map Prod.snd) a with
   | bad f p =>
    rw [hA] at hr
    simp only [ofR] at hr
    obtain ⟨hf, u1, u2, u4, n4', rfl⟩ := hr
    have hf0 : eqB f 0 = false := by rw [Qc]; exact hf
    rw [YS (by rw [a0]; exact hA)]
    simp (disch := omega) [Qv, Qt, hf0]
    exact ⟨hf, false, false, false, n4', by simp⟩
   | ok x =>
    have hxg := ka.good x hA
    rw [hA] at hr
    simp only [ofR] at hr
    obtain ⟨u1, u2, u4, n4', rfl⟩ := hr
    have hx := X8 hxg.1
    have lx := QG hxg.1
    have hxi : QQ 1 (L false x.ty) 0 = some (.rp [N (hd x.ty)]) := Z4 hx.2.2.2.1
    have kb : W4 (hd x.ty) = true → KidT s ([(false, QI x.ty)] ++ ctx) b := fun q => by
     have two := Zhp hxg.1 (Zdk q)
     have := kid 1 (by simp) [(false, QI x.ty)] (by simp [Qp]) (by simp [two.2.2]) (by simp)
     simpa using this
    have hgn := hgr (by simp [Z0, Qe])
    simp (disch := omega) [Qv, Qt, hz, hxi, E, E2]
    have tk := ZlN hsy nlc ctx hm n nl1 gty nl2 a b x n4' hgn hxg hA (by have := Yt (ks := [a, b]) (i := 1) (by simp); simp at this; omega) (fun q => (kb q).tell false) (fun q y hy => (kb q).good y hy)
    simp only [GTerm.lv, GTerm.cells] at tk
    refine Qh (Qd.low tk) (by simp) ?_
    rintro r ⟨hr, lo⟩
    cases hT : Qr s (ctx.map Prod.snd) (GTerm.mk 12 n nl1 gty nl2 [a, b]) with
    | ok z =>
     rw [hT] at hr
     obtain ⟨v1, v2, v4, m4, rfl⟩ := hr
     simp (disch := omega)
     exact ⟨v1, v2, v4, m4, by simp⟩
    | bad f p =>
     rw [hT] at hr
     obtain ⟨hf, v1, v2, v4, m4, rfl⟩ := hr
     simp (disch := omega)
     exact ⟨hf, v1, v2, v4, m4, by simp⟩
end Go.Proofs.YtclfngbealdbgaaGreat
namespace Go.Proofs.YtclfngbealdbgaaGreat
open Go Go.TL
open Go.Proofs.YtclfngbealdbgaaGreat.Ty
set_option linter.unusedSimpArgs false
set_option linter.unusedVariables false
set_option maxRecDepth 20000
set_option maxHeartbeats 4000000
theorem ZjQ {s : GSys} (hsw : s.wf) (g : GTerm) (hw : g.wf) (n : Int) (hn : I64 n) : Qd Tryz.prog Zaq [s.lv, g.lv, N n] (· = B (s.sys && g.termB s.size n)) := by
 refine Qd.of_codeOf ZjT Qz (by simp) ⟨_, rfl, by simp⟩ ?_
 simp (disch := omega) [ZdE, Qv, Qt]
 refine Qa (Jj s hsw) (by simp) ?_
 cases hs : s.sys
 ·simp (disch := omega)
 ·have t := GSys.sys_of hs
  have h2 := t.lo; have h16 := t.hi
  simp (disch := omega)
  refine Qa (ZfF n 0 8) (by simp) ?_
  cases hr : QW n 0 8
  ·simp (disch := omega) [GTerm.termB, hr]
  ·rw [QV] at hr
   have hr' : QW n 0 8 = true := by rw [QV]; exact hr
   have hl := Vq g.size g (by omega) hw 400 (by omega) (by omega)
   have h2' : leB 0 (ZF g.size 400) = decide (g.size ≤ 400) := by
    rw [Bool.eq_iff_iff]
    simp only [Qi, Qg, Ql, Qk, Qe, Qc, Bool.not_true, Bool.not_false, ZF, decide_eq_true_eq]
    split <;> omega
   simp (disch := omega)
   refine Qa hl (by simp) ?_
   by_cases hsz : g.size ≤ 400
   ·have hI : I64 s.size := ⟨by omega, by omega⟩
    have hf := ZkJ s.size true hI g.size g (by omega) hw n (by omega) (by omega)
    simp (disch := omega) [h2', hsz]
    refine Qa hf (by simp) ?_
    simp (disch := omega) [GTerm.termB, hr', hsz]
   ·simp (disch := omega) [h2', hsz, GTerm.termB]
theorem Zo4 {s : GSys} {ctx : Wx} {g : GTerm} (a : Arg s ctx g) (nlc : Bool) : Qd Tryz.prog Vt [s.lv, LC nlc ctx, g.lv] (· = B (inB s ctx g)) := by
 refine Qd.of_codeOf ZiB Qz (by simp) ⟨_, rfl, by simp⟩ ?_
 simp (disch := omega) [ZcQ, Qv, Qt]
 refine Qa (Jj s a.sw) (by simp) ?_
 cases hs : s.sys
 ·simp (disch := omega) [inB, hs]
 ·have t := GSys.sys_of hs
  simp (disch := omega)
  refine Qa (Zma s t nlc ctx a.cw) (by simp) ?_
  cases hc : Zf3 s.size ctx
  ·simp (disch := omega) [inB, hs, hc]
  ·simp (disch := omega)
   have it := ZjQ a.sw g a.gw ctx.length (ZkY a.cw)
   rw [hs] at it
   refine Qa it (by simp) ?_
   simp (disch := omega) [inB, hs, hc]
def ZmH (x : Option TT) (r : LV) : Prop := match x with
 | some x => ∃ u1 u2, r = .tup [OU u1 false x.ty, OU u2 false x.needs, B true]
 | none => ∃ u1 u2, r = .tup [.sl u1 true 1 [], .sl u2 true 1 [], B false]
theorem Jd {s : GSys} {ctx : Wx} {g : GTerm} (a : Arg s ctx g) (nlc : Bool) : Qd Tryz.prog Kx [s.lv, LC nlc ctx, g.lv] (ZmH (YR s ctx g)) := by
 refine Qd.of_codeOf Zkl Qz (by simp) ?_ ?_
 ·cases h : YR s ctx g with
  | some x => exact ⟨.tup [OU true false x.ty, OU true false x.needs, B true], ⟨true, true, rfl⟩, by simp⟩
  | none => exact ⟨.tup [.sl false true 1 [], .sl false true 1 [], B false], ⟨false, false, rfl⟩, by simp⟩
 simp (disch := omega) [ZdM, Qv, Qt]
 refine Qa (Zo4 a nlc) (by simp) ?_
 cases hin : inB s ctx g
 ·have hx : YR s ctx g = none := by simp [YR, hin]
  rw [hx]
  simp (disch := omega) [ZmH]
 ·have hin' := hin
  unfold inB at hin'
  simp only [Bool.and_eq_true] at hin'
  obtain ⟨hs, hc, ht⟩ := hin'
  obtain ⟨f1, f2, f3⟩ := a.flags hc
  unfold GTerm.termB at ht
  simp only [Bool.and_eq_true, decide_eq_true_eq] at ht
  have tl := ZfY hs g.size g nlc ctx (Nat.le_refl _) a.gw a.gf f1 f2 (by omega) ht.2.2
  simp (disch := omega)
  refine Qh (Qd.low tl) (by simp) ?_
  rintro r ⟨hr, lo⟩
  cases hT : Qr s (ctx.map Prod.snd) g with
  | ok x =>
   have hx : YR s ctx g = some x := by simp [YR, hin, hT]
   rw [hT] at hr
   obtain ⟨u1, u2, u4, n4, rfl⟩ := hr
   have hz : eqB 0 0 = true := by rw [Qe]
   rw [hx]
   simp (disch := omega) [Qv, Qt, hz, ZmH]
  | bad f p =>
   have hx : YR s ctx g = none := by simp [YR, hin, hT]
   rw [hT] at hr
   obtain ⟨hf, u1, u2, u4, n4, rfl⟩ := hr
   have hf0 : eqB f 0 = false := by rw [Qc]; exact hf
   rw [hx]
   simp (disch := omega) [Qv, Qt, hf0, ZmH]
end Go.Proofs.YtclfngbealdbgaaGreat
namespace Go.Proofs.YtclfngbealdbgaaGreat
open Go Go.TL
open Go.Proofs.YtclfngbealdbgaaGreat.Ty
set_option linter.unusedSimpArgs false
set_option linter.unusedVariables false
set_option maxRecDepth 20000
set_option maxHeartbeats 4000000
end Go.Proofs.YtclfngbealdbgaaGreat
