/- Part 7 of the proof of the row of the text YtclfngbealdbgaaGreatZRowForgetTerm: texts joined. No conditions. -/
import Derived.Test.YtclfngbealdbgaaGreatZfRowForgetTerm
namespace Go.Proofs.YtclfngbealdbgaaGreat
open Go Go.TL
open Go.Proofs.YtclfngbealdbgaaGreat.Ty
set_option linter.unusedSimpArgs false
set_option linter.unusedVariables false
set_option linter.unusedSectionVars false
set_option maxRecDepth 20000
set_option maxHeartbeats 4000000
def forgetO (s : GSys) (ctx : GCtx) (g : GTerm) : Option GTerm := match tellO s ctx g with
  | some x => if (fgG g x).size ≤ 400 then some (fgG g x) else none
  | none => none
def noT : GTerm := .mk 0 0 true [] true []
def outI (w : Option GTerm) : LV := .tup [.agg (w.getD noT).ownC, B w.isSome]
@[simp] theorem low_outI (w : Option GTerm) (k : Nat) : Low k (outI w) := by simp [outI]
theorem nz_no : nz (.tup [.agg [N 0, N 0, .sl true true 1 [], .sl true true 1 []], B false]) = nz (outI none) := by simp [outI, noT, GTerm.ownC, ownCs, nz, nzAll]
theorem fg_termB {s : GSys} {ctx : GCtx} {g : GTerm} (a : Arg s ctx g) {x : TT} (h : tellO s ctx g = some x) : (fgG g x).termB s.size ctx.length = decide ((fgG g x).size ≤ 400) ∧ (fgG g x).wf := by
  obtain ⟨_, hs, hc, ht, h8, hT⟩ := tellO_good a h
  obtain ⟨f1, f2, _⟩ := a.flags hc
  unfold GTerm.termB at ht
  simp only [Bool.and_eq_true, decide_eq_true_eq] at ht
  have hf := fg_form (GSys.sys_of hs) g.size g (ctx.map Prod.snd) x (Nat.le_refl _) (fun l hl => by
    obtain ⟨c, hc, rfl⟩ := List.mem_map.1 hl
    exact f1 c hc) (by rw [List.length_map]; exact ht.2.2) hT
  rw [List.length_map] at hf
  have hsz := fgG_size g x
  refine ⟨?_, form_wf (GSys.sys_of hs).hi _ _ (by have := ht.2.1; omega) hf⟩
  unfold GTerm.termB
  rw [ht.1, hf]; simp
theorem ForgetTerm_ok {s : GSys} {ctx : GCtx} {g : GTerm} (a : Arg s ctx g) (nlc : Bool) : Gives Tryz.prog n_impl_ForgetTerm [s.lv, LC nlc ctx, g.lv] (· = outI (forgetO s ctx g)) := by
  refine Gives.nzR (R := fun r => nz r = nz (outI (forgetO s ctx g))) ?_ (fun r h => ⟨_, h.symm, rfl, by simp⟩)
  refine Gives.of_codeOf c_impl_ForgetTerm mixed (by simp) ⟨_, rfl, by simp⟩ ?_
  simp (disch := omega) [k_impl_ForgetTerm, boxLV, frzLV]
  refine onCall_gives (Gives.low (typedOf_ok a nlc)) (by simp) ?_
  rintro r ⟨hr, lo⟩
  have hI := wf_I64len a.cw
  by_cases hin : inB s ctx g = true
  · rw [if_pos hin] at hr
    cases hT : tellG s (ctx.map Prod.snd) g with
    | ok x =>
      have hx : tellO s ctx g = some x := by simp [tellO, hin, hT]
      obtain ⟨hg, hs, hc, ht, hc8, _⟩ := tellO_good a hx
      obtain ⟨f1, f2, _⟩ := a.flags hc
      obtain ⟨htb, hwf⟩ := fg_termB a hx
      unfold GTerm.termB at ht
      simp only [Bool.and_eq_true, decide_eq_true_eq] at ht
      rw [hT] at hr
      have FT := forgetTerm_ok hs g.size g (ctx.map Prod.snd) x (share r) (Nat.le_refl _) a.gw (fun l hl => by
        obtain ⟨c, hc, rfl⟩ := List.mem_map.1 hl
        exact f1 c hc) (by rw [List.length_map]; exact ht.2.2) hT hr
      have IT := isTermOf_ok (GSys.sys_of hs) (fgG g x).nm (wf_nm _ hwf) ctx.length hI
      rw [termB_nm, htb] at IT
      have hls := is_share _ _ hr
      have ho : forgetO s ctx g = if (fgG g x).size ≤ 400 then some (fgG g x) else none := by simp [forgetO, hx]
      have hr' := hr
      obtain ⟨xty, xnd, xks⟩ := x
      simp only [Res.is, TT.is] at hr'
      obtain ⟨n3, n4, rows, hs2, hrr⟩ := hr'
      have hz0 : eqB 0 0 = true := by rw [eqB_true]
      have hrs := (are_share _ rows hrr).1
      rw [hs2] at FT hls
      simp (disch := omega) [hs2, hz0, hrs, bin_prp]
      refine onCall_eq FT (by simp [hls.2]) ?_
      simp (disch := omega) [hs2]
      refine onCall_eq IT (by simp) ?_
      rw [ho]
      by_cases h4 : (fgG g (.mk xty xnd xks)).size ≤ 400
      · rw [if_pos h4]
        simp (disch := omega) [h4]
        rfl
      · rw [if_neg h4]
        simp (disch := omega) [h4]
        exact nz_no
    | bad f p =>
      have hx : tellO s ctx g = none := by simp [tellO, hin, hT]
      have ho : forgetO s ctx g = none := by simp [forgetO, hx]
      rw [hT] at hr
      obtain ⟨hf, n4, hs2⟩ := hr
      have hf0 : eqB f 0 = false := by rw [eqB_false]; exact hf
      rw [ho]
      simp (disch := omega) [hs2, hf0, bin_prp]
      exact nz_no
  · rw [if_neg hin] at hr
    subst hr
    have hx : tellO s ctx g = none := by simp [tellO, hin]
    have ho : forgetO s ctx g = none := by simp [forgetO, hx]
    rw [ho]
    simp (disch := omega) [bin_pnil]
    exact nz_no
def outS (o : Option GTerm) (r : LV) : Prop := ∃ w : GTerm, r = .tup [w.lv, B o.isSome] ∧ w.nm = (o.getD noT).nm
def outZ (o : Option GTerm) (r : LV) : Prop := ∃ w : GTerm, nz r = nz (.tup [w.lv, B o.isSome]) ∧ w.nm = (o.getD noT).nm
theorem outZ_no : outZ none (.tup [.agg [N 0, N 0, .sl true true 1 [], .sl true true 1 []], B false]) := ⟨noT, by simp [noT, GTerm.cells, rowsOf, nz, nzAll], rfl⟩
theorem outS_ex (o : Option GTerm) : ∃ r, outS o r ∧ Low 0 r := ⟨.tup [(o.getD noT).lv, B o.isSome], ⟨_, rfl, rfl⟩, by simp⟩
mutual
theorem nm_wf : ∀ a b : GTerm, a.nm = b.nm → b.wf → a.wf
  | .mk op n nl1 ty nl2 ks, .mk op' n' nl1' ty' nl2' ks', h, hw => by
    simp only [GTerm.nm, GTerm.mk.injEq] at h
    obtain ⟨rfl, rfl, _, rfl, _, h⟩ := h
    simp only [GTerm.wf] at hw ⊢
    exact ⟨hw.1, hw.2.1, hw.2.2.1, by rw [fg_nm_len h]; exact hw.2.2.2.1, nms_wf ks ks' h hw.2.2.2.2⟩
theorem nms_wf : ∀ a b : List GTerm, nms a = nms b → wfs b → wfs a
  | [], _, _, _ => by simp [wfs]
  | _ :: _, [], h, _ => by simp [nms] at h
  | a :: a', b :: b', h, hw => by
    simp only [nms, List.cons.injEq, wfs] at h hw ⊢
    exact ⟨nm_wf a b h.1 hw.1, nms_wf a' b' h.2 hw.2⟩
end
theorem nm_size {a b : GTerm} (h : a.nm = b.nm) : a.size = b.size := by rw [← size_nm a, h, size_nm]
theorem specForgetTerm_ok {s : GSys} {ctx : GCtx} {g : GTerm} (a : Arg s ctx g) (nlc : Bool) : Gives Tryz.prog n_spec_ForgetTerm [s.lv, LC nlc ctx, g.lv] (outS (forgetO s ctx g)) := by
  refine Gives.nzR (R := outZ (forgetO s ctx g)) ?_ (fun r h => by
    obtain ⟨w, h1, h2⟩ := h
    exact ⟨_, h1.symm, ⟨w, rfl, h2⟩, by simp⟩)
  refine Gives.of_codeOf c_spec_ForgetTerm mixed (by simp) (by
    obtain ⟨r, ⟨w, rfl, h⟩, h2⟩ := outS_ex (forgetO s ctx g)
    exact ⟨_, ⟨w, rfl, h⟩, h2⟩) ?_
  simp (disch := omega) [k_spec_ForgetTerm, boxLV, frzLV]
  refine onCall_gives (Gives.low (specTypeOf_ok a nlc)) (by simp) ?_
  rintro r ⟨hr, lo⟩
  cases hx : tellO s ctx g with
  | none =>
    rw [hx] at hr
    obtain ⟨u1, u2, rfl⟩ := hr
    have ho : forgetO s ctx g = none := by simp [forgetO, hx]
    rw [ho]
    simp (disch := omega)
    exact outZ_no
  | some x =>
    rw [hx] at hr
    obtain ⟨u1, u2, rfl⟩ := hr
    have ho : forgetO s ctx g = if (fgG g x).size ≤ 400 then some (fgG g x) else none := by simp [forgetO, hx]
    obtain ⟨hg, hs, hc, ht, hc8, hT⟩ := tellO_good a hx
    obtain ⟨f1, f2, _⟩ := a.flags hc
    obtain ⟨_, hwf⟩ := fg_termB a hx
    unfold GTerm.termB at ht
    simp only [Bool.and_eq_true, decide_eq_true_eq] at ht
    have LF := l10Forget_ok hs g.size g nlc ctx x (Nat.le_refl _) a.gw a.gf f1 f2 (by omega) ht.2.2 hT
    simp (disch := omega)
    refine onCall_gives (Gives.low LF) (by simp) ?_
    rintro r2 ⟨⟨w, cs, rfl, hcs, hwn⟩, lo2⟩
    obtain ⟨c0, c1, c2, c3, rfl⟩ := len4 (cs := cs) (by rw [← shareAll_length, hcs]; simp)
    have hsz : w.size = (fgG g x).size := nm_size hwn
    have LL := l2Left_ok w.size w (by omega) (nm_wf _ _ hwn hwf) 400 (by omega) (by omega)
    have hle : ltB (leftI w.size 400) 0 = !decide ((fgG g x).size ≤ 400) := by
      rw [Bool.eq_iff_iff, ltB_true, ← hsz]; unfold leftI; split <;> simp <;> omega
    simp only [shareAll] at hcs
    simp (disch := omega) [frzLV, hcs]
    refine onCall_eq LL (by simp) ?_
    rw [ho]
    by_cases h4 : (fgG g x).size ≤ 400
    · rw [if_pos h4]
      have hle : ltB (leftI w.size 400) 0 = false := by rw [hle]; simp [h4]
      simp (disch := omega) [hle, hcs]
      exact ⟨w, by simp [nz], hwn⟩
    · rw [if_neg h4]
      have hle : ltB (leftI w.size 400) 0 = true := by rw [hle]; simp [h4]
      simp (disch := omega) [hle, hcs]
      exact outZ_no
end Go.Proofs.YtclfngbealdbgaaGreat
namespace Go.Proofs.YtclfngbealdbgaaGreat
open Go Go.TL
set_option linter.unusedSimpArgs false
set_option linter.unusedVariables false
set_option linter.unusedSectionVars false
set_option maxRecDepth 20000
set_option maxHeartbeats 4000000
theorem thRow_app {sz : Nat} : ∀ {a b : List (List LV)} {n : Nat} {cells : List LV} {bs : List Box}, ThRow (a ++ b) sz n cells bs ↔ ∃ c1 b1 c2 b2, cells = c1 ++ c2 ∧ bs = b1 ++ b2 ∧ ThRow a sz n c1 b1 ∧ ThRow b sz (n + b1.length) c2 b2
  | [], b, n, cells, bs => by
    simp only [List.nil_append, ThRow]
    constructor
    · intro h; exact ⟨[], [], cells, bs, by simp, by simp, ⟨rfl, rfl⟩, by simpa using h⟩
    · rintro ⟨c1, b1, c2, b2, rfl, rfl, ⟨rfl, rfl⟩, h⟩; simpa using h
  | row :: a, b, n, cells, bs => by
    simp only [List.cons_append, ThRow]
    constructor
    · rintro ⟨c1, b1, c2, b2, h1, h2, h3, rfl, rfl⟩
      obtain ⟨c3, b3, c4, b4, rfl, rfl, h4, h5⟩ := thRow_app.1 h3
      exact ⟨c1 ++ c3, b1 ++ b3, c4, b4, by simp, by simp, ⟨c1, b1, c3, b3, h1, h2, h4, rfl, rfl⟩, by simpa [Nat.add_assoc] using h5⟩
    · rintro ⟨c1, b1, c2, b2, rfl, rfl, ⟨c3, b3, c4, b4, h1, h2, h3, rfl, rfl⟩, h5⟩
      exact ⟨c3, b3, c4 ++ c2, b4 ++ b2, h1, h2, thRow_app.2 ⟨c4, b4, c2, b2, rfl, rfl, h3, by simpa [Nat.add_assoc] using h5⟩, by simp, by simp⟩
theorem thAll_len : ∀ {xs : List LV} {n : Nat} {ys : List LV} {bs : List Box}, ThAll xs n ys bs → ys.length = xs.length
  | [], n, ys, bs, h => by simp only [ThAll] at h; simp [h.1]
  | x :: xs, n, ys, bs, h => by
    simp only [ThAll] at h
    obtain ⟨y, b1, ys', b2, _, h2, rfl, _⟩ := h
    simp [thAll_len h2]
theorem thRow_len {sz : Nat} : ∀ {rows : List (List LV)} {n : Nat} {cells : List LV} {bs : List Box}, ThRow rows sz n cells bs → cells.length = rows.length * sz
  | [], n, cells, bs, h => by simp only [ThRow] at h; simp [h.1]
  | row :: rows, n, cells, bs, h => by
    simp only [ThRow] at h
    obtain ⟨c1, b1, c2, b2, h1, h2, h3, rfl, rfl⟩ := h
    rw [List.length_append, thAll_len h2, thRow_len h3, h1, List.length_cons, Nat.succ_mul]; omega
mutual
def GTerm.ownF : GTerm → List LV
  | .mk op n nl1 ty nl2 ks => [N op, N n, OU (!nl1) nl1 ty, .sl (!nl2) nl2 4 (ownFs ks)]
def ownFs : List GTerm → List (List LV)
  | [] => []
  | k :: ks => k.ownF :: ownFs ks
end
theorem ownFs_eq : ∀ ks : List GTerm, ownFs ks = ks.map GTerm.ownF
  | [] => by simp [ownFs]
  | k :: ks => by simp [ownFs, ownFs_eq ks]
@[simp] theorem ownFs_length (ks : List GTerm) : (ownFs ks).length = ks.length := by simp [ownFs_eq]
@[simp] theorem ownF_length (t : GTerm) : t.ownF.length = 4 := by cases t; simp [GTerm.ownF]
mutual
theorem share_ownF : ∀ t : GTerm, shareAll t.ownF = t.cells
  | .mk op n nl1 ty nl2 ks => by
    simp only [GTerm.ownF, GTerm.cells, shareAll, share, share_ownFs ks]
    congr 3
    simp
theorem share_ownFs : ∀ ks : List GTerm, shareRow (ownFs ks) = rowsOf ks
  | [] => by simp [ownFs, rowsOf, shareRow]
  | k :: ks => by simp only [ownFs, rowsOf, shareRow, share_ownF k, share_ownFs ks]
end
mutual
theorem own_ownF : ∀ t : GTerm, t.own = t.norm.ownF
  | .mk op n nl1 ty nl2 ks => by simp [GTerm.own, GTerm.norm, GTerm.ownF, owns_ownFs ks]
theorem owns_ownFs : ∀ ks : List GTerm, owns ks = ownFs (norms ks)
  | [] => by simp [owns, norms, ownFs]
  | k :: ks => by simp [owns, norms, ownFs, own_ownF k, owns_ownFs ks]
end
mutual
def GTerm.cnt : GTerm → Nat
  | .mk _ _ _ ty _ ks => 2 + ty.length + cnts ks
def cnts : List GTerm → Nat
  | [] => 0
  | k :: ks => k.cnt + cnts ks
end
mutual
def mkT (k : Int) : GTerm → GTerm
  | .mk _ _ nl1 ty nl2 ks => .mk k (k + 1) nl1 (marksF mI (k + 2) ty.length) nl2 (mkTs (k + 2 + ty.length) ks)
def mkTs (k : Int) : List GTerm → List GTerm
  | [] => []
  | t :: ks => mkT k t :: mkTs (k + t.cnt) ks
end
theorem cnts_app : ∀ a b : List GTerm, cnts (a ++ b) = cnts a + cnts b
  | [], b => by simp [cnts]
  | k :: a, b => by simp [cnts, cnts_app a b]; omega
theorem mkTs_snoc : ∀ (a : List GTerm) (b : GTerm) (k : Int), mkTs k (a ++ [b]) = mkTs k a ++ [mkT (k + cnts a) b]
  | [], b, k => by simp [mkTs, cnts]
  | t :: a, b, k => by
    simp only [List.cons_append, mkTs, mkTs_snoc a b, cnts]
    congr 4
    push_cast; omega
@[simp] theorem mkTs_length : ∀ (a : List GTerm) (k : Int), (mkTs k a).length = a.length
  | [], k => by simp [mkTs]
  | t :: a, k => by simp [mkTs, mkTs_length a]
theorem mkTs_get : ∀ (a : List GTerm) (k : Int) (i : Nat) (h : i < a.length), (mkTs k a)[i]'(by simpa using h) = mkT (k + cnts (a.take i)) a[i]
  | [], k, i, h => by simp at h
  | t :: a, k, 0, h => by simp [mkTs, cnts]
  | t :: a, k, i + 1, h => by
    simp only [mkTs, List.getElem_cons_succ, List.take_succ_cons, cnts]
    rw [mkTs_get a _ i (by simpa using h)]
    congr 1
    push_cast; omega
theorem cnts_take {ks : List GTerm} {i : Nat} (h : i < ks.length) : cnts (ks.take (i + 1)) = cnts (ks.take i) + (ks[i]).cnt := by
  rw [List.take_succ_eq_append_getElem h, cnts_app]; simp [cnts]
theorem cnts_le (ks : List GTerm) (i : Nat) : cnts (ks.take i) ≤ cnts ks := by
  have := cnts_app (ks.take i) (ks.drop i)
  rw [List.take_append_drop] at this; omega
theorem cnt_kid {ks : List GTerm} {i : Nat} (h : i < ks.length) : cnts (ks.take i) + (ks[i]).cnt ≤ cnts ks := by
  rw [← cnts_take h]; exact cnts_le _ _
theorem thT {op n : Int} {T K : LV} {m : Nat} {cs : List LV} {bs : List Box} : ThAll [N op, N n, T, K] m cs bs ↔ ∃ yT bT yK bK, cs = [N op, N n, yT, yK] ∧ bs = bT ++ bK ∧ Th T m yT bT ∧ Th K (m + bT.length) yK bK := by
  simp only [ThAll, Th]
  constructor
  · rintro ⟨_, _, _, _, ⟨rfl, rfl⟩, ⟨_, _, _, _, ⟨rfl, rfl⟩, ⟨yT, bT, _, _, h1, ⟨yK, bK, _, _, h2, ⟨rfl, rfl⟩, rfl, rfl⟩, rfl, rfl⟩, rfl, rfl⟩, rfl, rfl⟩
    exact ⟨yT, bT, yK, bK, rfl, by simp, by simpa using h1, by simpa using h2⟩
  · rintro ⟨yT, bT, yK, bK, rfl, rfl, h1, h2⟩
    exact ⟨_, [], _, _, ⟨rfl, rfl⟩, ⟨_, [], _, _, ⟨rfl, rfl⟩, ⟨yT, bT, _, _, by simpa using h1, ⟨yK, bK, _, [], by simpa using h2, ⟨rfl, rfl⟩, rfl, rfl⟩, rfl, rfl⟩, rfl, rfl⟩, rfl, by simp⟩
end Go.Proofs.YtclfngbealdbgaaGreat
namespace Go.Proofs.YtclfngbealdbgaaGreat
open Go Go.TL
set_option linter.unusedSimpArgs false
set_option linter.unusedVariables false
set_option linter.unusedSectionVars false
set_option maxRecDepth 20000
set_option maxHeartbeats 4000000
theorem len_sizes : ∀ ks : List GTerm, ks.length ≤ sizes ks
  | [] => by simp [sizes]
  | k :: ks => by have := len_sizes ks; have := k.size_pos; simp [sizes]; omega
theorem ex_i {u nl : Bool} {l : List Int} {n : Nat} {y : LV} {b : List Box} (h : Th (OU u nl l) n y b) (k : Int) : ∃ b', b'.length = b.length ∧ Th (OU u nl (marksF mI k l.length)) n y b' := by
  have hm : (marksF mI k l.length).length = l.length := marksF_length _ k l.length
  rcases (th_sc (fun n : Int => Value.int .i64 n)).1 h with ⟨rfl, rfl, rfl⟩ | ⟨rfl, hne, slack, cap, hcap, rfl, rfl⟩
  · exact ⟨[], rfl, (th_sc (fun n : Int => Value.int .i64 n)).2 (.inl ⟨rfl, rfl, rfl⟩)⟩
  · have hne2 : marksF mI k l.length ≠ [] := by
      intro h; rw [h] at hm; exact hne (List.eq_nil_of_length_eq_zero (by simpa using hm.symm))
    exact ⟨[some ((marksF mI k l.length).map (fun x => .sc ((fun n : Int => Value.int .i64 n) x)) ++ List.replicate slack .dead)], rfl, (th_sc (fun n : Int => Value.int .i64 n)).2 (.inr ⟨rfl, hne2, slack, cap, by rw [hm]; exact hcap, by rw [hm], rfl⟩)⟩
mutual
theorem ex_t : ∀ (t : GTerm) (k : Int) (n : Nat) (c : List LV) (b : List Box), ThAll t.ownF n c b → ∃ c' b', b'.length = b.length ∧ c'.length = c.length ∧ ThAll (mkT k t).ownF n c' b'
  | .mk op m nl1 ty nl2 ks, k, n, c, b, h => by
    simp only [GTerm.ownF, mkT] at h ⊢
    obtain ⟨yT, bT, yK, bK, rfl, rfl, h1, h2⟩ := thT.1 h
    obtain ⟨bT', q1, q2⟩ := ex_i h1 (k + 2)
    simp only [Th] at h2
    rcases h2 with ⟨hn, rfl, rfl⟩ | ⟨rfl, hne, cells, bs', slack, cap, hrow, hcap, rfl, rfl⟩
    · have hks : ks = [] := by rw [ownFs_eq] at hn; simpa using hn
      subst hks
      exact ⟨_, bT', by simp [q1], by simp, thT.2 ⟨yT, bT', .sl false nl2 4 [], [], rfl, by simp, q2, by simp [Th, mkTs, ownFs]⟩⟩
    · obtain ⟨cells', bs2, q3, q4⟩ := ex_s ks (k + 2 + ty.length) _ _ _ hrow
      refine ⟨_, bT' ++ (bs2 ++ [some (cells' ++ List.replicate slack .dead)]), by simp [q1, q3], by simp, thT.2 ⟨yT, bT', .ha (n + bT.length + bs2.length) 4 0 ks.length cap, _, rfl, rfl, q2, ?_⟩⟩
      simp only [Th]
      refine .inr ⟨trivial, ?_, cells', bs2, slack, cap, by rw [q1]; exact q4, by simpa using hcap, by simp [q1], rfl⟩
      intro h
      have := congrArg List.length h
      rw [ownFs_length, mkTs_length] at this
      exact hne (by rw [ownFs_eq, List.eq_nil_of_length_eq_zero this]; rfl)
theorem ex_s : ∀ (ks : List GTerm) (k : Int) (n : Nat) (cells : List LV) (bs : List Box), ThRow (ownFs ks) 4 n cells bs → ∃ cells' bs', bs'.length = bs.length ∧ ThRow (ownFs (mkTs k ks)) 4 n cells' bs'
  | [], k, n, cells, bs, h => ⟨cells, bs, rfl, by simpa [mkTs] using h⟩
  | t :: ks, k, n, cells, bs, h => by
    simp only [ownFs, mkTs, ThRow] at h ⊢
    obtain ⟨c1, b1, c2, b2, _, h1, h2, rfl, rfl⟩ := h
    obtain ⟨c1', b1', q1, q2, q3⟩ := ex_t t k n c1 b1 h1
    obtain ⟨c2', b2', q4, q5⟩ := ex_s ks (k + t.cnt) _ c2 b2 h2
    exact ⟨_, b1' ++ b2', by simp [q1, q4], c1', b1', c2', b2', by simp, q3, by rw [q1]; exact q5, rfl, rfl⟩
end
theorem ex_sl {u nl : Bool} {ks : List GTerm} {n : Nat} {y : LV} {bs : List Box} (h : Th (.sl u nl 4 (ownFs ks)) n y bs) (k : Int) : ∃ bs', bs'.length = bs.length ∧ Th (.sl u nl 4 (ownFs (mkTs k ks))) n y bs' := by
  simp only [Th] at h
  rcases h with ⟨hn, rfl, rfl⟩ | ⟨rfl, hne, cells, bs', slack, cap, hrow, hcap, rfl, rfl⟩
  · have hks : ks = [] := by rw [ownFs_eq] at hn; simpa using hn
    subst hks
    exact ⟨[], rfl, by simp [Th, mkTs, ownFs]⟩
  · obtain ⟨cells', bs2, q3, q4⟩ := ex_s ks k _ _ _ hrow
    refine ⟨bs2 ++ [some (cells' ++ List.replicate slack .dead)], by simp [q3], ?_⟩
    simp only [Th]
    refine .inr ⟨trivial, ?_, cells', bs2, slack, cap, q4, by simpa using hcap, by simp [q3], rfl⟩
    intro h
    have := congrArg List.length h
    rw [ownFs_length, mkTs_length] at this
    exact hne (by rw [ownFs_eq, List.eq_nil_of_length_eq_zero this]; rfl)
theorem onCall_anyE {P : Program} {K : St → Prop} {s : St} {d : Nat} {f : FuncId} {vals : List LV} {h0 : List Box} {R : LV → List Box → Prop} (c : LCalls P f vals h0 R) (e : s.h = h0) (hk : ∀ r h', R r h' → K { t := upd s.t d r, h := h' }) : onCall P .any f vals (some d) K s :=
  onCall_any (by rw [e]; exact c) hk
theorem markTermS_ok (d : Nat) : ∀ (ks : List GTerm) (u nl : Bool) (k : Int) (h1 h2 : List Box) (y : LV) (bs : List Box), sizes ks ≤ d → 0 ≤ k ∧ k + cnts ks ≤ 4611686018427387904 → sizes ks ≤ 1000000000000000 → Th (.sl u nl 4 (ownFs ks)) h1.length y bs →
    LCalls Tryz.prog n_laws_markTermS [y, N k] (h1 ++ bs ++ h2) (fun r h' => r = N (k + cnts ks) ∧ ∃ bs', bs'.length = bs.length ∧ Th (.sl u nl 4 (ownFs (mkTs k ks))) h1.length y bs' ∧ h' = h1 ++ bs' ++ h2) := by
  induction d with
  | zero =>
    intro ks u nl k h1 h2 y bs hsz hk hkl ht
    have hks : ks = [] := List.eq_nil_of_length_eq_zero (by have := len_sizes ks; omega)
    subst hks
    simp only [Th, ownFs] at ht
    rcases ht with ⟨_, rfl, rfl⟩ | ⟨_, h, _⟩
    · refine LCalls.of_codeOf c_laws_markTermS mixed (by simp) ⟨_, _, rfl, [], rfl, by simp [Th, mkTs, ownFs], rfl⟩ ?_
      simp (disch := omega) [k_laws_markTermS]
      refine wpC_for 0 0 (fun i t h => t 5 = N 0 ∧ t 1 = N k ∧ h = h1 ++ h2) (by simp) (by omega) ?_
      rintro i t1 hh hf hi ⟨e5, e1, rfl⟩
      (have e0 := hf 0 (by kernel_rfl); clear hf; simp [] at e0)
      simp (disch := omega) [e0, e1, e5]
      refine post_tmp (.inr rfl) (by simp) ?_
      simp [Th, mkTs, ownFs, cnts]
    · exact absurd rfl h
  | succ d ih =>
    intro ks u nl k h1 h2 y bs hsz hk hkl' ht
    have hkl := Nat.le_trans (len_sizes ks) hkl'
    have ht0 := ht
    simp only [Th] at ht
    rcases ht with ⟨hnil, rfl, rfl⟩ | ⟨rfl, hne, cells, bs', slack, cap, hrow, hcap, rfl, rfl⟩
    · have hks : ks = [] := by rw [ownFs_eq] at hnil; simpa using hnil
      subst hks
      refine LCalls.of_codeOf c_laws_markTermS mixed (by simp) ⟨_, _, rfl, [], rfl, by simp [Th, mkTs, ownFs], rfl⟩ ?_
      simp (disch := omega) [k_laws_markTermS]
      refine wpC_for 0 0 (fun i t h => t 5 = N 0 ∧ t 1 = N k ∧ h = h1 ++ h2) (by simp) (by omega) ?_
      rintro i t1 hh hf hi ⟨e5, e1, rfl⟩
      (have e0 := hf 0 (by kernel_rfl); clear hf; simp [] at e0)
      simp (disch := omega) [e0, e1, e5]
      refine post_tmp (.inr rfl) (by simp) ?_
      simp [Th, mkTs, ownFs, cnts]
    · rw [ownFs_length] at hcap
      obtain ⟨A, hA⟩ : ∃ A, h1 ++ bs' = A := ⟨_, rfl⟩
      have hAl : h1.length + bs'.length = A.length := by rw [← hA]; simp
      have hh0 : h1 ++ (bs' ++ [some (cells ++ List.replicate slack .dead)]) ++ h2 = A ++ some (cells ++ List.replicate slack .dead) :: h2 := by rw [← hA]; simp
      rw [hh0, hAl]
      refine LCalls.of_codeOf c_laws_markTermS mixed (by simp) (by
        obtain ⟨bs2, q1, q2⟩ := ex_sl ht0 k
        rw [hAl] at q2
        exact ⟨_, _, rfl, bs2, q1, q2, rfl⟩) ?_
      simp (disch := omega) [k_laws_markTermS]
      refine wpC_for ks.length 0 (fun i t h => t 5 = N i ∧ t 1 = N (k + cnts (ks.take i)) ∧ ∃ cD bD cR bR, h = h1 ++ (bD ++ bR) ++ some (cD ++ (cR ++ List.replicate slack .dead)) :: h2 ∧ bD.length + bR.length = bs'.length ∧
        ThRow (ownFs (mkTs k (ks.take i))) 4 h1.length cD bD ∧ ThRow (ownFs (ks.drop i)) 4 (h1.length + bD.length) cR bR) ?_ (by omega) ?_
      · refine ⟨by simp, by simp [cnts], [], [], cells, bs', by rw [← hA]; simp, by simp, by simp [mkTs, ownFs, ThRow], by simpa using hrow⟩
      rintro i t1 hh hf hi ⟨e5, e1, cD, bD, cR, bR, rfl, hbl, hD, hR⟩
      (have e0 := hf 0 (by kernel_rfl); clear hf; simp [] at e0)
      by_cases h6 : i < ks.length
      · have hb : ltB (i : Int) ks.length = true := by rw [ltB_true]; omega
        have hck := cnt_kid h6
        have hct := cnts_take h6
        have hcDl := thRow_len hD
        have hsk := size_kid h6
        rw [ownFs_length, mkTs_length, List.length_take, Nat.min_eq_left hi] at hcDl
        rw [List.drop_eq_getElem_cons h6] at hR
        obtain ⟨⟨op, n, nl1, ty, nl2, kk⟩, hki⟩ : ∃ g, ks[i] = g := ⟨_, rfl⟩
        rw [hki] at hR hck hct hsk
        simp only [ownFs, ThRow, GTerm.ownF] at hR
        obtain ⟨c1, b1, c2, b2, _, hT, hR2, rfl, rfl⟩ := hR
        obtain ⟨yT, bT, yK, bK, rfl, rfl, hyT, hyK⟩ := thT.1 hT
        simp only [GTerm.cnt, GTerm.size] at hck hct hsk
        obtain ⟨A1, hA1⟩ : ∃ A1, h1 ++ (bD ++ (bT ++ bK ++ b2)) = A1 := ⟨_, rfl⟩
        have hA1l : A.length = A1.length := by rw [← hA1, ← hAl]; simp at hbl ⊢; omega
        rw [hA1l] at e0
        rw [hA1]
        have htk : ∀ (j : Nat) (rest : List LV), List.take (i * 4 + j) (cD ++ rest) = cD ++ rest.take j := fun j rest => by
          rw [← hcDl, List.take_append, List.take_of_length_le (by omega)]; simp
        have hdr : ∀ (j : Nat) (rest : List LV), List.drop (i * 4 + j) (cD ++ rest) = rest.drop j := fun j rest => by
          rw [← hcDl, List.drop_append]; simp
        have hdr2 : ∀ (rest : List LV), List.drop (i * 4 + 1 + 1) (cD ++ rest) = rest.drop 2 := fun rest => hdr 2 rest
        have htk0 : ∀ (rest : List LV), List.take (i * 4) (cD ++ rest) = cD := fun rest => List.take_left' hcDl
        have sT := Th.share _ _ _ _ hyT
        have sK := Th.share _ _ _ _ hyK
        have aT := Th.alive _ _ _ _ hyT
        have aK := Th.alive _ _ _ _ hyK
        simp (disch := omega) [e0, e1, e5, hb, idx_ha, i64_wrap, htk, hdr, hdr2, htk0, sT, sK]
        refine ⟨by omega, by omega, ⟨by omega, aT⟩, ?_⟩
        obtain ⟨k', hk'⟩ : ∃ k' : Int, k + cnts (ks.take i) = k' := ⟨_, rfl⟩
        rw [hk']
        rw [show k' + 1 + 1 = k' + 2 by omega]
        obtain ⟨X, hX⟩ : ∃ X, X = cD ++ N k' :: N (k' + 1) :: yT :: yK :: (c2 ++ List.replicate slack .dead) := ⟨_, rfl⟩
        rw [← hX]
        have MI := markIntS_ok (!nl1) nl1 ty (k' + 2) (by omega) (h1 ++ bD) (bK ++ b2 ++ some X :: h2) yT bT (by simpa using hyT)
        refine onCall_anyE MI (by simp [← hA1]) ?_
        rintro r h' ⟨rfl, bT', hbT, hyT2, rfl⟩
        obtain ⟨A2, hA2⟩ : ∃ A2, h1 ++ bD ++ bT' ++ (bK ++ b2) = A2 := ⟨_, rfl⟩
        have hA2l : A1.length = A2.length := by rw [← hA1, ← hA2]; simp; omega
        have hh2 : h1 ++ bD ++ bT' ++ (bK ++ b2 ++ some X :: h2) = A2 ++ some X :: h2 := by rw [← hA2]; simp
        rw [hA2l] at e0
        rw [hh2, hX]
        simp (disch := omega) [e0, e1, e5, hb, idx_ha, i64_wrap, htk, hdr, hdr2, htk0, sT, sK]
        refine ⟨⟨by omega, aK⟩, ?_⟩
        rw [← hX]
        have MK := ih kk (!nl2) nl2 (k' + 2 + ty.length) (h1 ++ bD ++ bT') (b2 ++ some X :: h2) yK bK (by omega) (by omega) (by omega) (by
          have : (h1 ++ bD ++ bT').length = h1.length + bD.length + bT.length := by simp; omega
          rw [this]; exact hyK)
        refine onCall_anyE MK (by simp [← hA2]) ?_
        rintro r h' ⟨rfl, bK', hbK, hyK2, rfl⟩
        simp (disch := omega) [e0, e1, e5, i64_wrap, h6]
        refine ⟨by omega, cD ++ [N k', N (k' + 1), yT, yK], bD ++ (bT' ++ bK'), c2, b2, by simp [hX], by simp at hbl ⊢; omega, ?_, ?_⟩
        · rw [List.take_succ_eq_append_getElem h6, hki, mkTs_snoc, ownFs_eq, List.map_append, ← ownFs_eq, hk']
          refine thRow_app.2 ⟨cD, bD, _, _, rfl, rfl, hD, ?_⟩
          simp only [List.map_cons, List.map_nil, mkT, GTerm.ownF, ThRow]
          refine ⟨_, bT' ++ bK', [], [], rfl, thT.2 ⟨yT, bT', yK, bK', rfl, rfl, by simpa using hyT2, ?_⟩, ⟨rfl, rfl⟩, by simp, by simp⟩
          simpa [Nat.add_assoc] using hyK2
        · have : h1.length + (bD ++ (bT' ++ bK')).length = h1.length + bD.length + (bT ++ bK).length := by simp; omega
          rw [this]; exact hR2
      · have hb : ltB (i : Int) ks.length = false := by rw [ltB_false]; omega
        have hik : i = ks.length := by omega
        have e := List.take_of_length_le (l := ks) (i := i) (by omega)
        rw [e] at hD e1
        rw [List.drop_of_length_le (by omega)] at hR
        simp only [ownFs, ThRow] at hR
        obtain ⟨rfl, rfl⟩ := hR
        simp (disch := omega) [e0, e1, e5, hb]
        refine post_tmp (.inr rfl) (by simp at hbl ⊢; rw [← hA]; simp; omega) ?_
        refine ⟨by simp, bD ++ [some (cD ++ List.replicate slack .dead)], by simp at hbl ⊢; omega, ?_, by simp⟩
        simp only [Th]
        refine .inr ⟨trivial, ?_, cD, bD, slack, cap, hD, by simpa using hcap, ?_, rfl⟩
        · intro h
          have := congrArg List.length h
          rw [ownFs_length, mkTs_length] at this
          exact hne (by rw [ownFs_eq, List.eq_nil_of_length_eq_zero this]; rfl)
        · simp at hbl ⊢
          omega
end Go.Proofs.YtclfngbealdbgaaGreat
namespace Go.Proofs.YtclfngbealdbgaaGreat
open Go Go.TL
set_option linter.unusedSimpArgs false
set_option linter.unusedVariables false
set_option linter.unusedSectionVars false
set_option maxRecDepth 20000
set_option maxHeartbeats 4000000
def topT (k : Int) : GTerm → GTerm
  | .mk op n nl1 ty nl2 ks => .mk op n nl1 (marksF mI k ty.length) nl2 (mkTs (k + ty.length) ks)
def GTerm.tcnt : GTerm → Nat
  | .mk _ _ _ ty _ ks => ty.length + cnts ks
theorem markTerm_ok (t : GTerm) (k : Int) (h1 h2 : List Box) (cs : List LV) (bs : List Box) (hk : 0 ≤ k ∧ k + t.tcnt ≤ 4611686018427387904) (hs : t.size ≤ 1000000000000000) (ht : ThAll t.ownF h1.length cs bs) :
    LCalls Tryz.prog n_laws_markTerm [.agg cs, N k] (h1 ++ bs ++ h2) (fun r h' => r = N (k + t.tcnt) ∧ ∃ bs' ex, bs'.length = bs.length ∧ ThAll (topT k t).ownF h1.length cs bs' ∧ h' = h1 ++ bs' ++ h2 ++ ex) := by
  obtain ⟨op, n, nl1, ty, nl2, ks⟩ := t
  simp only [GTerm.ownF, GTerm.tcnt, GTerm.size, topT] at *
  obtain ⟨yT, bT, yK, bK, rfl, rfl, hT, hK⟩ := thT.1 ht
  have sT := Th.share _ _ _ _ hT
  have sK := Th.share _ _ _ _ hK
  have m1 := fun X => markIntS_ok (!nl1) nl1 ty k (by omega) h1 (bK ++ X) yT bT hT
  have m2 := fun (bT' : List Box) (hl : bT'.length = bT.length) X => markTermS_ok (sizes ks) ks (!nl2) nl2 (k + ty.length) (h1 ++ bT') X yK bK (Nat.le_refl _) (by omega) (by omega) (by rw [List.length_append, hl]; exact hK)
  refine LCalls.of_codeOf c_laws_markTerm mixed (by simp) ?_ ?_
  · obtain ⟨r1, _, rfl, c1, l1, g1, rfl⟩ := (m1 []).2.1
    obtain ⟨r2, _, rfl, c2, l2, g2, rfl⟩ := (m2 c1 l1 []).2.1
    exact ⟨_, _, rfl, c1 ++ c2, [], by simp [l1, l2], thT.2 ⟨yT, c1, yK, c2, rfl, rfl, g1, by rw [List.length_append] at g2; exact g2⟩, rfl⟩
  · simp (disch := omega) [k_laws_markTerm, boxLV, frzLV, sT, sK]
    refine onCall_anyE (m1 (h2 ++ [none])) (by simp) ?_
    rintro r h' ⟨rfl, c1, l1, g1, rfl⟩
    simp (disch := omega) [sT, sK]
    refine onCall_anyE (m2 c1 l1 (h2 ++ [none])) (by simp) ?_
    rintro r h' ⟨rfl, c2, l2, g2, rfl⟩
    simp (disch := omega) [sT, sK]
    refine post_tmp (.inr rfl) (by simp; omega) ?_
    exact ⟨by simp; omega, c1 ++ c2, by simp [l1, l2], thT.2 ⟨yT, c1, yK, c2, rfl, rfl, g1, by rw [List.length_append] at g2; exact g2⟩, [none], by simp⟩
theorem markIntSS_ok (ctx : GCtx) (k : Int) (h1 h2 : List Box) (y : LV) (bs : List Box) (hk : 0 ≤ k ∧ k + cws ctx ≤ 4611686018427387904) (hkl : ctx.length ≤ 1000000000000000) (ht : Th ctx.own h1.length y bs) :
    LCalls Tryz.prog n_laws_markIntSS [y, N k] (h1 ++ bs ++ h2) (fun r h' => r = N (k + cws ctx) ∧ ∃ bs', bs'.length = bs.length ∧ h' = h1 ++ bs' ++ h2) := by
  simp only [GCtx.own, Th] at ht
  rcases ht with ⟨hnil, rfl, rfl⟩ | ⟨_, hne, cells, bs', slack, cap, hrow, hcap, rfl, rfl⟩
  · have hks : ctx = [] := by simpa using hnil
    subst hks
    refine LCalls.of_codeOf c_laws_markIntSS mixed (by simp) ⟨_, _, rfl, [], rfl, rfl⟩ ?_
    simp (disch := omega) [k_laws_markIntSS]
    refine wpC_for 0 0 (fun i t h => t 5 = N 0 ∧ t 1 = N k ∧ h = h1 ++ h2) (by simp) (by omega) ?_
    rintro i t1 hh hf hi ⟨e5, e1, rfl⟩
    (have e0 := hf 0 (by kernel_rfl); clear hf; simp [] at e0)
    simp (disch := omega) [e0, e1, e5]
    refine post_tmp (.inr rfl) (by simp) ?_
    simp [cws]
  · rw [List.length_map] at hcap
    obtain ⟨A, hA⟩ : ∃ A, h1 ++ bs' = A := ⟨_, rfl⟩
    have hAl : h1.length + bs'.length = A.length := by rw [← hA]; simp
    have hh0 : h1 ++ (bs' ++ [some (cells ++ List.replicate slack .dead)]) ++ h2 = A ++ some (cells ++ List.replicate slack .dead) :: h2 := by rw [← hA]; simp
    rw [hh0, hAl]
    refine LCalls.of_codeOf c_laws_markIntSS mixed (by simp) ⟨_, _, rfl, bs' ++ [some (cells ++ List.replicate slack .dead)], rfl, rfl⟩ ?_
    simp (disch := omega) [k_laws_markIntSS]
    refine wpC_for ctx.length 0 (fun i t h => t 5 = N i ∧ t 1 = N (k + cws (ctx.take i)) ∧ ∃ cD bD cR bR, h = h1 ++ (bD ++ bR) ++ some (cD ++ (cR ++ List.replicate slack .dead)) :: h2 ∧ bD.length + bR.length = bs'.length ∧
      cD.length = i ∧ ThRow ((ctx.drop i).map fun c => [OU true false c.2]) 1 (h1.length + bD.length) cR bR) ?_ (by omega) ?_
    · refine ⟨by simp, by simp [cws], [], [], cells, bs', by rw [← hA]; simp, by simp, by simp, by simpa using hrow⟩
    rintro i t1 hh hf hi ⟨e5, e1, cD, bD, cR, bR, rfl, hbl, hcDl, hR⟩
    (have e0 := hf 0 (by kernel_rfl); clear hf; simp [] at e0)
    have hcw : ∀ j, cws (ctx.take j) ≤ cws ctx := fun j => by
      have : ∀ a b : GCtx, cws (a ++ b) = cws a + cws b := fun a b => by
        induction a with
        | nil => simp [cws]
        | cons x a ih => simp [cws, ih]; omega
      have := this (ctx.take j) (ctx.drop j)
      rw [List.take_append_drop] at this; omega
    by_cases h6 : i < ctx.length
    · have hb : ltB (i : Int) ctx.length = true := by rw [ltB_true]; omega
      have hct : cws (ctx.take (i + 1)) = cws (ctx.take i) + (ctx[i]).2.length := by
        have : ∀ (a : GCtx) (x : Bool × List Int), cws (a ++ [x]) = cws a + x.2.length := fun a x => by
          induction a with
          | nil => simp [cws]
          | cons y a ih => simp [cws, ih]; omega
        rw [List.take_succ_eq_append_getElem h6, this]
      have hci := hcw (i + 1)
      rw [List.drop_eq_getElem_cons h6] at hR
      simp only [List.map_cons, ThRow, ThAll] at hR
      obtain ⟨c1, b1, c2, b2, _, ⟨yT, bT, _, _, hyT, ⟨rfl, rfl⟩, rfl, rfl⟩, hR2, rfl, rfl⟩ := hR
      simp only [List.append_nil] at hR2
      obtain ⟨A1, hA1⟩ : ∃ A1, h1 ++ (bD ++ (bT ++ [] ++ b2)) = A1 := ⟨_, rfl⟩
      have hA1l : A.length = A1.length := by rw [← hA1, ← hAl]; simp at hbl ⊢; omega
      rw [hA1l] at e0
      rw [hA1]
      have hdr0 : ∀ (rest : List LV), List.drop i (cD ++ rest) = rest := fun rest => List.drop_left' hcDl
      have sT := Th.share _ _ _ _ hyT
      have aT := Th.alive _ _ _ _ hyT
      simp (disch := omega) [e0, e1, e5, hb, idx_ha, i64_wrap, hdr0, sT]
      refine ⟨⟨by omega, aT⟩, ?_⟩
      have MI := markIntS_ok true false (ctx[i]).2 (k + cws (ctx.take i)) (by omega) (h1 ++ bD) (b2 ++ some (cD ++ yT :: (c2 ++ List.replicate slack .dead)) :: h2) yT bT (by simpa using hyT)
      refine onCall_anyE MI (by simp [← hA1]) ?_
      rintro r h' ⟨rfl, bT', hbT, hyT2, rfl⟩
      simp (disch := omega) [e0, e1, e5, i64_wrap, h6]
      refine ⟨by omega, cD ++ [yT], bD ++ bT', c2, b2, by simp, by simp at hbl ⊢; omega, by simp [hcDl], ?_⟩
      have : h1.length + (bD ++ bT').length = h1.length + bD.length + bT.length := by simp; omega
      rw [this]; simpa using hR2
    · have hb : ltB (i : Int) ctx.length = false := by rw [ltB_false]; omega
      have hik : i = ctx.length := by omega
      have e := List.take_of_length_le (l := ctx) (i := i) (by omega)
      rw [e] at e1
      simp (disch := omega) [e0, e1, e5, hb]
      refine post_tmp (.inr rfl) (by simp at hbl ⊢; rw [← hA]; simp; omega) ⟨by simp, bD ++ bR ++ [some (cD ++ (cR ++ List.replicate slack .dead))], by simp at hbl ⊢; omega, by simp⟩
theorem heldTermS_ok (d : Nat) : ∀ (ks : List GTerm) (nl : Bool) (k : Int), sizes ks ≤ d → 0 ≤ k ∧ k + cnts ks ≤ 4611686018427387904 → sizes ks ≤ 1000000000000000 →
    Gives Tryz.prog n_laws_heldTermS [.sl false nl 4 (rowsOf (mkTs k ks)), N k] (· = N (k + cnts ks)) := by
  induction d with
  | zero =>
    intro ks nl k hsz hk _
    have hks : ks = [] := List.eq_nil_of_length_eq_zero (by have := len_sizes ks; omega)
    subst hks
    refine Gives.of_codeOf c_laws_heldTermS mixed (by simp) ⟨_, rfl, by simp⟩ ?_
    simp (disch := omega) [k_laws_heldTermS]
    refine wpC_for 0 0 (fun i t _ => t 5 = N 0 ∧ t 1 = N k) (by simp) (by omega) ?_
    rintro i t1 hh hf hi ⟨e5, e1⟩
    (have e0 := hf 0 (by kernel_rfl); clear hf; simp [] at e0)
    simp (disch := omega) [e0, e1, e5, mkTs, rowsOf, cnts]
  | succ d ih =>
    intro ks nl k hsz hk hs
    have hkl := len_sizes ks
    refine Gives.of_codeOf c_laws_heldTermS mixed (by simp) ⟨_, rfl, by simp⟩ ?_
    simp (disch := omega) [k_laws_heldTermS]
    refine wpC_for ks.length 0 (fun i t _ => t 5 = N i ∧ t 1 = N (k + cnts (ks.take i))) (by simp [cnts]) (by omega) ?_
    rintro i t1 hh hf hi ⟨e5, e1⟩
    (have e0 := hf 0 (by kernel_rfl); clear hf; simp [] at e0)
    by_cases h6 : i < ks.length
    · have hb : ltB (i : Int) ks.length = true := by rw [ltB_true]; omega
      have hck := cnt_kid h6
      have hct := cnts_take h6
      have hsk := size_kid h6
      have hix := idx_T (mkTs k ks) false nl i (by simpa using h6)
      rw [mkTs_get ks k i h6] at hix
      obtain ⟨⟨op, n, nl1, ty, nl2, kk⟩, hki⟩ : ∃ g, ks[i] = g := ⟨_, rfl⟩
      rw [hki] at hix hck hct hsk
      simp only [GTerm.cnt, GTerm.size, mkT, GTerm.cells] at hix hck hct hsk
      obtain ⟨k', hk'⟩ : ∃ k' : Int, k + cnts (ks.take i) = k' := ⟨_, rfl⟩
      rw [hk'] at hix e1
      have HI := heldIntS_ok nl1 (k' + 2) ty.length (by omega)
      have HK := ih kk nl2 (k' + 2 + ty.length) (by omega) (by omega) (by omega)
      have q1 : eqB k' k' = true := by rw [eqB_true]
      have q2 : eqB (k' + 1) (k' + 1) = true := by rw [eqB_true]
      have q3 : ltB (k' + 2 + (ty.length : Int)) 0 = false := by rw [ltB_false]; omega
      have q4 : ltB (k' + 2 + (ty.length : Int) + (cnts kk : Int)) 0 = false := by rw [ltB_false]; omega
      have e12 : k' + 1 + 1 = k' + 2 := by omega
      simp (disch := omega) [e0, e1, e5, hb, hix, q1, q2, i64_wrap, e12]
      refine onCall_eq HI (by simp) ?_
      simp (disch := omega) [e0, e1, e5, hix, q3]
      refine onCall_eq HK (by simp) ?_
      simp (disch := omega) [e0, e1, e5, hix, q4, i64_wrap, h6]
      omega
    · have hb : ltB (i : Int) ks.length = false := by rw [ltB_false]; omega
      have e := List.take_of_length_le (l := ks) (i := i) (by omega)
      rw [e] at e1
      simp (disch := omega) [e0, e1, e5, hb]
theorem heldTerm_ok (t : GTerm) (k : Int) (hk : 0 ≤ k ∧ k + t.tcnt ≤ 4611686018427387904) (hs : t.size ≤ 1000000000000000) : Gives Tryz.prog n_laws_heldTerm [(topT k t).lv, N k] (· = N (k + t.tcnt)) := by
  obtain ⟨op, n, nl1, ty, nl2, ks⟩ := t
  simp only [GTerm.tcnt, GTerm.size, topT, GTerm.lv, GTerm.cells] at *
  have HI := heldIntS_ok nl1 k ty.length (by omega)
  have HK := heldTermS_ok (sizes ks) ks nl2 (k + ty.length) (Nat.le_refl _) (by omega) (by omega)
  have q3 : ltB (k + (ty.length : Int)) 0 = false := by rw [ltB_false]; omega
  have q4 : ltB (k + (ty.length : Int) + (cnts ks : Int)) 0 = false := by rw [ltB_false]; omega
  refine Gives.of_codeOf c_laws_heldTerm mixed (by simp) ⟨_, rfl, by simp⟩ ?_
  simp (disch := omega) [k_laws_heldTerm, boxLV, frzLV]
  refine onCall_eq HI (by simp) ?_
  simp (disch := omega) [q3]
  refine onCall_eq HK (by simp) ?_
  simp (disch := omega) [q4]
  omega
end Go.Proofs.YtclfngbealdbgaaGreat
namespace Go.Proofs.YtclfngbealdbgaaGreat
open Go Go.TL
set_option linter.unusedSimpArgs false
set_option linter.unusedVariables false
set_option linter.unusedSectionVars false
set_option maxRecDepth 20000
set_option maxHeartbeats 4000000
abbrev nilS : LV := .sl true true 1 []
end Go.Proofs.YtclfngbealdbgaaGreat
namespace Go.Proofs.YtclfngbealdbgaaGreat
open Go Go.TL
set_option linter.unusedSimpArgs false
set_option linter.unusedVariables false
set_option linter.unusedSectionVars false
set_option maxRecDepth 20000
set_option maxHeartbeats 4000000
end Go.Proofs.YtclfngbealdbgaaGreat
namespace Go.Proofs.YtclfngbealdbgaaGreat
open Go Go.TL
set_option linter.unusedSimpArgs false
set_option linter.unusedVariables false
set_option linter.unusedSectionVars false
set_option maxRecDepth 20000
set_option maxHeartbeats 4000000
end Go.Proofs.YtclfngbealdbgaaGreat
namespace Go.Proofs.YtclfngbealdbgaaGreat
open Go Go.TL
set_option linter.unusedSimpArgs false
set_option linter.unusedVariables false
set_option linter.unusedSectionVars false
set_option maxRecDepth 20000
set_option maxHeartbeats 4000000
theorem view_at {h h1 bs h2 : List Box} {t y : LV} (hw : Whole t) (ht : Th t h1.length y bs) (he : h = h1 ++ bs ++ h2) : View h (share t) y :=
  Th.view h _ y _ bs hw ht fun i b hi => by
    rw [he, List.append_assoc, List.getElem?_append_right (by omega), Nat.add_sub_cancel_left, List.getElem?_append_left]
    · exact hi
    · rcases Nat.lt_or_ge i bs.length with g | g
      · exact g
      · rw [List.getElem?_eq_none g] at hi; simp at hi
end Go.Proofs.YtclfngbealdbgaaGreat
namespace Go.Proofs.YtclfngbealdbgaaGreat
open Go Go.TL
open Go.Proofs.YtclfngbealdbgaaGreat.Ty
set_option linter.unusedSimpArgs false
set_option linter.unusedVariables false
set_option linter.unusedSectionVars false
set_option maxRecDepth 20000
set_option maxHeartbeats 4000000
theorem view_agg {h : List Box} {xs ys : List LV} (k : ViewAll h xs ys) : View h (.agg xs) (.agg ys) := by simp only [View]; exact ⟨ys, rfl, k⟩
theorem viewAll_sys (h : List Box) (s : GSys) : ViewAll h s.cells s.cells :=
  viewAll_cons view_sc (viewAll_cons (view_sl (by simp) (by simp)) (viewAll_cons (view_sl (by simp) (by simp)) (viewAll_cons (view_sl (by simp) (by simp)) viewAll_nil)))
theorem view_ctx (h : List Box) (nl : Bool) (c : GCtx) : View h (LC nl c) (LC nl c) := view_sl (by simp) (by simp)
theorem viewAll_term (h : List Box) : ∀ g : GTerm, ViewAll h g.cells g.cells
  | .mk op n nl1 ty nl2 ks => by
    simp only [GTerm.cells]
    exact viewAll_cons view_sc (viewAll_cons view_sc (viewAll_cons (view_sl (by simp) (by simp)) (viewAll_cons (view_sl (by simp) (by simp)) viewAll_nil)))
theorem whole_ctx (c : GCtx) : Whole c.own := by
  simp only [GCtx.own, Whole]
  refine ⟨?_, ?_⟩
  · cases c with
    | nil => simp
    | cons x c => exact .inr ⟨trivial, trivial, fun r hr => by obtain ⟨y, _, rfl⟩ := List.mem_map.1 hr; rfl⟩
  · induction c with
    | nil => simp [WholeRow]
    | cons x c ih =>
      have w := whole_sc (fun n : Int => Value.int .i64 n) true false x.2 (.inr ⟨rfl, rfl⟩)
      simp only [List.map_cons, WholeRow, WholeAll]
      exact ⟨⟨w, trivial⟩, ih⟩
theorem whole_sys (s : GSys) : Whole (.agg s.own) := by
  have w1 := whole_sc (fun n : Int => Value.int .i64 n) true false s.plus (.inr ⟨rfl, rfl⟩)
  have w2 := whole_sc (fun n : Int => Value.int .i64 n) true false s.times (.inr ⟨rfl, rfl⟩)
  have w3 := whole_sc (fun n : Bool => Value.bool n) true false s.below (.inr ⟨rfl, rfl⟩)
  simp only [GSys.own, Whole, WholeAll] at w1 w2 w3 ⊢
  exact ⟨trivial, w1, w2, w3, trivial⟩
mutual
theorem whole_own : ∀ t : GTerm, WholeAll t.own
  | .mk op n nl1 ty nl2 ks => by
    have h := whole_owns ks
    have w := whole_sc (fun n : Int => Value.int .i64 n) true false ty (.inr ⟨rfl, rfl⟩)
    simp only [GTerm.own, WholeAll, Whole] at w ⊢
    refine ⟨trivial, trivial, w, ⟨?_, h⟩, trivial⟩
    cases ks with
    | nil => simp [owns]
    | cons k ks => exact .inr ⟨trivial, trivial, fun r hr => by rw [owns_eq] at hr; obtain ⟨g, _, rfl⟩ := List.mem_map.1 hr; simp⟩
theorem whole_owns : ∀ ks : List GTerm, WholeRow (owns ks)
  | [] => by simp [owns, WholeRow]
  | t :: ks => by simp only [owns, WholeRow]; exact ⟨whole_own t, whole_owns ks⟩
end
theorem whole_outI (o : Option GTerm) : Whole (outI o) := by
  have := whole_ownC (o.getD noT)
  simp only [outI, Whole, WholeAll]
  exact ⟨this, trivial, trivial⟩
theorem thAll_alive : ∀ {xs : List LV} {n : Nat} {ys : List LV} {bs : List Box}, ThAll xs n ys bs → aliveAll ys = true
  | [], n, ys, bs, h => by simp only [ThAll] at h; simp [h.1, aliveAll]
  | x :: xs, n, ys, bs, h => by
    simp only [ThAll] at h
    obtain ⟨y, b1, ys', b2, h1, h2, rfl, _⟩ := h
    simp [aliveAll, Th.alive _ _ _ _ h1, thAll_alive h2]
theorem th4 {xs : List LV} {n : Nat} {y : LV} {bs : List Box} (h : Th (.agg xs) n y bs) (hl : xs.length = 4) : ∃ a b c d, y = .agg [a, b, c, d] ∧ ThAll xs n [a, b, c, d] bs ∧ (share a = a ∧ share b = b ∧ share c = c ∧ share d = d) ∧ (a.alive = true ∧ b.alive = true ∧ c.alive = true ∧ d.alive = true) := by
  have hs := Th.share _ _ _ _ h
  simp only [Th] at h
  obtain ⟨ys, rfl, h⟩ := h
  obtain ⟨a, b, c, d, rfl⟩ := len4 ((thAll_len h).trans hl)
  have ha := thAll_alive h
  simp only [share, shareAll, LV.agg.injEq, List.cons.injEq, and_true] at hs
  simp only [aliveAll, Bool.and_eq_true, and_true] at ha
  exact ⟨a, b, c, d, rfl, h, hs, ha⟩
mutual
theorem ownC_ownF : ∀ t : GTerm, t.ownC = t.nm.ownF
  | .mk op n nl1 ty nl2 ks => by simp [GTerm.ownC, GTerm.nm, GTerm.ownF, ownCs_ownFs ks]
theorem ownCs_ownFs : ∀ ks : List GTerm, ownCs ks = ownFs (nms ks)
  | [] => by simp [ownCs, nms, ownFs]
  | k :: ks => by simp [ownCs, nms, ownFs, ownC_ownF k, ownCs_ownFs ks]
end
theorem th_outI {o : Option GTerm} {n : Nat} {y : LV} {bs : List Box} (h : Th (outI o) n y bs) : ∃ a b c d, y = .tup [.agg [a, b, c, d], B o.isSome] ∧ ThAll (o.getD noT).ownC n [a, b, c, d] bs ∧ (share a = a ∧ share b = b ∧ share c = c ∧ share d = d) ∧ (a.alive = true ∧ b.alive = true ∧ c.alive = true ∧ d.alive = true) := by
  unfold outI at h
  rw [Th.eq_4] at h
  obtain ⟨ys, rfl, h⟩ := h
  rw [ThAll.eq_2] at h
  obtain ⟨y, b1, ys', b2, h1, h2, rfl, rfl⟩ := h
  rw [ThAll.eq_2] at h2
  obtain ⟨y2, b3, ys2, b4, h3, h4, rfl, rfl⟩ := h2
  rw [ThAll.eq_1] at h4
  obtain ⟨rfl, rfl⟩ := h4
  simp only [Th] at h3
  obtain ⟨rfl, rfl⟩ := h3
  obtain ⟨a, b, c, d, rfl, q1, q2, q3⟩ := th4 h1 (by simp)
  exact ⟨a, b, c, d, rfl, by simpa using q1, q2, q3⟩
theorem markSys_ok (s : GSys) (k : Int) (h1 h2 : List Box) (p0 p1 p2 p3 : LV) (bs : List Box) (hk : 0 ≤ k ∧ k + s.w ≤ 4611686018427387904) (ht : ThAll s.own h1.length [p0, p1, p2, p3] bs) :
    LCalls Tryz.prog n_laws_markSystem [.agg [p0, p1, p2, p3], N k] (h1 ++ bs ++ h2) (fun r h' => r = N (k + s.w) ∧ ∃ bs' ex, bs'.length = bs.length ∧ h' = h1 ++ bs' ++ h2 ++ ex) := by
  simp only [GSys.own, ThAll] at ht
  obtain ⟨y0, c0, _, _, t0, ⟨y1, c1, _, _, t1, ⟨y2, c2, _, _, t2, ⟨y3, c3, _, _, t3, ⟨rfl, rfl⟩, rfl, rfl⟩, rfl, rfl⟩, rfl, rfl⟩, he, rfl⟩ := ht
  simp only [Th] at t0
  obtain ⟨rfl, rfl⟩ := t0
  simp only [List.cons.injEq, and_true] at he
  obtain ⟨rfl, rfl, rfl, rfl⟩ := he
  unfold GSys.w at hk
  have := markSystem_ok true false true false true false s.size s.plus s.times s.below k (by omega) h1 h2 _ _ _ c1 c2 c3 (by simpa using t1) (by simpa using t2) (by simpa [Nat.add_assoc] using t3)
  have e : h1 ++ ([] ++ (c1 ++ (c2 ++ (c3 ++ [])))) ++ h2 = h1 ++ c1 ++ c2 ++ c3 ++ h2 := by simp
  rw [e]
  refine this.mono fun r h' hr => ?_
  obtain ⟨rfl, d1, d2, d3, l1, l2, l3, _, _, _, ex, rfl⟩ := hr
  exact ⟨by unfold GSys.w; simp only [LV.sc.injEq, Value.int.injEq, true_and]; push_cast; omega, d1 ++ d2 ++ d3, ex, by simp [l1, l2, l3], by simp⟩
mutual
theorem whole_thT : ∀ (t : GTerm) (n : Nat) (c : List LV) (b : List Box), ThAll t.ownF n c b → WholeAll t.ownF
  | .mk op m nl1 ty nl2 ks, n, c, b, h => by
    simp only [GTerm.ownF] at h ⊢
    obtain ⟨yT, bT, yK, bK, rfl, rfl, h1, h2⟩ := thT.1 h
    have w1 : Whole (OU (!nl1) nl1 ty) := whole_sc (fun n : Int => Value.int .i64 n) (!nl1) nl1 ty (by
      rcases (th_sc (fun n : Int => Value.int .i64 n)).1 h1 with ⟨rfl, _⟩ | ⟨rfl, _⟩
      · exact .inl rfl
      · exact .inr ⟨rfl, rfl⟩)
    have w2 : Whole (.sl (!nl2) nl2 4 (ownFs ks)) := by
      simp only [Th] at h2
      simp only [Whole]
      rcases h2 with ⟨hn, _⟩ | ⟨rfl, _, cells, bs', _, _, hrow, _⟩
      · exact ⟨.inl hn, by rw [hn]; simp [WholeRow]⟩
      · exact ⟨.inr ⟨rfl, rfl, fun r hr => by rw [ownFs_eq] at hr; obtain ⟨g, _, rfl⟩ := List.mem_map.1 hr; simp⟩, whole_thS ks _ _ _ hrow⟩
    simp only [WholeAll, Whole] at w1 w2 ⊢
    exact ⟨trivial, trivial, w1, w2, trivial⟩
theorem whole_thS : ∀ (ks : List GTerm) (n : Nat) (c : List LV) (b : List Box), ThRow (ownFs ks) 4 n c b → WholeRow (ownFs ks)
  | [], _, _, _, _ => by simp [ownFs, WholeRow]
  | t :: ks, n, c, b, h => by
    simp only [ownFs, ThRow, WholeRow] at h ⊢
    obtain ⟨c1, b1, c2, b2, _, h1, h2, _⟩ := h
    exact ⟨whole_thT t _ _ _ h1, whole_thS ks _ _ _ h2⟩
end
mutual
theorem nm_nm : ∀ t : GTerm, t.nm.nm = t.nm
  | .mk op n nl1 ty nl2 ks => by simp only [GTerm.nm, nms_nms ks, nms_empty]
theorem nms_nms : ∀ ks : List GTerm, nms (nms ks) = nms ks
  | [] => by simp [nms]
  | k :: ks => by simp [nms, nm_nm k, nms_nms ks]
end
mutual
theorem tcnt_le : ∀ t : GTerm, t.wf → t.cnt ≤ 1099511627779 * t.size
  | .mk op n nl1 ty nl2 ks, h => by
    simp only [GTerm.wf] at h
    have := cnts_le_wf ks h.2.2.2.2
    have := h.2.2.1.1
    simp only [GTerm.cnt, GTerm.size]; omega
theorem cnts_le_wf : ∀ ks : List GTerm, wfs ks → cnts ks ≤ 1099511627779 * sizes ks
  | [], _ => by simp [cnts]
  | k :: ks, h => by
    simp only [wfs] at h
    have := tcnt_le k h.1
    have := cnts_le_wf ks h.2
    simp only [cnts, sizes]; omega
end
theorem tcnt_cnt (t : GTerm) : t.tcnt ≤ t.cnt := by cases t; simp [GTerm.tcnt, GTerm.cnt]
mutual
theorem w_cnt : ∀ t : GTerm, t.norm.cnt ≤ 2 + 3 * t.w ∧ t.norm.size ≤ 1 + t.w
  | .mk op n nl1 ty nl2 ks => by
    have := ws_cnt ks
    simp only [GTerm.norm, GTerm.cnt, GTerm.size, GTerm.w]; omega
theorem ws_cnt : ∀ ks : List GTerm, cnts (norms ks) ≤ 3 * (ks.length + tws ks) ∧ sizes (norms ks) ≤ ks.length + tws ks
  | [] => by simp [norms, cnts, sizes]
  | k :: ks => by
    have := w_cnt k
    have := ws_cnt ks
    simp only [norms, cnts, sizes, tws, List.length_cons]; omega
end
theorem forgetO_ok {s : GSys} {ctx : GCtx} {g : GTerm} (a : Arg s ctx g) {o : Option GTerm} (h : forgetO s ctx g = o) : (o.getD noT).wf ∧ (o.getD noT).size ≤ 400 := by
  subst h
  unfold forgetO
  cases hx : tellO s ctx g with
  | none => simp [noT, GTerm.wf, GTerm.size, wfs, sizes, I64, Lok]
  | some x =>
    simp only
    split
    · rename_i h4
      exact ⟨(fg_termB a hx).2, h4⟩
    · simp [noT, GTerm.wf, GTerm.size, wfs, sizes, I64, Lok]
mutual
theorem fl_norm : ∀ (t : GTerm), t.norm.fl
  | .mk op n nl1 ty nl2 ks => by simp only [GTerm.norm, GTerm.fl]; exact ⟨fun h => by simp at h, fls_norm ks⟩
theorem fls_norm : ∀ (ks : List GTerm), fls (norms ks)
  | [] => by simp [norms, fls]
  | k :: ks => by simp only [norms, fls]; exact ⟨fl_norm k, fls_norm ks⟩
end
theorem lawForgetTerm (s : GSys) (nlc : Bool) (ctx : GCtx) (g : GTerm) (hs : s.raw) (hc : ctx.raw) (hg : g.raw) : Gives Tryz.prog n_laws_FnExactForgetTerm [s.lv, LC nlc ctx, g.lv] (· = B true) := by
  refine Gives.of_codeOf c_laws_FnExactForgetTerm mixed (by simp) ⟨_, rfl, by simp⟩ ?_
  have whB : ∀ b : Bool, ∀ r, r = B b → Whole r := by rintro b r rfl; simp [Whole]
  have whN : ∀ b : Int, ∀ r, r = N b → Whole r := by rintro b r rfl; simp [Whole]
  have z1 := szSystem_ok s hs 1048576 (by omega) (by omega)
  simp (disch := omega) [k_laws_FnExactForgetTerm, boxLV, frzLV]
  refine onCall_eq z1 (by simp) ?_
  simp (disch := omega)
  (with_reducible first | refine onBoolT (fun h1 => ?_) (fun h1 => ?_) | refine onBoolF (fun h1 => ?_) (fun h1 => ?_))
  · simp (disch := omega)
  simp only [ltB_true, ltB_false, leB_true, leB_false, eqB_true, eqB_false, Bool.not_true, Bool.not_false] at h1
  have r1 := leftI_range (a := s.w) (m := 1048576) (by omega)
  have z2 := szIntSS_ok nlc ctx hc _ h1 (by omega)
  simp (disch := omega)
  refine onCall_eq z2 (by simp) ?_
  simp (disch := omega)
  (with_reducible first | refine onBoolT (fun h2 => ?_) (fun h2 => ?_) | refine onBoolF (fun h2 => ?_) (fun h2 => ?_))
  · simp (disch := omega)
  simp only [ltB_true, ltB_false, leB_true, leB_false, eqB_true, eqB_false, Bool.not_true, Bool.not_false] at h2
  have r2 := leftI_range (a := ctx.length + cws ctx) h1
  have z3 := szTerm_ok _ g (Nat.le_refl _) hg _ h2 (by omega)
  simp (disch := omega)
  refine onCall_eq z3 (by simp) ?_
  simp (disch := omega)
  (with_reducible first | refine onBoolT (fun h3 => ?_) (fun h3 => ?_) | refine onBoolF (fun h3 => ?_) (fun h3 => ?_))
  · simp (disch := omega)
  simp only [ltB_true, ltB_false, leB_true, leB_false, eqB_true, eqB_false, Bool.not_true, Bool.not_false] at h3
  have r3 := leftI_range (a := g.w) h2
  have wb : s.w ≤ 1048576 ∧ ctx.length + cws ctx ≤ 1048576 ∧ g.w ≤ 1048576 := by
    unfold leftI at h1 h2 h3 r1 r2 r3
    grind
  clear z1 z2 z3
  have sw : s.wf := GSys.wf_of hs (by omega)
  have cw : ctx.wf := ⟨by omega, fun c hc' => ⟨by have := cws_mem hc'; omega, (hc.2 c hc').2⟩⟩
  have gw : g.wf := wf_of g hg (by omega)
  have t1 := toSystem_ok s sw
  have t2 := toIntSS_ok nlc ctx cw
  have t3 := toTerm_ok _ g (Nat.le_refl _) gw
  have a : Arg s.norm ctx.norm g.norm := ⟨sw, GCtx.norm_wf cw, norm_wf g gw, fun c hc' h => by obtain ⟨d, _, rfl⟩ := List.mem_map.1 hc'; simp at h, fl_norm g⟩
  have SP := specForgetTerm_ok a false
  have IM := ForgetTerm_ok a false
  obtain ⟨o, ho⟩ : ∃ o, forgetO s.norm ctx.norm g.norm = o := ⟨_, rfl⟩
  rw [ho] at SP IM
  simp (disch := omega)
  refine onCall_eq t1 (by simp) ?_
  simp (disch := omega)
  refine onCall_eq t2 (by simp) ?_
  simp (disch := omega)
  refine onCall_eq t3 (by simp) ?_
  have eCx : LC false ctx.norm = .sl false false 1 (ctx.map fun x => [.sl false false 1 (x.2.map fun x => [N x])]) := by simp [GCtx.norm]
  rw [eCx] at SP IM
  simp (disch := omega)
  refine onCall_gives (Gives.low SP) (by simp) ?_
  rintro r ⟨⟨w, rfl, hw⟩, lo⟩
  simp (disch := omega)
  refine onCall_thaw t1 (viewAll_cons (view_agg (viewAll_sys _ s)) viewAll_nil) (by rintro r rfl; exact whole_sys s) fun x0 y0 b0 e hx0 => ?_
  subst e
  have hx0' : Th (.agg s.own) ([none, none, some w.cells] : List Box).length y0 b0 := by simpa using hx0
  obtain ⟨p0, p1, p2, p3, rfl, tx0, ⟨sp0, sp1, sp2, sp3⟩, ap0, ap1, ap2, ap3⟩ := th4 hx0 rfl
  clear hx0 tx0
  simp (disch := omega) [sp0, sp1, sp2, sp3]
  refine onCall_thaw t2 (viewAll_cons (view_ctx _ nlc ctx) viewAll_nil) (by rintro r rfl; exact whole_ctx ctx) fun x1 y1 b1 e hx1 => ?_
  subst e
  have sy1 := Th.share _ _ _ _ hx1
  have hx1' : Th ctx.own ([none, none, some w.cells] ++ b0 ++ [some [p0, p1, p2, p3]] : List Box).length y1 b1 := by simpa using hx1
  clear hx1
  simp (disch := omega) [sp0, sp1, sp2, sp3, sy1]
  refine onCall_thaw t3 (viewAll_cons (view_agg (viewAll_term _ g)) viewAll_nil) (by rintro r rfl; simp only [Whole]; exact whole_own g) fun x2 y2 b2 e hx2 => ?_
  subst e
  have hx2' : Th (.agg g.own) ([none, none, some w.cells] ++ b0 ++ [some [p0, p1, p2, p3]] ++ b1 : List Box).length y2 b2 := by simpa using hx2
  obtain ⟨q0, q1, q2, q3, rfl, tx2, ⟨sq0, sq1, sq2, sq3⟩, aq0, aq1, aq2, aq3⟩ := th4 hx2 (by simp)
  clear hx2 tx2
  simp (disch := omega) [sp0, sp1, sp2, sp3, ap0, ap1, ap2, ap3, sq0, sq1, sq2, sq3, aq0, aq1, aq2, aq3, sy1]
  have v0 : ∀ h, (∃ h2, h = [none, none, some w.cells] ++ b0 ++ h2) → View h (share (.agg s.own)) (.agg [p0, p1, p2, p3]) := fun h ⟨h2, he⟩ => view_at (h := h) (h2 := h2) (whole_sys s) hx0' he
  have v1 : ∀ h, (∃ h2, h = [none, none, some w.cells] ++ b0 ++ [some [p0, p1, p2, p3]] ++ b1 ++ h2) → View h (share ctx.own) y1 := fun h ⟨h2, he⟩ => view_at (h := h) (h2 := h2) (whole_ctx ctx) hx1' he
  have v2 : ∀ h, (∃ h2, h = [none, none, some w.cells] ++ b0 ++ [some [p0, p1, p2, p3]] ++ b1 ++ b2 ++ h2) → View h (share (.agg g.own)) (.agg [q0, q1, q2, q3]) := fun h ⟨h2, he⟩ => view_at (h := h) (h2 := h2) (show Whole (.agg g.own) by simp only [Whole]; exact whole_own g) hx2' he
  have ev0 : share (.agg s.own) = s.norm.lv := by simp only [share, GSys.share_own]
  have ev2 : share (.agg g.own) = g.norm.lv := by simp only [share, share_ownT]
  rw [ev0] at v0
  rw [share_own, eCx] at v1
  rw [ev2] at v2
  refine onCall_thaw IM (viewAll_cons (v0 _ (by simp)) (viewAll_cons (v1 _ (by simp)) (viewAll_cons (v2 _ (by simp)) viewAll_nil))) (by rintro r rfl; exact whole_outI o) fun x3 y3 bg e hx3 => ?_
  subst e
  obtain ⟨g0, g1, g2, g3, rfl, tg, ⟨sg0, sg1, sg2, sg3⟩, ag0, ag1, ag2, ag3⟩ := th_outI hx3
  clear hx3
  simp (disch := omega) [sp0, sp1, sp2, sp3, ap0, ap1, ap2, ap3, sq0, sq1, sq2, sq3, aq0, aq1, aq2, aq3, sy1, sg0, sg1, sg2, sg3, ag0, ag1, ag2, ag3]
  obtain ⟨Gw, Gs⟩ := forgetO_ok a ho
  obtain ⟨G, hG⟩ : ∃ G, o.getD noT = G := ⟨_, rfl⟩
  rw [hG] at hw tg Gw Gs
  obtain ⟨ob, hob⟩ : ∃ ob, o.isSome = ob := ⟨_, rfl⟩
  have EQ := eqTerm_ok G.nm.size G.nm (Nat.le_refl _) (wf_nm _ Gw) w
  rw [same_of_nm G.nm w (by rw [nm_nm, hw])] at EQ
  rw [ownC_ownF] at tg
  have tg' : ThAll G.nm.ownF ([none, none, some w.cells] ++ b0 ++ [some [p0, p1, p2, p3]] ++ b1 ++ b2 ++ [some [q0, q1, q2, q3]] : List Box).length [g0, g1, g2, g3] bg := by simpa using tg
  clear tg
  have vg : ∀ (P h : List Box), P.length = ([none, none, some w.cells] ++ b0 ++ [some [p0, p1, p2, p3]] ++ b1 ++ b2 ++ [some [q0, q1, q2, q3]] : List Box).length → (∃ h2, h = P ++ bg ++ h2) → View h G.nm.lv (.agg [g0, g1, g2, g3]) := fun P h hl ⟨h2, he⟩ => by
    have := view_at (h := h) (h1 := P) (h2 := h2) (t := .agg G.nm.ownF) (y := .agg [g0, g1, g2, g3]) (bs := bg) (by simp only [Whole]; exact whole_thT _ _ _ _ tg') (by simp only [Th]; exact ⟨_, rfl, by rw [hl]; exact tg'⟩) he
    simpa only [share, share_ownF] using this
  rw [hob]
  refine onCall_lend EQ (viewAll_cons (vg ([none, none, some w.cells] ++ b0 ++ [some [p0, p1, p2, p3]] ++ b1 ++ b2 ++ [some [q0, q1, q2, q3]]) _ rfl ⟨[some [g0, g1, g2, g3]], by simp⟩) (viewAll_cons (view_agg (viewAll_term _ w)) viewAll_nil)) (whB _) ?_
  rintro r rfl
  have hbb : ∀ x : Bool, binLV .bool .neq (B x) (B x) = some (B false) := fun x => by simp [binLV, neg]
  simp (disch := omega) [sp0, sp1, sp2, sp3, ap0, ap1, ap2, ap3, sq0, sq1, sq2, sq3, aq0, aq1, aq2, aq3, sy1, sg0, sg1, sg2, sg3, ag0, ag1, ag2, ag3, hbb]
  have E0 := eqSystem_ok s.norm s.norm sw
  rw [GSys.same_refl] at E0
  have E1 := eqIntSS_ok false false ctx.norm ctx.norm (GCtx.norm_wf cw)
  rw [sameC_refl, eCx] at E1
  have E2 := eqTerm_ok g.norm.size g.norm (Nat.le_refl _) (norm_wf g gw) g.norm
  rw [same_refl] at E2
  have vC : ∀ h, View h (.sl false false 1 (ctx.map fun x => [.sl false false 1 (x.2.map fun x => [N x])])) (.sl false false 1 (ctx.map fun x => [.sl false false 1 (x.2.map fun x => [N x])])) := fun h => by rw [← eCx]; exact view_ctx h false ctx.norm
  refine onCall_eq t1 (by simp) ?_
  simp (disch := omega) [sp0, sp1, sp2, sp3, ap0, ap1, ap2, ap3, sq0, sq1, sq2, sq3, aq0, aq1, aq2, aq3, sy1, sg0, sg1, sg2, sg3, ag0, ag1, ag2, ag3]
  refine onCall_lend E0 (viewAll_cons (v0 _ (by simp)) (viewAll_cons (view_agg (viewAll_sys _ s.norm)) viewAll_nil)) (whB _) ?_
  rintro r rfl
  simp (disch := omega) [sp0, sp1, sp2, sp3, ap0, ap1, ap2, ap3, sq0, sq1, sq2, sq3, aq0, aq1, aq2, aq3, sy1, sg0, sg1, sg2, sg3, ag0, ag1, ag2, ag3]
  refine onCall_eq t2 (by simp) ?_
  simp (disch := omega) [sp0, sp1, sp2, sp3, ap0, ap1, ap2, ap3, sq0, sq1, sq2, sq3, aq0, aq1, aq2, aq3, sy1, sg0, sg1, sg2, sg3, ag0, ag1, ag2, ag3]
  refine onCall_lend E1 (viewAll_cons (v1 _ (by simp)) (viewAll_cons (vC _) viewAll_nil)) (whB _) ?_
  rintro r rfl
  simp (disch := omega) [sp0, sp1, sp2, sp3, ap0, ap1, ap2, ap3, sq0, sq1, sq2, sq3, aq0, aq1, aq2, aq3, sy1, sg0, sg1, sg2, sg3, ag0, ag1, ag2, ag3]
  refine onCall_eq t3 (by simp) ?_
  simp (disch := omega) [sp0, sp1, sp2, sp3, ap0, ap1, ap2, ap3, sq0, sq1, sq2, sq3, aq0, aq1, aq2, aq3, sy1, sg0, sg1, sg2, sg3, ag0, ag1, ag2, ag3]
  refine onCall_lend E2 (viewAll_cons (v2 _ (by simp)) (viewAll_cons (view_agg (viewAll_term _ g.norm)) viewAll_nil)) (whB _) ?_
  rintro r rfl
  simp (disch := omega) [sp0, sp1, sp2, sp3, ap0, ap1, ap2, ap3, sq0, sq1, sq2, sq3, aq0, aq1, aq2, aq3, sy1, sg0, sg1, sg2, sg3, ag0, ag1, ag2, ag3]
  have tS : ThAll s.own ([none, none, some w.cells] : List Box).length [p0, p1, p2, p3] b0 := by
    have := hx0'
    simp only [Th] at this
    obtain ⟨ys, e, h⟩ := this
    cases e; exact h
  have tT : ThAll g.norm.ownF ([none, none, some w.cells] ++ b0 ++ [some [p0, p1, p2, p3]] ++ b1 : List Box).length [q0, q1, q2, q3] b2 := by
    have := hx2'
    simp only [Th] at this
    obtain ⟨ys, e, h⟩ := this
    cases e; rw [← own_ownF]; exact h
  have wc := w_cnt g
  have tcg := tcnt_cnt g.norm
  have M1 := fun X => markSys_ok s 1 [none, none, some w.cells] X p0 p1 p2 p3 b0 (by omega) tS
  refine onCall_anyE (M1 (some [p0, p1, p2, p3] :: (b1 ++ (b2 ++ some [q0, q1, q2, q3] :: (bg ++ [some [g0, g1, g2, g3]]))))) (by simp) ?_
  rintro r h' ⟨rfl, c0, ex0, l0, rfl⟩
  simp (disch := omega) [sp0, sp1, sp2, sp3, ap0, ap1, ap2, ap3, sq0, sq1, sq2, sq3, aq0, aq1, aq2, aq3, sy1, sg0, sg1, sg2, sg3, ag0, ag1, ag2, ag3, ← l0]
  have M2 := fun X => markIntSS_ok ctx (1 + s.w) ([none, none, some w.cells] ++ c0 ++ [some [p0, p1, p2, p3]]) X y1 b1 (by omega) (by omega) (by
    have e : ([none, none, some w.cells] ++ c0 ++ [some [p0, p1, p2, p3]] : List Box).length = ([none, none, some w.cells] ++ b0 ++ [some [p0, p1, p2, p3]] : List Box).length := by simp [l0]
    rw [e]; exact hx1')
  refine onCall_anyE (M2 (b2 ++ some [q0, q1, q2, q3] :: (bg ++ some [g0, g1, g2, g3] :: ex0))) (by simp) ?_
  rintro r h' ⟨rfl, c1, l1, rfl⟩
  simp (disch := omega) [sp0, sp1, sp2, sp3, ap0, ap1, ap2, ap3, sq0, sq1, sq2, sq3, aq0, aq1, aq2, aq3, sy1, sg0, sg1, sg2, sg3, ag0, ag1, ag2, ag3, ← l0, ← l1]
  have M3 := fun X => markTerm_ok g.norm (1 + s.w + cws ctx) ([none, none, some w.cells] ++ c0 ++ [some [p0, p1, p2, p3]] ++ c1) X [q0, q1, q2, q3] b2 (by omega) (by omega) (by
    have e : ([none, none, some w.cells] ++ c0 ++ [some [p0, p1, p2, p3]] ++ c1 : List Box).length = ([none, none, some w.cells] ++ b0 ++ [some [p0, p1, p2, p3]] ++ b1 : List Box).length := by simp [l0, l1]
    rw [e]; exact tT)
  refine onCall_anyE (M3 (some [q0, q1, q2, q3] :: (bg ++ some [g0, g1, g2, g3] :: ex0))) (by simp) ?_
  rintro r h' ⟨rfl, c2, ex2, l2, _, rfl⟩
  have hk3 : ltB (1 + (s.w : Int) + (cws ctx : Int) + (g.norm.tcnt : Int)) 0 = false := by rw [ltB_false]; omega
  simp (disch := omega) [sp0, sp1, sp2, sp3, ap0, ap1, ap2, ap3, sq0, sq1, sq2, sq3, aq0, aq1, aq2, aq3, sy1, sg0, sg1, sg2, sg3, ag0, ag1, ag2, ag3, ← l0, ← l1, ← l2, hk3]
  obtain ⟨P, hP⟩ : ∃ P : List Box, [none, none, some w.cells] ++ c0 ++ [some [p0, p1, p2, p3]] ++ c1 ++ c2 ++ [some [q0, q1, q2, q3]] = P := ⟨_, rfl⟩
  have hPl : P.length = ([none, none, some w.cells] ++ b0 ++ [some [p0, p1, p2, p3]] ++ b1 ++ b2 ++ [some [q0, q1, q2, q3]] : List Box).length := by rw [← hP]; simp [l0, l1, l2]
  have hPX : ∀ X : List Box, none :: none :: some w.cells :: (c0 ++ some [p0, p1, p2, p3] :: (c1 ++ (c2 ++ some [q0, q1, q2, q3] :: X))) = P ++ X := fun X => by rw [← hP]; simp
  refine onCall_lend EQ (viewAll_cons (vg P _ hPl ⟨some [g0, g1, g2, g3] :: (ex0 ++ ex2), by simp [hPX]⟩) (viewAll_cons (view_agg (viewAll_term _ w)) viewAll_nil)) (whB _) ?_
  rintro r rfl
  simp (disch := omega) [sp0, sp1, sp2, sp3, ap0, ap1, ap2, ap3, sq0, sq1, sq2, sq3, aq0, aq1, aq2, aq3, sy1, sg0, sg1, sg2, sg3, ag0, ag1, ag2, ag3, ← l0, ← l1, ← l2, hbb]
  have tcG : G.nm.tcnt ≤ 461168601842738 := by
    have := tcnt_cnt G.nm
    have := tcnt_le G.nm (wf_nm _ Gw)
    have := size_nm G
    omega
  have M4 := fun X => markTerm_ok G.nm 1 P X [g0, g1, g2, g3] bg (by omega) (by have := size_nm G; omega) (by rw [hPl]; exact tg')
  refine onCall_anyE (M4 (some [g0, g1, g2, g3] :: (ex0 ++ ex2))) (by simp [hPX]) ?_
  rintro r h' ⟨rfl, cg, ex4, l4, tg4, rfl⟩
  have vm : ∀ (h : List Box), (∃ h2, h = P ++ cg ++ h2) → View h (topT 1 G.nm).lv (.agg [g0, g1, g2, g3]) := fun h ⟨h2, he⟩ => by
    have := view_at (h := h) (h1 := P) (h2 := h2) (t := .agg (topT 1 G.nm).ownF) (y := .agg [g0, g1, g2, g3]) (bs := cg) (by simp only [Whole]; exact whole_thT _ _ _ _ tg4) (by simp only [Th]; exact ⟨_, rfl, tg4⟩) he
    simpa only [share, share_ownF] using this
  have HD := heldTerm_ok G.nm 1 (by omega) (by have := size_nm G; omega)
  have hq1 : ltB (1 + (G.nm.tcnt : Int)) 0 = false := by rw [ltB_false]; omega
  have hq2 : eqB (1 + (G.nm.tcnt : Int)) (1 + (G.nm.tcnt : Int)) = true := by rw [eqB_true]
  rw [← hP]
  simp (disch := omega) [sp0, sp1, sp2, sp3, ap0, ap1, ap2, ap3, sq0, sq1, sq2, sq3, aq0, aq1, aq2, aq3, sy1, sg0, sg1, sg2, sg3, ag0, ag1, ag2, ag3, ← l0, ← l1, ← l2, ← l4]
  refine onCall_lend HD (viewAll_cons (vm _ ⟨some [g0, g1, g2, g3] :: (ex0 ++ (ex2 ++ ex4)), by simp [hPX]⟩) (viewAll_cons view_sc viewAll_nil)) (whN _) ?_
  rintro r rfl
  simp (disch := omega) [sp0, sp1, sp2, sp3, ap0, ap1, ap2, ap3, sq0, sq1, sq2, sq3, aq0, aq1, aq2, aq3, sy1, sg0, sg1, sg2, sg3, ag0, ag1, ag2, ag3, ← l0, ← l1, ← l2, ← l4, hq1, hq2]
  refine onCall_eq t1 (by simp) ?_
  simp (disch := omega)
  refine onCall_eq t2 (by simp) ?_
  simp (disch := omega)
  refine onCall_eq t3 (by simp) ?_
  simp (disch := omega)
  refine onCall_eq IM (by simp) ?_
  simp (disch := omega) [outI, hG, hob]
  refine onCall_eq EQ (by simp) ?_
  simp (disch := omega) [sp0, sp1, sp2, sp3, ap0, ap1, ap2, ap3, sq0, sq1, sq2, sq3, aq0, aq1, aq2, aq3, sy1, sg0, sg1, sg2, sg3, ag0, ag1, ag2, ag3, ← l0, ← l1, ← l2, ← l4, hbb]
  refine onCall_lend HD (viewAll_cons (vm _ ⟨some [g0, g1, g2, g3] :: (ex0 ++ (ex2 ++ (ex4 ++ [some G.ownC]))), by simp [hPX]⟩) (viewAll_cons view_sc viewAll_nil)) (whN _) ?_
  rintro r rfl
  simp (disch := omega) [sp0, sp1, sp2, sp3, ap0, ap1, ap2, ap3, sq0, sq1, sq2, sq3, aq0, aq1, aq2, aq3, sy1, sg0, sg1, sg2, sg3, ag0, ag1, ag2, ag3, ← l0, ← l1, ← l2, ← l4, hq1, hq2]
end Go.Proofs.YtclfngbealdbgaaGreat
