/- Part 6 of the proof of the row of the text YtclfngbealdbgaaGreatZRowBoxTerm: texts joined. No conditions. -/
import Derived.Test.YtclfngbealdbgaaGreatZeRowBoxTerm
set_option linter.unusedSimpArgs false
set_option linter.unusedVariables false
set_option linter.unusedSectionVars false
namespace Go.Proofs.YtclfngbealdbgaaGreat
open Go Go.TL
open Go.Proofs.YtclfngbealdbgaaGreat.Ty
set_option linter.unusedSimpArgs false
set_option linter.unusedVariables false
set_option maxRecDepth 20000
set_option maxHeartbeats 4000000
theorem Zdw (p : Int → Bool) : ∀ (n g : Nat), YI p g n = -1 ∨ ((g : Int) ≤ YI p g n ∧ YI p g n < g + n)
 | 0, g => .inl rfl
 | n + 1, g => by
  unfold YI
  split
  ·right; omega
  ·rcases Zdw p n (g + 1) with h | h
   ·exact .inl h
   ·right; omega
theorem join_in {s : GSys} (hs : s.sys = true) {a b : Int} (ha : s.G a) (hb : s.G b) : s.G (s.join a b) := by
 have t := GSys.sys_of hs
 have h2 : leB 0 (s.join a b) = true := by
  unfold GSys.sys at hs
  rw [Bool.and_eq_true, Jt] at hs
  have h := hs.2 a.toNat (by have := ha.1; have := ha.2; omega)
  unfold GSys.sysB at h
  rw [Bool.and_eq_true, Jt] at h
  have h := h.2 b.toNat (by have := hb.1; have := hb.2; omega)
  unfold GSys.sysC at h
  rw [Bool.and_eq_true] at h
  have h := h.1
  unfold GSys.two at h
  simp only [Bool.and_eq_true] at h
  have e1 : ((a.toNat : Nat) : Int) = a := by have := ha.1; omega
  have e2 : ((b.toNat : Nat) : Int) = b := by have := hb.1; omega
  rw [e1, e2] at h
  exact h.2
 rw [Qi] at h2
 have := Zdw (s.isJoin a b) s.size.toNat 0
 unfold GSys.join at h2 ⊢
 have := t.lo
 exact ⟨h2, by omega⟩
theorem Zlq {s : GSys} (hs : s.sys = true) {a b : List Int} (u : Int) (hu : u ∈ Jc s a b) (ha : ∀ u ∈ a, s.G u) (hb : ∀ u ∈ b, s.G u) : s.G u := by
 unfold Jc at hu
 rw [List.mem_iff_getElem] at hu
 obtain ⟨i, hi, rfl⟩ := hu
 simp only [List.length_zipWith] at hi
 rw [List.getElem_zipWith]
 exact join_in hs (ha _ (List.getElem_mem _)) (hb _ (List.getElem_mem _))
theorem ZH {l : List Int} (h : l ≠ []) : QF 1 (L false l) 0 = some (.rp [N (hd l)]) := by
 cases l with
 | nil => exact absurd rfl h
 | cons c l =>
  have := Xj (c :: l) false false 0 (by omega) (by simp)
  simpa using this
theorem cat3 (x : Int) (na nb : Bool) (a b : List Int) (ha : a.length ≤ 1000) (hb : b.length ≤ 1000) :
  Qe Tryz.prog QH [.sl false false 1 [[.sl false false 1 [[N x]]], [L na a], [L nb b]]] (· = OU true false (x :: (a ++ b))) := by
 have h := Zhn [(false, [x]), (na, a), (nb, b)] (by simp) (by simp [lnI]; omega)
 have e : flI [(false, [x]), (na, a), (nb, b)] = x :: (a ++ b) := by simp [flI]
 have e2 : ltB 0 ((x :: (a ++ b)).length : Int) = true := by rw [Qf]; simp <;> omega
 rw [e] at h
 unfold catI at h
 rw [e2] at h
 exact h
theorem cat2 (x : Int) (na : Bool) (a : List Int) (ha : a.length ≤ 1000) :
  Qe Tryz.prog QH [.sl false false 1 [[.sl false false 1 [[N x]]], [L na a]]] (· = OU true false (x :: a)) := by
 have h := Zhn [(false, [x]), (na, a)] (by simp) (by simp [lnI]; omega)
 have e : flI [(false, [x]), (na, a)] = x :: a := by simp [flI]
 have e2 : ltB 0 ((x :: a).length : Int) = true := by rw [Qf]; simp <;> omega
 rw [e] at h
 unfold catI at h
 rw [e2] at h
 exact h
def FinR (q : Int × List Int × List Int) (m : Nat) (u3 n3 : Bool) (Qj : List (List LV)) (r : LV) (h' : List Box) : Prop := r = N q.1 ∧ ∃ T nd c2 hr', h' = none :: none :: c2 :: ZfA T nd u3 n3 Qj :: hr' ∧
 (q.1 = 0 → (∃ u, T = OU u false q.2.1) ∧ ((∃ u, nd = OU u false q.2.2) ∨ (nd = .ha 2 1 0 m m ∧ c2 = some (q.2.2.map N) ∧ q.2.2.length = m)))
theorem ZoQ {s : GSys} (hsy : s.sys = true) (nlc : Bool) (ctx : Wf) (hcl : ctx.length ≤ 100000) (hc : ∀ c ∈ ctx, okL s.size c.2 = true) (hcf : ∀ c ∈ ctx, c.1 = false) (op n : Int) (nl1 : Bool) (gty : List Int) (nl2 : Bool) (ks : List GTerm) (ds : List TT)
  (no : NodeOk s ctx.length op n gty ds.length) (k : KidsOk s ctx.length op n ds) (Qj : List (List LV)) (hrw : TT.are ds Qj) (u3 n3 nn nu : Bool) (nds uds : Wf)
  (hnd : ∀ i, i < ds.length → QF 1 (LC nn nds) (i : Int) = some (.rp [L false (ndP op ds i)])) (hud : ∀ i, i < ds.length → ∃ f, QF 1 (LC nu uds) (i : Int) = some (.rp [L f (usP op ds i)])) (hr : List Box) (m : Nat) (hm : ctx.length = m) :
  QK Tryz.prog Y8 [s.lv, .ptr 3 0, LC nlc ctx, (GTerm.mk op n nl1 gty nl2 ks).lv, LC nn nds, LC nu uds] (none :: none :: some ((WB m).map N) :: ZfA (.sl true true 1 []) (.ha 2 1 0 m m) u3 n3 Qj :: hr)
   (FinR (Wv s (ctx.map Prod.snd) op n gty ds) m u3 n3 Qj) := by
 subst hm
 have t := GSys.sys_of hsy
 have h16 := t.hi
 obtain ⟨many, hvar, hgr, hty, o1, o2⟩ := no
 have get : ∀ i, i < ds.length → ∃ x, ds[i]? = some x ∧ x.good s (ctx.length + (Qq op i).toNat) := fun i hi =>
  ⟨_, List.getElem?_eq_getElem hi, (k.each i _ (List.getElem?_eq_getElem hi)).1⟩
 have tyG : ∀ i, i < ds.length → okL s.size (tyP ds i) = true := fun i hi => by
  obtain ⟨x, h1, h2⟩ := get i hi
  unfold tyP; rw [List.getD_eq_getElem?_getD, h1]; exact h2.1
 have ndL : ∀ i, i < ds.length → (ndP op ds i).length = ctx.length := fun i hi => by
  obtain ⟨x, h1, h2⟩ := get i hi
  unfold ndP; rw [List.getD_eq_getElem?_getD, h1]; exact (ZcU h2).1
 have ndG : ∀ i, i < ds.length → ∀ u ∈ ndP op ds i, s.G u := fun i hi => by
  obtain ⟨x, h1, h2⟩ := get i hi
  unfold ndP; rw [List.getD_eq_getElem?_getD, h1]; exact (ZcU h2).2
 have usL : ∀ i, i < ds.length → (usP op ds i).length ≤ 1099511627776 := fun i hi => by
  unfold usP; rw [List.length_take]; have := Xy op i; omega
 have usG : ∀ i, i < ds.length → ∀ u ∈ usP op ds i, s.G u := fun i hi u hu => by
  obtain ⟨x, h1, h2⟩ := get i hi
  unfold usP at hu; rw [List.getD_eq_getElem?_getD, h1] at hu; exact h2.2.2 u (List.mem_of_mem_take hu)
 have fst : 0 < ds.length → ZdM op (hd (tyP ds 0)) := fun hi => (k.first (by rintro rfl; simp at hi)).2.1
 have kid : ∀ (T nd : LV) (b0 b1 b2 : Box) (hr : List Box) (i : Nat) (hi : i < ds.length), QK Tryz.prog XE [N i, .rp [.ptr 3 0]] (b0 :: b1 :: b2 :: ZfA T nd u3 n3 Qj :: hr) (fun r h' => r = L false (tyP ds i) ∧ h' = b0 :: b1 :: b2 :: ZfA T nd u3 n3 Qj :: hr) :=
  fun T nd b0 b1 b2 hr i hi => ZnY hrw T nd u3 n3 b0 b1 b2 hr i hi
 have sumc := fun (n1 n2 : Bool) (a b : List Int) (h1 : a.length = ctx.length) (h2 : b.length = ctx.length) (ha : ∀ u ∈ a, s.G u) (hb : ∀ u ∈ b, s.G u) => sumF_ok t n1 n2 a b (by omega) (by omega) ha hb
 have eqc := fun (n1 n2 : Bool) (i j : Nat) (hi : i < ds.length) => ZmC n1 n2 (tyP ds i) (tyP ds j) (by have := QM (tyG i hi); omega)
 have lg := fun (l : List Int) => long_ok false false l
 have hidx : ∀ (i : Nat) (h : i < ctx.length), QF 1 (LC nlc ctx) (i : Int) = some (.rp [eC ctx[i]]) := fun i h => JW ctx nlc i h
 have hex : ∃ r h', FinR (Wv s (ctx.map Prod.snd) op n gty ds) ctx.length u3 n3 Qj r h' := ⟨_, _, rfl, OU true false (Wv s (ctx.map Prod.snd) op n gty ds).2.1, OU true false (Wv s (ctx.map Prod.snd) op n gty ds).2.2, none, [], rfl, fun _ => ⟨⟨true, rfl⟩, .inl ⟨true, rfl⟩⟩⟩
 have hops : op = 0 ∨ op = 1 ∨ op = 2 ∨ op = 3 ∨ op = 4 ∨ op = 5 ∨ op = 6 ∨ op = 7 ∨ op = 8 ∨ op = 9 ∨ op = 10 ∨ op = 11 ∨ op = 12 := by omega
 refine QK.of_codeOf ZbD Qy (by simp) hex ?_
 rcases hops with e | e | e | e | e | e | e | e | e | e | e | e | e
 all_goals subst e
 all_goals simp [Yh] at many
 ·obtain ⟨v0, v1⟩ := hvar rfl
  obtain ⟨v, rfl⟩ : ∃ v : Nat, n = v := ⟨n.toNat, by omega⟩
  have hv : v < ctx.length := by omega
  have hx := hidx v hv
  have hxo := hc _ (List.getElem_mem hv)
  have hxf := hcf _ (List.getElem_mem hv)
  have hget : (ctx.map Prod.snd)[v]? = some (ctx[v].2) := by simp [hv]
  generalize ctx[v] = c at hx hxo hxf hget
  obtain ⟨cf, cl⟩ := c
  simp only at hxo hxf hget
  subst hxf
  have hlen := QM hxo
  simp (disch := omega) [QN, Qw, Qu, GTerm.cells, eqB, hx]
  refine Qa (Zhg false cl (by omega)) (by simp) ?_
  have hzl : (WB (List.length ctx)).length = List.length ctx := by simp [WB]
  simp (disch := omega) [Go.Proofs.YtclfngbealdbgaaGreat.cl, Y6, hzl]
  refine ⟨by omega, ?_⟩
  refine Qa (lg cl) (by simp) ?_
  have hlb : ltB 40 cl.length = false := by rw [Qd]; omega
  simp (disch := omega) [hlb]
  refine QO (.inr rfl) (by simp) ⟨by simp [Wv], _, _, _, _, rfl, fun _ => ?_⟩
  simp [Wv, hget]
  refine ⟨?_, hzl⟩
  rw [List.set_eq_take_append_cons_drop, if_pos (by rw [List.length_map, hzl]; omega)]
 ·simp (disch := omega) [QN, Qw, Qu, GTerm.cells, eqB, Qn]
  refine Qa (lg [0]) (by simp) ?_
  simp (disch := omega) [ltB]
  refine QO (.inr rfl) (by simp) ⟨by simp [Wv], _, _, _, _, rfl, fun _ => ?_⟩
  simp [Wv, WB]
 ·have i0 : QF 1 (LC nn nds) 0 = some (.rp [L false (ndP 2 ds 0)]) := hnd 0 (by omega)
  have a0 := ndL 0 (by omega)
  have b0 := ndG 0 (by omega)
  have l0 := QM (tyG 0 (by omega))
  have i1 : QF 1 (LC nn nds) 1 = some (.rp [L false (ndP 2 ds 1)]) := hnd 1 (by omega)
  have a1 := ndL 1 (by omega)
  have b1 := ndG 1 (by omega)
  have l1 := QM (tyG 1 (by omega))
  simp (disch := omega) [QN, Qw, Qu, GTerm.cells, eqB, i0, i1, Qn]
  refine Qa (sumc false false _ _ a0 a1 b0 b1) (by simp) ?_
  simp (disch := omega) [i0, i1, Qn]
  refine Qa (lg [0]) (by simp) ?_
  simp (disch := omega) [ltB]
  refine QO (.inr rfl) (by simp) ⟨by simp [Wv], _, _, _, _, rfl, fun _ => ?_⟩
  simp [Wv]
 ·have i0 : QF 1 (LC nn nds) 0 = some (.rp [L false (ndP 3 ds 0)]) := hnd 0 (by omega)
  have a0 := ndL 0 (by omega)
  have b0 := ndG 0 (by omega)
  have l0 := QM (tyG 0 (by omega))
  have i1 : QF 1 (LC nn nds) 1 = some (.rp [L false (ndP 3 ds 1)]) := hnd 1 (by omega)
  have a1 := ndL 1 (by omega)
  have b1 := ndG 1 (by omega)
  have l1 := QM (tyG 1 (by omega))
  have i2 : QF 1 (LC nn nds) 2 = some (.rp [L false (ndP 3 ds 2)]) := hnd 2 (by omega)
  have a2 := ndL 2 (by omega)
  have b2 := ndG 2 (by omega)
  have l2 := QM (tyG 2 (by omega))
  simp (disch := omega) [QN, Qw, Qu, GTerm.cells, eqB, i0, i1, i2, Qn]
  refine Wm (kid _ _ _ _ _ _ 1 (by omega)) ?_
  rintro r h' ⟨rfl, rfl⟩
  simp (disch := omega) [i0, i1, i2, Qn]
  refine Wm (kid _ _ _ _ _ _ 2 (by omega)) ?_
  rintro r h' ⟨rfl, rfl⟩
  simp (disch := omega) [i0, i1, i2, Qn]
  refine Qa (eqc false false 1 2 (by omega)) (by simp) ?_
  cases he : (tyP ds 1 == tyP ds 2)
  ·simp (disch := omega)
   have he' : tyP ds 1 ≠ tyP ds 2 := by simpa using he
   exact QO (.inr rfl) (by simp) ⟨by simp [Wv, he'], _, _, _, _, rfl, fun h => by simp [Wv, he'] at h⟩
  ·simp (disch := omega) [i0, i1, i2, Qn]
   have he' : tyP ds 1 = tyP ds 2 := by simpa using he
   refine Wm (kid _ _ _ _ _ _ 1 (by omega)) ?_
   rintro r h' ⟨rfl, rfl⟩
   simp (disch := omega) [i0, i1, i2, Qn]
   have jo := ZcO (s := s) a1 a2
   have jg : ∀ u ∈ Jc s (ndP 3 ds 1) (ndP 3 ds 2), s.G u := fun u hu => Zlq hsy u hu b1 b2
   refine Qa (Znj t false false _ _ (by omega) (by omega) b1 b2) (by simp) ?_
   simp (disch := omega) [i0, i1, i2, Qn]
   refine Qa (sumc false false _ _ a0 jo b0 jg) (by simp) ?_
   simp (disch := omega) [i0, i1, i2, Qn]
   have hl1 : ltB 40 (tyP ds 1).length = false := by rw [Qd]; omega
   refine Qa (lg (tyP ds 1)) (by simp) ?_
   simp (disch := omega) [hl1]
   refine QO (.inr rfl) (by simp) ⟨by simp [Wv, he'], _, _, _, _, rfl, fun _ => ?_⟩
   simp [Wv, he']
 ·have i0 : QF 1 (LC nn nds) 0 = some (.rp [L false (ndP 4 ds 0)]) := hnd 0 (by omega)
  have a0 := ndL 0 (by omega)
  have b0 := ndG 0 (by omega)
  have l0 := QM (tyG 0 (by omega))
  have i1 : QF 1 (LC nn nds) 1 = some (.rp [L false (ndP 4 ds 1)]) := hnd 1 (by omega)
  have a1 := ndL 1 (by omega)
  have b1 := ndG 1 (by omega)
  have l1 := QM (tyG 1 (by omega))
  simp (disch := omega) [QN, Qw, Qu, GTerm.cells, eqB, i0, i1, Qn]
  refine Wm (kid _ _ _ _ _ _ 0 (by omega)) ?_
  rintro r h' ⟨rfl, rfl⟩
  simp (disch := omega) [i0, i1, Qn]
  refine Wm (kid _ _ _ _ _ _ 1 (by omega)) ?_
  rintro r h' ⟨rfl, rfl⟩
  simp (disch := omega) [i0, i1, Qn]
  obtain ⟨z, hz⟩ : ∃ z, z = 1 :: (tyP ds 0 ++ tyP ds 1) := ⟨_, rfl⟩
  have cz := cat3 1 false false (tyP ds 0) (tyP ds 1) (by omega) (by omega)
  rw [← hz] at cz
  refine Qa cz (by simp) ?_
  simp (disch := omega) [i0, i1, Qn]
  refine Qa (sumc false false _ _ a0 a1 b0 b1) (by simp) ?_
  simp (disch := omega) [i0, i1, Qn]
  refine Qa (lg z) (by simp) ?_
  have fp : Wv s (ctx.map Prod.snd) 4 n gty ds = Yg z (Jr s (ndP 4 ds 0) (ndP 4 ds 1)) := by simp [Wv, hz]
  rw [fp, Yg]
  by_cases hl : z.length ≤ 40
  ·have hb : ltB 40 (z.length : Int) = false := by rw [Qd]; omega
   rw [hb, if_pos hl]
   simp (disch := omega)
   exact QO (.inr rfl) (by simp) ⟨rfl, _, _, _, _, rfl, fun _ => ⟨⟨_, rfl⟩, .inl ⟨_, rfl⟩⟩⟩
  ·have hb : ltB 40 (z.length : Int) = true := by rw [Qf]; omega
   rw [hb, if_neg hl]
   simp (disch := omega)
   exact QO (.inr rfl) (by simp) ⟨rfl, _, _, _, _, rfl, fun h => by simp at h⟩
 ·have i0 : QF 1 (LC nn nds) 0 = some (.rp [L false (ndP 5 ds 0)]) := hnd 0 (by omega)
  have a0 := ndL 0 (by omega)
  have b0 := ndG 0 (by omega)
  have l0 := QM (tyG 0 (by omega))
  have i1 : QF 1 (LC nn nds) 1 = some (.rp [L false (ndP 5 ds 1)]) := hnd 1 (by omega)
  have a1 := ndL 1 (by omega)
  have b1 := ndG 1 (by omega)
  have l1 := QM (tyG 1 (by omega))
  obtain ⟨g1, j1⟩ : ∃ f, QF 1 (LC nu uds) 1 = some (.rp [L f (usP 5 ds 1)]) := hud 1 (by omega)
  have uo1 := fun (g : Int) hg => Vm t (g := g) hg g1 (usP 5 ds 1) (usL 1 (by omega)) (usG 1 (by omega))
  have hgn := hgr (by simp [Jo, Qc])
  simp (disch := omega) [QN, Qw, Qu, GTerm.cells, eqB, i0, i1, j1, Qn]
  refine Qa (uo1 n hgn) (by simp) ?_
  cases hu : WY s (usP 5 ds 1) (n)
  ·simp (disch := omega)
   exact QO (.inr rfl) (by simp) ⟨by simp [Wv, hu], _, _, _, _, rfl, fun h => by simp [Wv, hu] at h⟩
  ·simp (disch := omega) [i0, i1, j1, Qn]
   refine Wm (kid _ _ _ _ _ _ 1 (by omega)) ?_
   rintro r h' ⟨rfl, rfl⟩
   simp (disch := omega) [i0, i1, j1, Qn]
   refine Qa (Vp t (n) (hgn) false _ (by omega) b0) (by simp) ?_
   simp (disch := omega) [i0, i1, j1, Qn]
   have sc := X8 t (g := n) a0
   refine Qa (sumc false false _ _ sc.1 a1 sc.2 b1) (by simp) ?_
   simp (disch := omega) [i0, i1, j1, Qn]
   have hl1 : ltB 40 (tyP ds 1).length = false := by rw [Qd]; omega
   refine Qa (lg (tyP ds 1)) (by simp) ?_
   simp (disch := omega) [hl1]
   refine QO (.inr rfl) (by simp) ⟨by simp [Wv, hu], _, _, _, _, rfl, fun _ => ?_⟩
   simp [Wv, hu]
 ·have i0 : QF 1 (LC nn nds) 0 = some (.rp [L false (ndP 6 ds 0)]) := hnd 0 (by omega)
  have a0 := ndL 0 (by omega)
  have b0 := ndG 0 (by omega)
  have l0 := QM (tyG 0 (by omega))
  have hgt := hty (by simp [WD, Qc])
  have lt := QM hgt
  simp (disch := omega) [QN, Qw, Qu, GTerm.cells, eqB, i0, Qn]
  refine Wm (kid _ _ _ _ _ _ 0 (by omega)) ?_
  rintro r h' ⟨rfl, rfl⟩
  simp (disch := omega) [i0, Qn]
  obtain ⟨z, hz⟩ : ∃ z, z = 2 :: (tyP ds 0 ++ gty) := ⟨_, rfl⟩
  have cz := cat3 2 false nl1 (tyP ds 0) gty (by omega) (by omega)
  rw [← hz] at cz
  refine Qa cz (by simp) ?_
  simp (disch := omega) [i0, Qn]
  refine Qa (lg z) (by simp) ?_
  have fp : Wv s (ctx.map Prod.snd) 6 n gty ds = Yg z (ndP 6 ds 0) := by simp [Wv, hz]
  rw [fp, Yg]
  by_cases hl : z.length ≤ 40
  ·have hb : ltB 40 (z.length : Int) = false := by rw [Qd]; omega
   rw [hb, if_pos hl]
   simp (disch := omega)
   exact QO (.inr rfl) (by simp) ⟨rfl, _, _, _, _, rfl, fun _ => ⟨⟨_, rfl⟩, .inl ⟨_, rfl⟩⟩⟩
  ·have hb : ltB 40 (z.length : Int) = true := by rw [Qf]; omega
   rw [hb, if_neg hl]
   simp (disch := omega)
   exact QO (.inr rfl) (by simp) ⟨rfl, _, _, _, _, rfl, fun h => by simp at h⟩
 ·have i0 : QF 1 (LC nn nds) 0 = some (.rp [L false (ndP 7 ds 0)]) := hnd 0 (by omega)
  have a0 := ndL 0 (by omega)
  have b0 := ndG 0 (by omega)
  have l0 := QM (tyG 0 (by omega))
  have hgt := hty (by simp [WD, Qc])
  have lt := QM hgt
  simp (disch := omega) [QN, Qw, Qu, GTerm.cells, eqB, i0, Qn]
  refine Wm (kid _ _ _ _ _ _ 0 (by omega)) ?_
  rintro r h' ⟨rfl, rfl⟩
  simp (disch := omega) [i0, Qn]
  obtain ⟨z, hz⟩ : ∃ z, z = 2 :: (gty ++ tyP ds 0) := ⟨_, rfl⟩
  have cz := cat3 2 nl1 false gty (tyP ds 0) (by omega) (by omega)
  rw [← hz] at cz
  refine Qa cz (by simp) ?_
  simp (disch := omega) [i0, Qn]
  refine Qa (lg z) (by simp) ?_
  have fp : Wv s (ctx.map Prod.snd) 7 n gty ds = Yg z (ndP 7 ds 0) := by simp [Wv, hz]
  rw [fp, Yg]
  by_cases hl : z.length ≤ 40
  ·have hb : ltB 40 (z.length : Int) = false := by rw [Qd]; omega
   rw [hb, if_pos hl]
   simp (disch := omega)
   exact QO (.inr rfl) (by simp) ⟨rfl, _, _, _, _, rfl, fun _ => ⟨⟨_, rfl⟩, .inl ⟨_, rfl⟩⟩⟩
  ·have hb : ltB 40 (z.length : Int) = true := by rw [Qf]; omega
   rw [hb, if_neg hl]
   simp (disch := omega)
   exact QO (.inr rfl) (by simp) ⟨rfl, _, _, _, _, rfl, fun h => by simp at h⟩
 ·have i0 : QF 1 (LC nn nds) 0 = some (.rp [L false (ndP 8 ds 0)]) := hnd 0 (by omega)
  have a0 := ndL 0 (by omega)
  have b0 := ndG 0 (by omega)
  have l0 := QM (tyG 0 (by omega))
  have i1 : QF 1 (LC nn nds) 1 = some (.rp [L false (ndP 8 ds 1)]) := hnd 1 (by omega)
  have a1 := ndL 1 (by omega)
  have b1 := ndG 1 (by omega)
  have l1 := QM (tyG 1 (by omega))
  have i2 : QF 1 (LC nn nds) 2 = some (.rp [L false (ndP 8 ds 2)]) := hnd 2 (by omega)
  have a2 := ndL 2 (by omega)
  have b2 := ndG 2 (by omega)
  have l2 := QM (tyG 2 (by omega))
  obtain ⟨g1, j1⟩ : ∃ f, QF 1 (LC nu uds) 1 = some (.rp [L f (usP 8 ds 1)]) := hud 1 (by omega)
  have uo1 := fun (g : Int) hg => Vm t (g := g) hg g1 (usP 8 ds 1) (usL 1 (by omega)) (usG 1 (by omega))
  obtain ⟨g2, j2⟩ : ∃ f, QF 1 (LC nu uds) 2 = some (.rp [L f (usP 8 ds 2)]) := hud 2 (by omega)
  have uo2 := fun (g : Int) hg => Vm t (g := g) hg g2 (usP 8 ds 2) (usL 2 (by omega)) (usG 2 (by omega))
  have hgn := hgr (by simp [Jo, Qc])
  simp (disch := omega) [QN, Qw, Qu, GTerm.cells, eqB, i0, i1, i2, j1, j2, Qn]
  refine Wm (kid _ _ _ _ _ _ 1 (by omega)) ?_
  rintro r h' ⟨rfl, rfl⟩
  simp (disch := omega) [i0, i1, i2, j1, j2, Qn]
  refine Wm (kid _ _ _ _ _ _ 2 (by omega)) ?_
  rintro r h' ⟨rfl, rfl⟩
  simp (disch := omega) [i0, i1, i2, j1, j2, Qn]
  refine Qa (eqc false false 1 2 (by omega)) (by simp) ?_
  cases he : (tyP ds 1 == tyP ds 2)
  ·simp (disch := omega)
   have he' : tyP ds 1 ≠ tyP ds 2 := by simpa using he
   exact QO (.inr rfl) (by simp) ⟨by simp [Wv, he'], _, _, _, _, rfl, fun h => by simp [Wv, he'] at h⟩
  ·simp (disch := omega) [i0, i1, i2, j1, j2, Qn]
   have he' : tyP ds 1 = tyP ds 2 := by simpa using he
   refine Qa (uo1 n hgn) (by simp) ?_
   cases hu : WY s (usP 8 ds 1) (n)
   ·simp (disch := omega)
    exact QO (.inr rfl) (by simp) ⟨by simp [Wv, he', hu], _, _, _, _, rfl, fun h => by simp [Wv, he', hu] at h⟩
   ·simp (disch := omega) [i0, i1, i2, j1, j2, Qn]
    refine Qa (uo2 n hgn) (by simp) ?_
    cases hv : WY s (usP 8 ds 2) (n)
    ·simp (disch := omega)
     exact QO (.inr rfl) (by simp) ⟨by simp [Wv, he', hu, hv], _, _, _, _, rfl, fun h => by simp [Wv, he', hu, hv] at h⟩
    ·simp (disch := omega) [i0, i1, i2, j1, j2, Qn]
     refine Wm (kid _ _ _ _ _ _ 1 (by omega)) ?_
     rintro r h' ⟨rfl, rfl⟩
     simp (disch := omega) [i0, i1, i2, j1, j2, Qn]
     refine Qa (Vp t (n) (hgn) false _ (by omega) b0) (by simp) ?_
     simp (disch := omega) [i0, i1, i2, j1, j2, Qn]
     have sc := X8 t (g := n) a0
     have jo := ZcO (s := s) a1 a2
     have jg : ∀ u ∈ Jc s (ndP 8 ds 1) (ndP 8 ds 2), s.G u := fun u hu => Zlq hsy u hu b1 b2
     refine Qa (Znj t false false _ _ (by omega) (by omega) b1 b2) (by simp) ?_
     simp (disch := omega) [i0, i1, i2, j1, j2, Qn]
     refine Qa (sumc false false _ _ sc.1 jo sc.2 jg) (by simp) ?_
     simp (disch := omega) [i0, i1, i2, j1, j2, Qn]
     have hl1 : ltB 40 (tyP ds 1).length = false := by rw [Qd]; omega
     refine Qa (lg (tyP ds 1)) (by simp) ?_
     simp (disch := omega) [hl1]
     refine QO (.inr rfl) (by simp) ⟨by simp [Wv, he', hu, hv], _, _, _, _, rfl, fun _ => ?_⟩
     simp [Wv, he', hu, hv]
 ·have i0 : QF 1 (LC nn nds) 0 = some (.rp [L false (ndP 9 ds 0)]) := hnd 0 (by omega)
  have a0 := ndL 0 (by omega)
  have b0 := ndG 0 (by omega)
  have l0 := QM (tyG 0 (by omega))
  obtain ⟨g0, j0⟩ : ∃ f, QF 1 (LC nu uds) 0 = some (.rp [L f (usP 9 ds 0)]) := hud 0 (by omega)
  have uo0 := fun (g : Int) hg => Vm t (g := g) hg g0 (usP 9 ds 0) (usL 0 (by omega)) (usG 0 (by omega))
  have hgn := hgr (by simp [Jo, Qc])
  have hgt := hty (by simp [WD, Qc])
  have lt := QM hgt
  simp (disch := omega) [QN, Qw, Qu, GTerm.cells, eqB, i0, j0, Qn]
  refine Qa (uo0 n hgn) (by simp) ?_
  cases hu : WY s (usP 9 ds 0) (n)
  ·simp (disch := omega)
   exact QO (.inr rfl) (by simp) ⟨by simp [Wv, hu], _, _, _, _, rfl, fun h => by simp [Wv, hu] at h⟩
  ·simp (disch := omega) [i0, j0, Qn]
   rw [Qh (by have := hgn.1; have := hgn.2; omega)]
   refine Wm (kid _ _ _ _ _ _ 0 (by omega)) ?_
   rintro r h' ⟨rfl, rfl⟩
   simp (disch := omega) [i0, j0, Qn]
   obtain ⟨z, hz⟩ : ∃ z, z = (3 + n) :: (gty ++ tyP ds 0) := ⟨_, rfl⟩
   have cz := cat3 (3 + n) nl1 false gty (tyP ds 0) (by omega) (by omega)
   rw [← hz] at cz
   refine Qa cz (by simp) ?_
   simp (disch := omega) [i0, j0, Qn]
   refine Qa (lg z) (by simp) ?_
   have fp : Wv s (ctx.map Prod.snd) 9 n gty ds = Yg z (ndP 9 ds 0) := by simp [Wv, hz, hu]
   rw [fp, Yg]
   by_cases hl : z.length ≤ 40
   ·have hb : ltB 40 (z.length : Int) = false := by rw [Qd]; omega
    rw [hb, if_pos hl]
    simp (disch := omega)
    exact QO (.inr rfl) (by simp) ⟨rfl, _, _, _, _, rfl, fun _ => ⟨⟨_, rfl⟩, .inl ⟨_, rfl⟩⟩⟩
   ·have hb : ltB 40 (z.length : Int) = true := by rw [Qf]; omega
    rw [hb, if_neg hl]
    simp (disch := omega)
    exact QO (.inr rfl) (by simp) ⟨rfl, _, _, _, _, rfl, fun h => by simp at h⟩
 ·have i0 : QF 1 (LC nn nds) 0 = some (.rp [L false (ndP 10 ds 0)]) := hnd 0 (by omega)
  have a0 := ndL 0 (by omega)
  have b0 := ndG 0 (by omega)
  have l0 := QM (tyG 0 (by omega))
  have i1 : QF 1 (LC nn nds) 1 = some (.rp [L false (ndP 10 ds 1)]) := hnd 1 (by omega)
  have a1 := ndL 1 (by omega)
  have b1 := ndG 1 (by omega)
  have l1 := QM (tyG 1 (by omega))
  have h0 := X6 (tyG 0 (by omega))
  have hx0 : QF 1 (L false (tyP ds 0)) 0 = some (.rp [N (hd (tyP ds 0))]) := ZH h0.2.2.2.1
  have hga := fst (by omega)
  have hgc := J1 h0.1 (.inl ((fst (by omega)).2.2.2.1 rfl))
  have hsh : (Qz (hd (tyP ds 0))).2 = Wp (hd (tyP ds 0)) := (ZB h0.2.1 h0.2.2.1).2.2.2.2.2 (.inl ((fst (by omega)).2.2.2.1 rfl))
  have hgg : s.G (Qz (hd (tyP ds 0))).2 := by rw [hsh]; exact hgc
  simp (disch := omega) [QN, Qw, Qu, GTerm.cells, eqB, i0, i1, Qn]
  refine Wm (kid _ _ _ _ _ _ 0 (by omega)) ?_
  rintro r h' ⟨rfl, rfl⟩
  simp (disch := omega) [hx0, Qn]
  refine Qa (KD _ ⟨by omega, by omega⟩) (by simp) ?_
  simp (disch := omega) [i0, i1, Qn]
  refine Wm (kid _ _ _ _ _ _ 0 (by omega)) ?_
  rintro r h' ⟨rfl, rfl⟩
  simp (disch := omega) [i0, i1, Qn]
  refine Qa (ZfW (K6 (tyG 0 (by omega)))) (by simp) ?_
  rw [Zba (Zau (hga.2.2.2.1 rfl))]
  have hx1 : QF 1 (.sl true false 1 [[L false (QQ (tyP ds 0))], [L false (WG (tyP ds 0))]]) 1 = some (.rp [L false (WG (tyP ds 0))]) := by simp [QF]
  simp (disch := omega) [i0, i1, Qn, hx1]
  refine Qa (Vp t ((Qz (hd (tyP ds 0))).2) (hgg) false _ (by omega) b1) (by simp) ?_
  simp (disch := omega) [i0, i1, Qn]
  have sc := X8 t (g := (Qz (hd (tyP ds 0))).2) a1
  refine Qa (sumc false false _ _ a0 sc.1 b0 sc.2) (by simp) ?_
  simp (disch := omega) [i0, i1, Qn]
  have l9 := QM (VR (tyG 0 (by omega)) (Zau (hga.2.2.2.1 rfl))).2.2
  have hl9 : ltB 40 (WG (tyP ds 0)).length = false := by rw [Qd]; omega
  refine Qa (lg (WG (tyP ds 0))) (by simp) ?_
  simp (disch := omega) [hl9]
  refine QO (.inr rfl) (by simp) ⟨by simp [Wv], _, _, _, _, rfl, fun _ => ?_⟩
  simp [Wv]
 ·have i0 : QF 1 (LC nn nds) 0 = some (.rp [L false (ndP 11 ds 0)]) := hnd 0 (by omega)
  have a0 := ndL 0 (by omega)
  have b0 := ndG 0 (by omega)
  have l0 := QM (tyG 0 (by omega))
  have hgn := hgr (by simp [Jo, Qc])
  simp (disch := omega) [QN, Qw, Qu, GTerm.cells, eqB, i0, Qn]
  rw [Qh (by have := hgn.1; have := hgn.2; omega)]
  refine Wm (kid _ _ _ _ _ _ 0 (by omega)) ?_
  rintro r h' ⟨rfl, rfl⟩
  simp (disch := omega) [i0, Qn]
  obtain ⟨z, hz⟩ : ∃ z, z = (19 + n) :: tyP ds 0 := ⟨_, rfl⟩
  have cz := cat2 (19 + n) false (tyP ds 0) (by omega)
  rw [← hz] at cz
  refine Qa cz (by simp) ?_
  simp (disch := omega) [i0, Qn]
  refine Qa (Vp t (n) (hgn) false _ (by omega) b0) (by simp) ?_
  simp (disch := omega) [i0, Qn]
  refine Qa (lg z) (by simp) ?_
  have fp : Wv s (ctx.map Prod.snd) 11 n gty ds = Yg z (WO s n (ndP 11 ds 0)) := by simp [Wv, hz]
  rw [fp, Yg]
  by_cases hl : z.length ≤ 40
  ·have hb : ltB 40 (z.length : Int) = false := by rw [Qd]; omega
   rw [hb, if_pos hl]
   simp (disch := omega)
   exact QO (.inr rfl) (by simp) ⟨rfl, _, _, _, _, rfl, fun _ => ⟨⟨_, rfl⟩, .inl ⟨_, rfl⟩⟩⟩
  ·have hb : ltB 40 (z.length : Int) = true := by rw [Qf]; omega
   rw [hb, if_neg hl]
   simp (disch := omega)
   exact QO (.inr rfl) (by simp) ⟨rfl, _, _, _, _, rfl, fun h => by simp at h⟩
 ·have i0 : QF 1 (LC nn nds) 0 = some (.rp [L false (ndP 12 ds 0)]) := hnd 0 (by omega)
  have a0 := ndL 0 (by omega)
  have b0 := ndG 0 (by omega)
  have l0 := QM (tyG 0 (by omega))
  have i1 : QF 1 (LC nn nds) 1 = some (.rp [L false (ndP 12 ds 1)]) := hnd 1 (by omega)
  have a1 := ndL 1 (by omega)
  have b1 := ndG 1 (by omega)
  have l1 := QM (tyG 1 (by omega))
  obtain ⟨g1, j1⟩ : ∃ f, QF 1 (LC nu uds) 1 = some (.rp [L f (usP 12 ds 1)]) := hud 1 (by omega)
  have uo1 := fun (g : Int) hg => Vm t (g := g) hg g1 (usP 12 ds 1) (usL 1 (by omega)) (usG 1 (by omega))
  have hgn := hgr (by simp [Jo, Qc])
  have h0 := X6 (tyG 0 (by omega))
  have hx0 : QF 1 (L false (tyP ds 0)) 0 = some (.rp [N (hd (tyP ds 0))]) := ZH h0.2.2.2.1
  have hga := fst (by omega)
  have hgc := J1 h0.1 (.inr ((fst (by omega)).2.2.2.2 rfl))
  have hsh : (Qz (hd (tyP ds 0))).2 = Wp (hd (tyP ds 0)) := (ZB h0.2.1 h0.2.2.1).2.2.2.2.2 (.inr ((fst (by omega)).2.2.2.2 rfl))
  have hgg : s.G (Qz (hd (tyP ds 0))).2 := by rw [hsh]; exact hgc
  simp (disch := omega) [QN, Qw, Qu, GTerm.cells, eqB, i0, i1, j1, Qn]
  refine Wm (kid _ _ _ _ _ _ 0 (by omega)) ?_
  rintro r h' ⟨rfl, rfl⟩
  simp (disch := omega) [hx0, Qn]
  refine Qa (KD _ ⟨by omega, by omega⟩) (by simp) ?_
  simp (disch := omega) [i0, i1, j1, Qn]
  refine Qa (ZeZ t hgn hgg) (by simp) ?_
  simp (disch := omega) [i0, i1, j1, Qn]
  refine Qa (uo1 _ (GSys.Gtm t _ _)) (by simp) ?_
  cases hu : WY s (usP 12 ds 1) (s.tm n (Qz (hd (tyP ds 0))).2)
  ·simp (disch := omega)
   exact QO (.inr rfl) (by simp) ⟨by simp [Wv, hu], _, _, _, _, rfl, fun h => by simp [Wv, hu] at h⟩
  ·simp (disch := omega) [i0, i1, j1, Qn]
   refine Wm (kid _ _ _ _ _ _ 1 (by omega)) ?_
   rintro r h' ⟨rfl, rfl⟩
   simp (disch := omega) [i0, i1, j1, Qn]
   refine Qa (Vp t (n) (hgn) false _ (by omega) b0) (by simp) ?_
   simp (disch := omega) [i0, i1, j1, Qn]
   have sc := X8 t (g := n) a0
   refine Qa (sumc false false _ _ sc.1 a1 sc.2 b1) (by simp) ?_
   simp (disch := omega) [i0, i1, j1, Qn]
   have hl1 : ltB 40 (tyP ds 1).length = false := by rw [Qd]; omega
   refine Qa (lg (tyP ds 1)) (by simp) ?_
   simp (disch := omega) [hl1]
   refine QO (.inr rfl) (by simp) ⟨by simp [Wv, hu], _, _, _, _, rfl, fun _ => ?_⟩
   simp [Wv, hu]
end Go.Proofs.YtclfngbealdbgaaGreat
namespace Go.Proofs.YtclfngbealdbgaaGreat
open Go Go.TL
open Go.Proofs.YtclfngbealdbgaaGreat.Ty
set_option linter.unusedSimpArgs false
set_option linter.unusedVariables false
set_option maxRecDepth 20000
set_option maxHeartbeats 4000000
def flOk (nl : Bool) (l : List Int) : Prop := nl = true → l = []
mutual
def GTerm.fl : GTerm → Prop
 | .mk _ _ nl1 ty _ ks => flOk nl1 ty ∧ fls ks
def fls : List GTerm → Prop
 | [] => True
 | k :: ks => k.fl ∧ fls ks
end
theorem Zbb : ∀ {ks : List GTerm}, fls ks ↔ ∀ k ∈ ks, k.fl
 | [] => by simp [fls]
 | k :: ks => by simp [fls, Zbb (ks := ks)]
def FzR (R : LV → Prop) (r : LV) (h' : List Box) : Prop := ∃ t h1 m, Fz t r h' h1 ∧ (0 : Nat) ≤ m ∧ m ≤ h1.length ∧ Low m t ∧ (∀ l xs, l < m → h1[l]? = some (some xs) → QD m xs) ∧ R t ∧ Low 0 t
theorem Qe.freeze {P : Program} {f : FuncId} {args : List LV} {R : LV → Prop} (c : QK P f args [] (FzR R)) : Qe P f args R := by
 refine QK.freeze (c.mono fun r h' hr => ?_)
 obtain ⟨t, h1, m, a, b, c, d, e, f, g⟩ := hr
 exact ⟨t, h1, m, a, b, c, d, e, f, g⟩
theorem fz_bad {R : LV → Prop} {h' : List Box} {l : Nat} {xs : List LV} (hl : h'[l]? = some (some xs)) (hs : Ji xs xs (h'.set l none) (h'.set l none)) (lo : QD 0 xs) (hR : R (.rp xs)) : FzR R (.ptr l 0) h' :=
 ⟨.rp xs, h'.set l none, 0, by simp only [Fz]; exact .inr ⟨l, xs, rfl, hl, hs⟩, Nat.le_refl _, Nat.zero_le _, by simpa using lo, fun l xs h => by omega, hR, by simpa using lo⟩
theorem ZhK {u nl : Bool} {sz : Nat} {Qj : List (List LV)} (h : List Box) : Fz (.sl u nl sz Qj) (.sl u nl sz Qj) h h := by simp only [Fz]; exact .inl ⟨trivial, trivial⟩
theorem Kb : ∀ {xs : List LV} {h : List Box}, (∀ x ∈ xs, ∀ h, Fz x x h h) → Ji xs xs h h
 | [], h, _ => by simp [Ji]
 | x :: xs, h, hx => by
  simp only [Ji]
  exact ⟨x, xs, h, rfl, hx x (by simp) h, Kb fun y hy => hx y (by simp [hy])⟩
theorem VT {R : LV → Prop} {h' : List Box} {l : Nat} {f : Int} {u nl : Bool} {p : List Int} (hl : h'[l]? = some (some [.sl true true 1 [], .sl true true 1 [], .sl true true 1 [], N f, OU u nl p]))
  (hR : R (.rp [.sl true true 1 [], .sl true true 1 [], .sl true true 1 [], N f, OU u nl p])) : FzR R (.ptr l 0) h' :=
 fz_bad hl (Kb fun x hx => by
  simp only [List.mem_cons, List.not_mem_nil, or_false] at hx
  rcases hx with rfl | rfl | rfl | rfl | rfl
  all_goals first | exact ZhK | (intro h; simp [Fz])) (by simp) hR
theorem Zh2 : ∀ (l : List Int) (h : List Box), Zbt (l.map fun n => [N n]) 1 (l.map N) h h
 | [], h => by simp [Zbt]
 | a :: l, h => by
  simp only [List.map_cons, Zbt]
  exact ⟨[N a], l.map N, h, rfl, rfl, Kb (fun x hx => by simp only [List.mem_singleton] at hx; subst hx; intro h; simp [Fz]), Zh2 l h⟩
theorem fz_ok {R : LV → Prop} {c2 : Box} {u : Bool} {T nd : List Int} {ndv : LV} {m : Nat} {u3 n3 : Bool} {Qj : List (List LV)} {hr : List Box} (lo : ∀ k, Wo k Qj)
  (hn : (∃ u, ndv = OU u false nd) ∨ (ndv = .ha 2 1 0 m m ∧ c2 = some (nd.map N) ∧ nd.length = m)) (hR : ∀ u2, R (.rp [OU u false T, OU u2 false nd, .sl u3 n3 1 Qj, N 0, .sl true true 1 []])) :
  FzR R (.ptr 3 0) (none :: none :: c2 :: some [OU u false T, ndv, .sl u3 n3 1 Qj, N 0, .sl true true 1 []] :: hr) := by
 rcases hn with ⟨u2, rfl⟩ | ⟨rfl, rfl, rfl⟩
 ·refine fz_bad (by rfl) (Kb fun x hx => ?_) (by simp [lo]) (hR u2)
  simp only [List.mem_cons, List.not_mem_nil, or_false] at hx
  rcases hx with rfl | rfl | rfl | rfl | rfl
  all_goals first | exact ZhK | (intro h; simp [Fz])
 ·refine ⟨.rp [OU u false T, OU true false nd, .sl u3 n3 1 Qj, N 0, .sl true true 1 []], none :: none :: none :: none :: hr, 0, ?_, Nat.le_refl _, Nat.zero_le _, by simp [lo], fun l xs h => by omega, hR true, by simp [lo]⟩
  simp only [Fz]
  refine .inr ⟨3, _, rfl, rfl, ?_⟩
  simp only [Ji]
  refine ⟨_, _, _, rfl, ZhK _, _, _, _, rfl, ?_, _, _, _, rfl, ZhK _, _, _, _, rfl, ⟨rfl, rfl⟩, _, _, _, rfl, ZhK _, rfl, rfl⟩
  simp only [Fz]
  refine .inr ⟨trivial, trivial, 2, nd.length, nd.map N, [], by simp, by simp, by simp, by simp, ?_⟩
  exact Zh2 nd _
theorem Zw (ys : List LV) : (LV.rp ys).flat = true := rfl
theorem Yv (ys : List LV) : (LV.rp ys).cells = [.rp ys] := rfl
theorem app_new {Qj : List (List LV)} {row : List LV} (h : Qj.length < 1099511627776) : Wt 1 (.sl (!Qj.isEmpty) Qj.isEmpty 1 Qj) (.sl true false 1 [row]) = some (.sl (!(Qj ++ [row]).isEmpty) (Qj ++ [row]).isEmpty 1 (Qj ++ [row])) := by
 simp only [Wt]
 rw [if_pos ⟨by cases Qj <;> simp, .inl trivial, .inl trivial, by simp [WQ]; omega⟩]
 cases Qj <;> simp
theorem Zer {nv size : Int} {closed : Bool} {op : Int} : ∀ {ks : List GTerm} {k : Nat}, Xq nv size closed op k ks = true → ∀ (i : Nat) (h : i < ks.length), W1 (nv + Qq op ((k + i : Nat) : Int)) size closed ks[i] = true
 | [], _, _, i, h => by simp at h
 | t :: ts, k, hf, i, h => by
  simp only [Xq, Bool.and_eq_true] at hf
  cases i with
  | zero => simpa using hf.1
  | succ i =>
   have := Zer hf.2 i (by simpa using h)
   rw [show k + 1 + i = k + (i + 1) by omega] at this
   simpa using this
mutual
theorem Vj {s : GSys} : ∀ (g : GTerm) (ctx : List (List Int)) (f : Int) (p : List Int), Qo s ctx g = .bad f p → p.length ≤ g.size
 | .mk op n _ ty _ ks, ctx, f0, p0, h => by
  rw [Qo] at h
  split at h
  ·rename_i f' p' hd
   simp only [Res.bad.injEq] at h
   obtain ⟨rfl, rfl⟩ := h
   have := ZhB ks ctx op n ty [] _ _ hd
   simpa [GTerm.size] using this
  ·split at h
   ·simp at h
   ·simp only [Res.bad.injEq] at h
    obtain ⟨_, rfl⟩ := h
    simp
theorem ZhB {s : GSys} : ∀ (ks : List GTerm) (ctx : List (List Int)) (op n : Int) (ty : List Int) (ds : List TT) (f : Int) (p : List Int), Wd s ctx op n ty ds ks = .bad f p → p.length ≤ Wl ks + 1
 | [], ctx, op, n, ty, ds, f, p, h => by simp [Wd] at h
 | k :: ks, ctx, op, n, ty, ds, f, p, h => by
  rw [Wd] at h
  split at h
  ·rename_i f' p' hd
   simp only [KRes.bad.injEq] at h
   obtain ⟨rfl, rfl⟩ := h
   have := Vj k _ _ p' hd
   simp [Wl]; omega
  ·split at h
   ·simp only [KRes.bad.injEq] at h
    obtain ⟨_, rfl⟩ := h
    simp
   ·split at h
    ·simp only [KRes.bad.injEq] at h
     obtain ⟨_, rfl⟩ := h
     simp
    ·have := ZhB ks ctx op n ty _ f p h
     simp [Wl]; omega
end
theorem Znx {c : Wf} (h : c.length < 1099511627776) (f : Bool) (l : List Int) : Wt 1 (V1 c) (.sl true false 1 [[L f l]]) = some (V1 (c ++ [(f, l)])) := by
 have := app_new (Qj := c.map fun x => [eC x]) (row := [L f l]) (by rw [List.length_map]; exact h)
 have e1 : (c.map fun x => [eC x]).isEmpty = c.isEmpty := by cases c <;> rfl
 have e2 : (c.map (fun x => [eC x]) ++ [[L f l]]) = (c ++ [(f, l)]).map fun x => [eC x] := by simp
 have e3 : ((c ++ [(f, l)]).map fun x => [eC x]).isEmpty = (c ++ [(f, l)]).isEmpty := by cases c <;> rfl
 rw [e2, e1, e3] at this
 exact this
theorem Zft (l : List Int) : Qr (l.map fun n => [N n]) = l.map fun n => [N n] := by simp
theorem ZV {c : Wf} {g g' : Nat → List Int} {v : Bool × List Int} (hc : ∀ (j : Nat) (h : j < c.length), (c[j]).2 = g j) (h1 : ∀ j, j < c.length → g' j = g j) (h2 : v.2 = g' c.length) : ∀ (j : Nat) (h : j < (c ++ [v]).length), ((c ++ [v])[j]).2 = g' j := by
 intro j h
 rw [List.length_append] at h
 rcases Nat.lt_or_ge j c.length with q | q
 ·rw [List.getElem_append_left q, hc j q, h1 j q]
 ·have : j = c.length := by simp at h; omega
  subst this
  rw [List.getElem_append_right (Nat.le_refl _)]
  simpa using h2
theorem ZcR {c : Wf} {l : List Int} (h : ∀ x ∈ c, x.1 = false) : ∀ x ∈ c ++ [(false, l)], x.1 = false := by
 intro x hx
 rcases List.mem_append.1 hx with hx | hx
 ·exact h x hx
 ·simp at hx; subst hx; rfl
theorem YU {ds : List TT} {x : TT} {j : Nat} (h : j < ds.length) : (ds ++ [x]).getD j (.mk [] [] []) = ds.getD j (.mk [] [] []) := by
 simp [List.getD_eq_getElem?_getD, List.getElem?_append_left h]
theorem X9 {ds : List TT} {x : TT} {j : Nat} (h : j = ds.length) : (ds ++ [x]).getD j (.mk [] [] []) = x := by
 subst h; simp [List.getD_eq_getElem?_getD]
theorem ZaE {c : Wf} (h : c.length < 1099511627776) (f : Bool) (l : List Int) (k : Nat) : Wt 1 (V1 c) (.sl true false 1 [[.sl false f 1 (List.take k (l.map fun n => [N n]))]]) = some (V1 (c ++ [(f, l.take k)])) := by
 rw [← List.map_take]; exact Znx h f (l.take k)
theorem Zax {c : Wf} (h : c.length < 1099511627776) (f : Bool) (l : List Int) (k : Nat) : Wt 1 (V1 c) (.sl true false 1 [[.sl false f 1 (List.drop k (l.map fun n => [N n]))]]) = some (V1 (c ++ [(f, l.drop k)])) := by
 rw [← List.map_drop]; exact Znx h f (l.drop k)
theorem ZaC {n2 : Bool} {l : List Int} {k : Nat} (h : k ≤ l.length) : ZE 1 (L n2 l) none (some (k : Int)) none = some (L n2 (l.take k)) := by
 simp only [ZE, Option.getD_none, Option.getD_some, List.length_map]
 rw [if_pos ⟨trivial, by omega, by omega, by omega, by omega⟩, show ((k : Int)).toNat = k by omega, ← List.map_take]
 simp only [Option.isSome_none, Bool.false_and, List.drop_zero, Int.toNat_zero, Zft]
theorem YT {n2 : Bool} {l : List Int} {k : Nat} (h : k ≤ l.length) : ZE 1 (L n2 l) (some (k : Int)) none none = some (L n2 (l.drop k)) := by
 simp only [ZE, Option.getD_none, Option.getD_some, List.length_map]
 rw [if_pos ⟨trivial, by omega, by omega, by omega, by omega⟩, show ((k : Int)).toNat = k by omega, show ((l.length : Int)).toNat = l.length by omega, ← List.map_take, ← List.map_drop, List.take_length]
 simp only [Option.isSome_none, Bool.false_and, Zft]
mutual
theorem YZ {s : GSys} : ∀ (g : GTerm) (ctx : List (List Int)) (f : Int) (p : List Int), Qo s ctx g = .bad f p → f ≠ 0
 | .mk op n _ ty _ ks, ctx, f0, p0, h => by
  rw [Qo] at h
  split at h
  ·rename_i f' p' hd
   simp only [Res.bad.injEq] at h
   obtain ⟨rfl, rfl⟩ := h
   exact Zk7 ks ctx op n ty [] _ _ hd
  ·split at h
   ·simp at h
   ·rename_i hne
    simp only [Res.bad.injEq] at h
    obtain ⟨rfl, rfl⟩ := h
    exact hne
theorem Zk7 {s : GSys} : ∀ (ks : List GTerm) (ctx : List (List Int)) (op n : Int) (ty : List Int) (ds : List TT) (f : Int) (p : List Int), Wd s ctx op n ty ds ks = .bad f p → f ≠ 0
 | [], ctx, op, n, ty, ds, f, p, h => by simp [Wd] at h
 | k :: ks, ctx, op, n, ty, ds, f, p, h => by
  rw [Wd] at h
  split at h
  ·rename_i f' p' hd
   simp only [KRes.bad.injEq] at h
   obtain ⟨rfl, rfl⟩ := h
   exact YZ k _ _ p' hd
  ·split at h
   ·rename_i hne
    simp only [KRes.bad.injEq] at h
    obtain ⟨rfl, rfl⟩ := h
    exact hne
   ·split at h
    ·simp only [KRes.bad.injEq] at h
     obtain ⟨rfl, rfl⟩ := h
     omega
    ·exact Zk7 ks ctx op n ty _ f p h
end
mutual
theorem TT.ex : ∀ x : TT, ∃ r, x.is r ∧ ∃ ys, r = .rp ys
 | .mk ty nd ks => by
  obtain ⟨Qj, h⟩ := TT.exs ks
  exact ⟨_, by simp only [TT.is]; exact ⟨false, false, Qj, rfl, h⟩, _, rfl⟩
theorem TT.exs : ∀ xs : List TT, ∃ Qj, TT.are xs Qj
 | [] => ⟨[], by simp [TT.are]⟩
 | x :: xs => by
  obtain ⟨r, h, _⟩ := TT.ex x
  obtain ⟨Qj, h2⟩ := TT.exs xs
  exact ⟨_, by simp only [TT.are]; exact ⟨r, Qj, rfl, h, h2⟩⟩
end
theorem res_ex (x : Res) (hb : ∀ f p, x = .bad f p → f ≠ 0) : ∃ ys, x.is (share (.rp ys)) ∧ QD 0 ys := by
 cases x with
 | ok x =>
  obtain ⟨r, h, ys, rfl⟩ := TT.ex x
  obtain ⟨h1, h2⟩ := JE x _ h
  exact ⟨ys, by rw [h1]; exact h, by simpa using h2 0⟩
 | bad f p => exact ⟨[.sl false true 1 [], .sl false true 1 [], .sl false true 1 [], N f, L false p], ⟨hb f p rfl, false, by simp⟩, by simp⟩
theorem fz_ex (R : LV → Prop) (h : ∃ ys, R (.rp ys) ∧ QD 0 ys) : ∃ r h', FzR R r h' := by
 obtain ⟨ys, h1, h2⟩ := h
 exact ⟨.rp ys, [], .rp ys, [], 0, by simp only [Fz]; exact .inl ⟨trivial, trivial⟩, Nat.le_refl _, Nat.zero_le _, by simpa using h2, fun l xs h => by omega, h1, by simpa using h2⟩
structure TypJ (s : GSys) (cx : List (List Int)) (op n : Int) (gty : List Int) (ks : List GTerm) (i : Nat) (t : Nat → LV) (h : List Box) (ds : List TT) (Qj : List (List LV)) (nds uds : Wf) (hr : List Box) : Prop where
 are : TT.are ds Qj
 len : ds.length = i
 kok : KidsOk s cx.length op n ds
 tell : Wd s cx op n gty [] ks = Wd s cx op n gty ds (ks.drop i)
 ulen : uds.length = i
 nlen : nds.length = i
 us : ∀ (j : Nat) (h : j < uds.length), (uds[j]).2 = usP op ds j
 nd : ∀ (j : Nat) (h : j < nds.length), (nds[j]).2 = ndP op ds j
 nf : ∀ c ∈ nds, c.1 = false
 e24 : t 24 = N i
 e8 : t 8 = V1 nds
 e9 : t 9 = V1 uds
 heap : h = none :: none :: some ((WB cx.length).map N) :: ZfA (.sl true true 1 []) (.ha 2 1 0 cx.length cx.length) true ds.isEmpty Qj :: hr
theorem typ_ok {s : GSys} (hsy : s.sys = true) (d : Nat) : ∀ (g : GTerm) (nlc : Bool) (ctx : Wf), g.size ≤ d → g.wf → g.fl → (∀ c ∈ ctx, okL s.size c.2 = true) → (∀ c ∈ ctx, c.1 = false) → ctx.length + 2 * g.size ≤ 100000 → W1 ctx.length s.size true g = true →
  Qe Tryz.prog YM [s.lv, LC nlc ctx, g.lv] (fun r => (Qo s (ctx.map Prod.snd) g).is (share r)) := by
 induction d with
 | zero => intro g _ _ h; have := g.size_pos; omega
 | succ d ih =>
  rintro ⟨op, n, nl1, gty, nl2, ks⟩ nlc ctx hsz hw hfl hc hcf hlen hform
  have t := GSys.sys_of hsy
  have h16 := t.hi
  simp only [W1, Bool.and_eq_true] at hform
  obtain ⟨hnode, hforms⟩ := hform
  have no := ZcV hnode
  simp only [GTerm.wf] at hw
  obtain ⟨wop, wn, wty, wk, wks⟩ := hw
  simp only [GTerm.fl] at hfl
  obtain ⟨fl1, flk⟩ := hfl
  simp only [GTerm.size] at hsz hlen
  have hm : (ctx.length : Int) ≤ (WQ : Nat) := by unfold WQ; omega
  have many := no.many
  have hk3 : ks.length ≤ 3 := by
   unfold Yh at many
   repeat' split at many
   all_goals omega
  have cxl : (ctx.map Prod.snd).length = ctx.length := by simp
  refine Qe.freeze (QK.of_codeOf ZdK Qy (by simp) ?_ ?_)
  ·exact fz_ex (fun r => (Qo s (ctx.map Prod.snd) (GTerm.mk op n nl1 gty nl2 ks)).is (share r)) (res_ex _ fun f p h => YZ _ _ f p h)
  have hfl0 : ∀ a b c d e, (LV.ha a b c d e).flat = true ∧ (LV.ha a b c d e).cells.length = 1 := fun _ _ _ _ _ => ⟨rfl, rfl⟩
  have hce0 : ∀ a b c d e, (LV.ha a b c d e).cells = [.ha a b c d e] := fun _ _ _ _ _ => rfl
  simp (disch := omega) [Vo, Qw, Qu, GTerm.cells, hm, hfl0, hce0]
  refine Xn ks.length 0 (fun i t h => ∃ ds Qj nds uds hr, TypJ s (ctx.map Prod.snd) op n gty ks i t h ds Qj nds uds hr) (fun t h => ∃ ds Qj nds uds hr, TypJ s (ctx.map Prod.snd) op n gty ks ks.length t h ds Qj nds uds hr) ?_ (by omega) ?_ ?_
  ·refine ⟨[], [], [], [], [], by simp [TT.are], rfl, ⟨fun i x h => by simp at h, fun _ x h => by simp at h⟩, by simp, rfl, rfl, fun j h => by simp at h, fun j h => by simp at h, by simp, by simp, by simp, by simp, ?_⟩
   simp [WB]
  ·rintro i t1 hh hf hi ⟨ds, Qj, nds, uds, hr, J⟩
   (have e1 := hf 1 (by kernel_rfl); have e3 := hf 3 (by kernel_rfl); have e5 := hf 5 (by kernel_rfl); have e7 := hf 7 (by kernel_rfl); have e22 := hf 22 (by kernel_rfl); have e23 := hf 23 (by kernel_rfl); clear hf; simp [] at e1 e3 e5 e7 e22 e23)
   obtain ⟨are, len, kok, tell, ulen, nlen, us, nd, nf, e24, e8, e9, rfl⟩ := J
   have gl : GTerm.cells (GTerm.mk op n nl1 gty nl2 ks) = [N op, N n, L nl1 gty, .sl false nl2 4 (QV ks)] := by simp [GTerm.cells]
   simp (disch := omega) [e1, e3, e5, e7, e22, e23, e24]
   by_cases h6 : i < ks.length
   rotate_left
   ·have hb : ltB (i : Int) ks.length = false := by rw [Qd]; omega
    have hik : i = ks.length := by omega
    simp (disch := omega) [hb]
    exact ⟨ds, Qj, nds, uds, hr, are, by omega, kok, by rw [tell, hik], by omega, by omega, us, nd, nf, by simp [e24, hik], by simp [e8], by simp [e9], by simp⟩
   have hb : ltB (i : Int) ks.length = true := by rw [Qf]; omega
   have hdrop := List.drop_eq_getElem_cons h6
   have hkw : (ks[i]).wf := (Z5.1 wks) _ (List.getElem_mem h6)
   have hkf : (ks[i]).fl := (Zbb.1 flk) _ (List.getElem_mem h6)
   have hks := WP h6
   have hkform : W1 ((ctx.length : Int) + Qq op i) s.size true ks[i] = true := by have := Zer hforms i h6; simpa using this
   have hix := ZG ks false nl2 i h6
   rw [hdrop] at tell
   generalize ks[i] = k at *
   have hadd := Xy op i
   have hcs : ∀ l ∈ ctx.map Prod.snd, okL s.size l = true := fun l hl => by
    obtain ⟨c, h1, rfl⟩ := List.mem_map.1 hl
    exact hc c h1
   have hty : op = 9 → okL s.size gty = true := fun h => no.typed (by subst h; simp [WD, Qc])
   have hfirst : i ≠ 0 → okL s.size (first ds) = true ∧ ZdM op (hd (first ds)) := fun h => by
    have := kok.first (by rintro rfl; simp at len; omega)
    exact ⟨this.1, this.2.1⟩
   have hm1 : ∀ f, Z6 op nl1 gty i f = [] ∨ True := fun _ => .inr trivial
   have rl := Zg4 ds Qj are
   have hmore : ∃ more : Wf, more = Z6 op nl1 gty i (first ds) := ⟨_, rfl⟩
   obtain ⟨more, hmd⟩ := hmore
   have hms : more.map Prod.snd = Qt op gty i (first ds) := by rw [hmd]; exact Zoe op nl1 gty i (first ds)
   have hml : more.length = (Qq op i).toNat := by
    have := congrArg List.length hms
    rw [List.length_map, Ka] at this; exact this
   have hmok : ∀ c ∈ more ++ ctx, okL s.size c.2 = true := by
    intro c hcm
    rcases List.mem_append.1 hcm with hcm | hcm
    ·exact Zhz (i := i) (f := first ds) hty hfirst c.2 (by rw [← hms]; exact List.mem_map_of_mem hcm)
    ·exact hc c hcm
   have hmf : ∀ c ∈ more ++ ctx, c.1 = false := by
    intro c hcm
    rcases List.mem_append.1 hcm with hcm | hcm
    ·rw [hmd] at hcm
     unfold Z6 at hcm
     split at hcm
     ·rename_i h9
      simp at hcm; subst hcm
      have := QM (hty h9)
      cases hn : nl1 with
      | false => rfl
      | true => have := fl1 hn; subst this; simp at *
     ·simp at hcm; obtain ⟨a, _, rfl⟩ := hcm; rfl
    ·exact hcf c hcm
   have cc := Zo4 [(more.isEmpty, more), (nlc, ctx)] (by simp) (by simp [lnC]; omega)
   have ce : flC [(more.isEmpty, more), (nlc, ctx)] = more ++ ctx := by simp [flC]
   rw [ce] at cc
   have recu := ih k (!ltB 0 ((more ++ ctx).length : Int)) (more ++ ctx) (by omega) hkw hkf hmok hmf (by rw [List.length_append]; omega) (by rw [List.length_append, show ((more.length + ctx.length : Nat) : Int) = ctx.length + Qq op i by omega]; exact hkform)
   rw [List.map_append, hms] at recu
   clear hmok hmf ce
   generalize more ++ ctx = mc at cc recu
   have hg0 : ∀ r : Int × List Int, Wd s (ctx.map Prod.snd) op n gty ds (k :: List.drop (i + 1) ks) = .bad r.1 r.2 → Qo s (ctx.map Prod.snd) (GTerm.mk op n nl1 gty nl2 ks) = .bad r.1 r.2 := fun r h => by rw [Qo, tell, h]
   have hgoodI : ∀ x, Qo s (Qt op gty i (first ds) ++ ctx.map Prod.snd) k = .ok x → x.good s ((ctx.map Prod.snd).length + (Qq op i).toNat) := fun x hx => by
    have := ZaY t k (Qt op gty i (first ds) ++ ctx.map Prod.snd) x (by rw [← len]; exact ext_ok hcs (fun h => hty h) kok)
     (by rw [List.length_append, Ka, cxl, show (((Qq op i).toNat + ctx.length : Nat) : Int) = ctx.length + Qq op i by omega]; exact hkform) hx
    rw [List.length_append, Ka, Nat.add_comm] at this
    exact this
   have hbadI : ∀ f p, Qo s (Qt op gty i (first ds) ++ ctx.map Prod.snd) k = .bad f p → Qo s (ctx.map Prod.snd) (GTerm.mk op n nl1 gty nl2 ks) = .bad f ((i : Int) :: p) := fun f p h =>
    hg0 (f, (i : Int) :: p) (by rw [Wd, len, h])
   have hfbI : ∀ x, Qo s (Qt op gty i (first ds) ++ ctx.map Prod.snd) k = .ok x → QP s op n i (hd x.ty) ≠ 0 → Qo s (ctx.map Prod.snd) (GTerm.mk op n nl1 gty nl2 ks) = .bad (QP s op n i (hd x.ty)) [] := fun x h h2 =>
    hg0 (QP s op n i (hd x.ty), []) (by rw [Wd, len, h]; simp only; rw [if_pos h2])
   have hsameI : ∀ x, Qo s (Qt op gty i (first ds) ++ ctx.map Prod.snd) k = .ok x → QP s op n i (hd x.ty) = 0 → (op = 10 ∧ i = 1 ∧ x.ty ≠ QQ (first ds)) → Qo s (ctx.map Prod.snd) (GTerm.mk op n nl1 gty nl2 ks) = .bad 3 [] := fun x h h2 h3 =>
    hg0 (3, []) (by rw [Wd, len, h]; simp only; rw [if_neg (by simpa using h2), if_pos h3])
   have hnextI : ∀ x, Qo s (Qt op gty i (first ds) ++ ctx.map Prod.snd) k = .ok x → QP s op n i (hd x.ty) = 0 → ¬ (op = 10 ∧ i = 1 ∧ x.ty ≠ QQ (first ds)) → Wd s (ctx.map Prod.snd) op n gty [] ks = Wd s (ctx.map Prod.snd) op n gty (ds ++ [x]) (List.drop (i + 1) ks) := fun x h h2 h3 => by
    rw [tell, Wd, len, h]; simp only; rw [if_neg (by simpa using h2), if_neg h3]
   have hthree : (i = 0 ∧ op ≠ 9) ∨ (i = 0 ∧ op = 9) ∨ 0 < i := by omega
   rcases hthree with ⟨hi0, h9⟩ | ⟨hi0, h9⟩ | hi0
   ·subst hi0
    simp only [Int.natCast_zero] at hb hix e24
    have h9b : eqB op 9 = false := by rw [Qb]; exact h9
    have hz : ltB 0 0 = false := by rw [Qd]; omega
    have hme : more = [] := List.eq_nil_of_length_eq_zero (by rw [hml]; unfold Qq; rw [if_neg (by omega), if_neg (by omega)]; rfl)
    have em : LV.sl false true 1 [] = LV.sl false more.isEmpty 1 (more.map fun c => [eC c]) := by rw [hme]; rfl
    simp (disch := omega) [e1, e3, e5, e7, e8, e9, e22, e23, e24, hb, hix, h9b, hz, Qn]
    rw [em]
    refine Qa cc (by simp) ?_
    simp (disch := omega) [e1, e3, e5, e7, e8, e9, e22, e23, e24, hb, hix]
    refine Qm recu (by simp) ?_
    intro r hr1
    cases hT : Qo s (Qt op gty 0 (first ds) ++ List.map Prod.snd ctx) k with
    | bad f p =>
     rw [hT] at hr1
     obtain ⟨hf0, n4, hsr2⟩ := hr1
     have hfb : eqB f 0 = false := by rw [Qb]; exact hf0
     have hpl := Vj k _ f p hT
     have hpm : 1 + p.length ≤ WQ := by unfold WQ; omega
     have hres := hbadI f p hT
     simp (disch := omega) [e1, e3, e5, e7, e8, e9, e22, e23, e24, hb, hix, hsr2, hfb, Qn, Wt, hpm, Qw]
     refine QO (.inr rfl) (by simp) (VT (f := f) (u := true) (nl := false) (p := (0 : Int) :: p) (by simp) ?_)
     rw [hres]
     exact ⟨hf0, false, by simp⟩
    | ok x =>
     have hgood := hgoodI x hT
     have hfb := hfbI x hT
     have hsame := hsameI x hT
     have hnext := hnextI x hT
     rw [hT] at hr1
     obtain ⟨xty, xnd, xks⟩ := x
     have hxis : (TT.mk xty xnd xks).is (share r) := hr1
     simp only [Res.is, TT.is] at hr1
     obtain ⟨n3, n4, xrows, hsr2, hxr⟩ := hr1
     simp only [TT.ty_mk] at hfb hsame hnext
     have hgt : okL s.size xty = true := hgood.1
     have fo := ZbK t (GTerm.mk op n nl1 gty nl2 ks) op n nl1 gty nl2 ks rfl 0 (by omega) xty hgt no.op13 (fun h => no.grade (by rcases h with h | h | h <;> (subst h; simp [Jo, Qc])))
     simp only [GTerm.lv, GTerm.cells] at fo
     simp (disch := omega) [e1, e3, e5, e7, e8, e9, e22, e23, e24, hb, hix, hsr2, Qn]
     refine Qa fo (by simp) ?_
     simp (disch := omega) [e1, e3, e5, e7, e8, e9, e22, e23, e24, hb, hix, hsr2, Qn]
     by_cases hq : QP s op n 0 (hd xty) = 0
     ·rw [hq]
      have hz0 : eqB 0 0 = true := by rw [Qc]
      simp (disch := omega) [e1, e3, e5, e7, e8, e9, e22, e23, e24, hb, hix, hsr2, Qn, hz0]
      by_cases h10 : op = 10
      ·by_cases h19 : op = 9
       ·exfalso; omega
       ·have h10b : eqB op 10 = true := by rw [Qc]; exact h10
        by_cases hi1 : 0 = 1
        ·exfalso; omega
        ·have hi1b : eqB 0 1 = false := by rw [Qb]; omega
         have hxl : xnd.length = ctx.length + more.length := by have := hgood.2.1; rw [cxl] at this; rw [hml]; exact this
         have hak : ∀ v, Wt 1 (.sl true ds.isEmpty 1 Qj) (.sl true false 1 [[v]]) = some (.sl true false 1 (Qj ++ [[v]])) := fun v => by
          simp only [Wt]
          rw [if_pos ⟨.inl trivial, .inl trivial, .inl trivial, by simp [WQ]; omega⟩]
          simp
         have hau := ZaE (c := uds) (by omega) false xnd more.length
         have han := Zax (c := nds) (by omega) false xnd more.length
         have hc1 := ZaC (n2 := false) (l := xnd) (k := more.length) (by omega)
         have hc2 := YT (n2 := false) (l := xnd) (k := more.length) (by omega)
         have hxs := (Xg _ xrows hxr).1
         have hnot : ¬ (op = 10 ∧ 0 = 1 ∧ xty ≠ QQ (first ds)) := fun h => hi1 h.2.1
         have fin : ∀ (T : Nat → LV) (H : List Box), T 24 = N (0 + 1) → T 8 = V1 (nds ++ [(false, xnd.drop more.length)]) → T 9 = V1 (uds ++ [(false, xnd.take more.length)]) → H = none :: none :: some ((WB (ctx.map Prod.snd).length).map N) :: ZfA (.sl true true 1 []) (.ha 2 1 0 (ctx.map Prod.snd).length (ctx.map Prod.snd).length) true (ds ++ [TT.mk xty xnd xks]).isEmpty (Qj ++ [[share r]]) :: (hr ++ [some k.cells]) → 0 < ks.length ∧ ∃ ds Qj nds uds hr, TypJ s (ctx.map Prod.snd) op n gty ks (0 + 1) T H ds Qj nds uds hr := fun T H q1 q2 q3 q4 =>
          ⟨h6, ds ++ [TT.mk xty xnd xks], Qj ++ [[share r]], nds ++ [(false, xnd.drop more.length)], uds ++ [(false, xnd.take more.length)], hr ++ [some k.cells], Vv ds Qj _ _ are hxis, by simp [len],
           kok.snoc (by rw [len]; exact hgood) (by rw [len]; exact hq) (by rw [len]; exact hnot), hnext hq hnot, by simp [ulen], by simp [nlen],
           ZV us (fun j hj => by unfold usP; rw [YU (by omega)]) (by unfold usP; rw [X9 (by omega), hml, ulen]; rfl),
           ZV nd (fun j hj => by unfold ndP; rw [YU (by omega)]) (by unfold ndP; rw [X9 (by omega), hml, nlen]; rfl), (ZcR nf),
           by simpa using q1, q2, q3, q4⟩
         simp (disch := omega) [e1, e3, e5, e7, e8, e9, e22, e23, e24, hb, hix, hsr2, Qn, h10b, hi1b, Zw, Yv, hak, hau, han, hc1, hc2, hxs, Qh]
         first
          | exact fin _ _ (by simp) (by simp) (by simp) (by simp [hsr2])
          | (trace_state; simp (disch := omega) [e1, e3, e5, e7, e8, e9, e22, e23, e24, hb, hix, hsr2, Qn, h10b, hi1b, Zw, Yv, hak, hau, han, hc1, hc2, hxs, Qh]; exact fin _ _ (by simp) (by simp) (by simp) (by simp [hsr2]))
      ·have h10b : eqB op 10 = false := by rw [Qb]; exact h10
       have hxl : xnd.length = ctx.length + more.length := by have := hgood.2.1; rw [cxl] at this; rw [hml]; exact this
       have hak : ∀ v, Wt 1 (.sl true ds.isEmpty 1 Qj) (.sl true false 1 [[v]]) = some (.sl true false 1 (Qj ++ [[v]])) := fun v => by
        simp only [Wt]
        rw [if_pos ⟨.inl trivial, .inl trivial, .inl trivial, by simp [WQ]; omega⟩]
        simp
       have hau := ZaE (c := uds) (by omega) false xnd more.length
       have han := Zax (c := nds) (by omega) false xnd more.length
       have hc1 := ZaC (n2 := false) (l := xnd) (k := more.length) (by omega)
       have hc2 := YT (n2 := false) (l := xnd) (k := more.length) (by omega)
       have hxs := (Xg _ xrows hxr).1
       have hnot : ¬ (op = 10 ∧ 0 = 1 ∧ xty ≠ QQ (first ds)) := fun h => h10 h.1
       have fin : ∀ (T : Nat → LV) (H : List Box), T 24 = N (0 + 1) → T 8 = V1 (nds ++ [(false, xnd.drop more.length)]) → T 9 = V1 (uds ++ [(false, xnd.take more.length)]) → H = none :: none :: some ((WB (ctx.map Prod.snd).length).map N) :: ZfA (.sl true true 1 []) (.ha 2 1 0 (ctx.map Prod.snd).length (ctx.map Prod.snd).length) true (ds ++ [TT.mk xty xnd xks]).isEmpty (Qj ++ [[share r]]) :: (hr ++ [some k.cells]) → 0 < ks.length ∧ ∃ ds Qj nds uds hr, TypJ s (ctx.map Prod.snd) op n gty ks (0 + 1) T H ds Qj nds uds hr := fun T H q1 q2 q3 q4 =>
        ⟨h6, ds ++ [TT.mk xty xnd xks], Qj ++ [[share r]], nds ++ [(false, xnd.drop more.length)], uds ++ [(false, xnd.take more.length)], hr ++ [some k.cells], Vv ds Qj _ _ are hxis, by simp [len],
         kok.snoc (by rw [len]; exact hgood) (by rw [len]; exact hq) (by rw [len]; exact hnot), hnext hq hnot, by simp [ulen], by simp [nlen],
         ZV us (fun j hj => by unfold usP; rw [YU (by omega)]) (by unfold usP; rw [X9 (by omega), hml, ulen]; rfl),
         ZV nd (fun j hj => by unfold ndP; rw [YU (by omega)]) (by unfold ndP; rw [X9 (by omega), hml, nlen]; rfl), (ZcR nf),
         by simpa using q1, q2, q3, q4⟩
       simp (disch := omega) [e1, e3, e5, e7, e8, e9, e22, e23, e24, hb, hix, hsr2, Qn, h10b, Zw, Yv, hak, hau, han, hc1, hc2, hxs, Qh]
       first
        | exact fin _ _ (by simp) (by simp) (by simp) (by simp [hsr2])
        | (trace_state; simp (disch := omega) [e1, e3, e5, e7, e8, e9, e22, e23, e24, hb, hix, hsr2, Qn, h10b, Zw, Yv, hak, hau, han, hc1, hc2, hxs, Qh]; exact fin _ _ (by simp) (by simp) (by simp) (by simp [hsr2]))
     ·have hq0 : eqB (QP s op n 0 (hd xty)) 0 = false := by rw [Qb]; exact hq
      have hres := hfb hq
      simp (disch := omega) [e1, e3, e5, e7, e8, e9, e22, e23, e24, hb, hix, hsr2, Qn, hq0, Qw]
      refine QO (.inr rfl) (by simp) (VT (f := QP s op n 0 (hd xty)) (u := true) (nl := true) (p := []) (by simp) ?_)
      rw [hres]
      exact ⟨hq, true, by simp⟩
   ·subst hi0
    simp only [Int.natCast_zero] at hb hix e24
    have h9b : eqB op 9 = true := by rw [Qc]; exact h9
    have hz : ltB 0 0 = false := by rw [Qd]; omega
    have had := ZkZ (GTerm.mk op n nl1 gty nl2 ks) op n nl1 gty nl2 ks rfl no.op13 0 (by omega) true [] (size := s.size) (fun h => absurd rfl h)
    have hmd' : Z6 op nl1 gty 0 [] = more := by rw [hmd]; simp [Z6, h9]
    rw [hmd'] at had
    simp only [GTerm.lv, GTerm.cells] at had
    simp (disch := omega) [e1, e3, e5, e7, e8, e9, e22, e23, e24, hb, hix, h9b, hz, Qn]
    refine Qa had (by simp) ?_
    simp (disch := omega) [e1, e3, e5, e7, e8, e9, e22, e23, e24, hb, hix, h9b, hz, Qn]
    refine Qa cc (by simp) ?_
    simp (disch := omega) [e1, e3, e5, e7, e8, e9, e22, e23, e24, hb, hix]
    refine Qm recu (by simp) ?_
    intro r hr1
    cases hT : Qo s (Qt op gty 0 (first ds) ++ List.map Prod.snd ctx) k with
    | bad f p =>
     rw [hT] at hr1
     obtain ⟨hf0, n4, hsr2⟩ := hr1
     have hfb : eqB f 0 = false := by rw [Qb]; exact hf0
     have hpl := Vj k _ f p hT
     have hpm : 1 + p.length ≤ WQ := by unfold WQ; omega
     have hres := hbadI f p hT
     simp (disch := omega) [e1, e3, e5, e7, e8, e9, e22, e23, e24, hb, hix, hsr2, hfb, Qn, Wt, hpm, Qw]
     refine QO (.inr rfl) (by simp) (VT (f := f) (u := true) (nl := false) (p := (0 : Int) :: p) (by simp) ?_)
     rw [hres]
     exact ⟨hf0, false, by simp⟩
    | ok x =>
     have hgood := hgoodI x hT
     have hfb := hfbI x hT
     have hsame := hsameI x hT
     have hnext := hnextI x hT
     rw [hT] at hr1
     obtain ⟨xty, xnd, xks⟩ := x
     have hxis : (TT.mk xty xnd xks).is (share r) := hr1
     simp only [Res.is, TT.is] at hr1
     obtain ⟨n3, n4, xrows, hsr2, hxr⟩ := hr1
     simp only [TT.ty_mk] at hfb hsame hnext
     have hgt : okL s.size xty = true := hgood.1
     have fo := ZbK t (GTerm.mk op n nl1 gty nl2 ks) op n nl1 gty nl2 ks rfl 0 (by omega) xty hgt no.op13 (fun h => no.grade (by rcases h with h | h | h <;> (subst h; simp [Jo, Qc])))
     simp only [GTerm.lv, GTerm.cells] at fo
     simp (disch := omega) [e1, e3, e5, e7, e8, e9, e22, e23, e24, hb, hix, hsr2, Qn]
     refine Qa fo (by simp) ?_
     simp (disch := omega) [e1, e3, e5, e7, e8, e9, e22, e23, e24, hb, hix, hsr2, Qn]
     by_cases hq : QP s op n 0 (hd xty) = 0
     ·rw [hq]
      have hz0 : eqB 0 0 = true := by rw [Qc]
      simp (disch := omega) [e1, e3, e5, e7, e8, e9, e22, e23, e24, hb, hix, hsr2, Qn, hz0]
      have h10b : eqB op 10 = false := by rw [Qb]; omega
      have hxl : xnd.length = ctx.length + more.length := by have := hgood.2.1; rw [cxl] at this; rw [hml]; exact this
      have hak : ∀ v, Wt 1 (.sl true ds.isEmpty 1 Qj) (.sl true false 1 [[v]]) = some (.sl true false 1 (Qj ++ [[v]])) := fun v => by
       simp only [Wt]
       rw [if_pos ⟨.inl trivial, .inl trivial, .inl trivial, by simp [WQ]; omega⟩]
       simp
      have hau := ZaE (c := uds) (by omega) false xnd more.length
      have han := Zax (c := nds) (by omega) false xnd more.length
      have hc1 := ZaC (n2 := false) (l := xnd) (k := more.length) (by omega)
      have hc2 := YT (n2 := false) (l := xnd) (k := more.length) (by omega)
      have hxs := (Xg _ xrows hxr).1
      have hnot : ¬ (op = 10 ∧ 0 = 1 ∧ xty ≠ QQ (first ds)) := fun h => by omega
      have fin : ∀ (T : Nat → LV) (H : List Box), T 24 = N (0 + 1) → T 8 = V1 (nds ++ [(false, xnd.drop more.length)]) → T 9 = V1 (uds ++ [(false, xnd.take more.length)]) → H = none :: none :: some ((WB (ctx.map Prod.snd).length).map N) :: ZfA (.sl true true 1 []) (.ha 2 1 0 (ctx.map Prod.snd).length (ctx.map Prod.snd).length) true (ds ++ [TT.mk xty xnd xks]).isEmpty (Qj ++ [[share r]]) :: (hr ++ [some k.cells]) → 0 < ks.length ∧ ∃ ds Qj nds uds hr, TypJ s (ctx.map Prod.snd) op n gty ks (0 + 1) T H ds Qj nds uds hr := fun T H q1 q2 q3 q4 =>
       ⟨h6, ds ++ [TT.mk xty xnd xks], Qj ++ [[share r]], nds ++ [(false, xnd.drop more.length)], uds ++ [(false, xnd.take more.length)], hr ++ [some k.cells], Vv ds Qj _ _ are hxis, by simp [len],
        kok.snoc (by rw [len]; exact hgood) (by rw [len]; exact hq) (by rw [len]; exact hnot), hnext hq hnot, by simp [ulen], by simp [nlen],
        ZV us (fun j hj => by unfold usP; rw [YU (by omega)]) (by unfold usP; rw [X9 (by omega), hml, ulen]; rfl),
        ZV nd (fun j hj => by unfold ndP; rw [YU (by omega)]) (by unfold ndP; rw [X9 (by omega), hml, nlen]; rfl), (ZcR nf),
        by simpa using q1, q2, q3, q4⟩
      simp (disch := omega) [e1, e3, e5, e7, e8, e9, e22, e23, e24, hb, hix, hsr2, Qn, h10b, Zw, Yv, hak, hau, han, hc1, hc2, hxs, Qh]
      first
       | exact fin _ _ (by simp) (by simp) (by simp) (by simp [hsr2])
       | (trace_state; simp (disch := omega) [e1, e3, e5, e7, e8, e9, e22, e23, e24, hb, hix, hsr2, Qn, h10b, Zw, Yv, hak, hau, han, hc1, hc2, hxs, Qh]; exact fin _ _ (by simp) (by simp) (by simp) (by simp [hsr2]))
     ·have hq0 : eqB (QP s op n 0 (hd xty)) 0 = false := by rw [Qb]; exact hq
      have hres := hfb hq
      simp (disch := omega) [e1, e3, e5, e7, e8, e9, e22, e23, e24, hb, hix, hsr2, Qn, hq0, Qw]
      refine QO (.inr rfl) (by simp) (VT (f := QP s op n 0 (hd xty)) (u := true) (nl := true) (p := []) (by simp) ?_)
      rw [hres]
      exact ⟨hq, true, by simp⟩
   ·have hz : ltB 0 (i : Int) = true := by rw [Qf]; omega
    have had := ZkZ (GTerm.mk op n nl1 gty nl2 ks) op n nl1 gty nl2 ks rfl no.op13 i (by omega) false (first ds) (size := s.size) (fun h => ⟨rfl, hfirst h⟩)
    rw [← hmd] at had
    simp only [GTerm.lv, GTerm.cells] at had
    have hsr := (Xg ds Qj are).1
    obtain ⟨q3, q4, qr, hx0, _⟩ := ZpN are false ds.isEmpty 0 (by omega)
    simp only [Int.natCast_zero] at hx0
    have hqs : ∀ rws, Qr rws = rws → Qr rws = rws := fun _ h => h
    simp (disch := omega) [e1, e3, e5, e7, e8, e9, e22, e23, e24, hb, hix, hz, hsr, hx0, Qn]
    refine Qa had (by simp) ?_
    simp (disch := omega) [e1, e3, e5, e7, e8, e9, e22, e23, e24, hb, hix, hz, hsr, Qn]
    refine Qa cc (by simp) ?_
    simp (disch := omega) [e1, e3, e5, e7, e8, e9, e22, e23, e24, hb, hix]
    refine Qm recu (by simp) ?_
    intro r hr1
    cases hT : Qo s (Qt op gty i (first ds) ++ List.map Prod.snd ctx) k with
    | bad f p =>
     rw [hT] at hr1
     obtain ⟨hf0, n4, hsr2⟩ := hr1
     have hfb : eqB f 0 = false := by rw [Qb]; exact hf0
     have hpl := Vj k _ f p hT
     have hpm : 1 + p.length ≤ WQ := by unfold WQ; omega
     have hres := hbadI f p hT
     simp (disch := omega) [e1, e3, e5, e7, e8, e9, e22, e23, e24, hb, hix, hsr2, hfb, Qn, Wt, hpm, Qw]
     refine QO (.inr rfl) (by simp) (VT (f := f) (u := true) (nl := false) (p := (i : Int) :: p) (by simp) ?_)
     rw [hres]
     exact ⟨hf0, false, by simp⟩
    | ok x =>
     have hgood := hgoodI x hT
     have hfb := hfbI x hT
     have hsame := hsameI x hT
     have hnext := hnextI x hT
     rw [hT] at hr1
     obtain ⟨xty, xnd, xks⟩ := x
     have hxis : (TT.mk xty xnd xks).is (share r) := hr1
     simp only [Res.is, TT.is] at hr1
     obtain ⟨n3, n4, xrows, hsr2, hxr⟩ := hr1
     simp only [TT.ty_mk] at hfb hsame hnext
     have hgt : okL s.size xty = true := hgood.1
     have fo := ZbK t (GTerm.mk op n nl1 gty nl2 ks) op n nl1 gty nl2 ks rfl i (by omega) xty hgt no.op13 (fun h => no.grade (by rcases h with h | h | h <;> (subst h; simp [Jo, Qc])))
     simp only [GTerm.lv, GTerm.cells] at fo
     simp (disch := omega) [e1, e3, e5, e7, e8, e9, e22, e23, e24, hb, hix, hsr2, Qn]
     refine Qa fo (by simp) ?_
     simp (disch := omega) [e1, e3, e5, e7, e8, e9, e22, e23, e24, hb, hix, hsr2, Qn]
     by_cases hq : QP s op n i (hd xty) = 0
     ·rw [hq]
      have hz0 : eqB 0 0 = true := by rw [Qc]
      simp (disch := omega) [e1, e3, e5, e7, e8, e9, e22, e23, e24, hb, hix, hsr2, Qn, hz0]
      by_cases h10 : op = 10
      ·by_cases h19 : op = 9
       ·exfalso; omega
       ·have h10b : eqB op 10 = true := by rw [Qc]; exact h10
        by_cases hi1 : i = 1
        ·have hi1b : eqB (i : Int) 1 = true := by rw [Qc]; omega
         have hxs0 := (Xg _ xrows hxr).1
         simp (disch := omega) [e1, e3, e5, e7, e8, e9, e22, e23, e24, hb, hix, hsr2, Qn, h10b, hi1b, hsr, hx0, hxs0, Zw, Yv]
         have hf1 := hfirst (by omega)
         refine Qa (ZfW (l := tyP ds 0) (K6 hf1.1)) (by simp) ?_
         rw [Zba (l := tyP ds 0) (Zau (hf1.2.2.2.2.1 h10))]
         have hx1 : QF 1 (.sl true false 1 [[L false (QQ (tyP ds 0))], [L false (WG (tyP ds 0))]]) 0 = some (.rp [L false (QQ (tyP ds 0))]) := by simp [QF]
         simp (disch := omega) [e1, e3, e5, e7, e8, e9, e22, e23, e24, hb, hix, hsr2, Qn, hx1]
         have hlx := QM hgt
         refine Qa (ZmC false false xty (QQ (tyP ds 0)) (by omega)) (by simp) ?_
         cases he : (xty == QQ (tyP ds 0))
         ·have he2 : xty ≠ QQ (tyP ds 0) := by simpa using he
          have hres := hsame hq ⟨h10, hi1, he2⟩
          simp (disch := omega) [e1, e3, e5, e7, e8, e9, e22, e23, e24, hb, hix, hsr2, Qn, Qw]
          refine QO (.inr rfl) (by simp) (VT (f := 3) (u := true) (nl := true) (p := []) (by simp) ?_)
          rw [hres]
          exact ⟨by omega, true, by simp⟩
         ·have he' : xty = QQ (first ds) := by simpa [first] using he
          have hxl : xnd.length = ctx.length + more.length := by have := hgood.2.1; rw [cxl] at this; rw [hml]; exact this
          have hak : ∀ v, Wt 1 (.sl true ds.isEmpty 1 Qj) (.sl true false 1 [[v]]) = some (.sl true false 1 (Qj ++ [[v]])) := fun v => by
           simp only [Wt]
           rw [if_pos ⟨.inl trivial, .inl trivial, .inl trivial, by simp [WQ]; omega⟩]
           simp
          have hau := ZaE (c := uds) (by omega) false xnd more.length
          have han := Zax (c := nds) (by omega) false xnd more.length
          have hc1 := ZaC (n2 := false) (l := xnd) (k := more.length) (by omega)
          have hc2 := YT (n2 := false) (l := xnd) (k := more.length) (by omega)
          have hxs := (Xg _ xrows hxr).1
          have hnot : ¬ (op = 10 ∧ i = 1 ∧ xty ≠ QQ (first ds)) := fun h => h.2.2 he'
          have fin : ∀ (T : Nat → LV) (H : List Box), T 24 = N ((i : Int) + 1) → T 8 = V1 (nds ++ [(false, xnd.drop more.length)]) → T 9 = V1 (uds ++ [(false, xnd.take more.length)]) → H = none :: none :: some ((WB (ctx.map Prod.snd).length).map N) :: ZfA (.sl true true 1 []) (.ha 2 1 0 (ctx.map Prod.snd).length (ctx.map Prod.snd).length) true (ds ++ [TT.mk xty xnd xks]).isEmpty (Qj ++ [[share r]]) :: (hr ++ [some k.cells]) → i < ks.length ∧ ∃ ds Qj nds uds hr, TypJ s (ctx.map Prod.snd) op n gty ks (i + 1) T H ds Qj nds uds hr := fun T H q1 q2 q3 q4 =>
           ⟨h6, ds ++ [TT.mk xty xnd xks], Qj ++ [[share r]], nds ++ [(false, xnd.drop more.length)], uds ++ [(false, xnd.take more.length)], hr ++ [some k.cells], Vv ds Qj _ _ are hxis, by simp [len],
            kok.snoc (by rw [len]; exact hgood) (by rw [len]; exact hq) (by rw [len]; exact hnot), hnext hq hnot, by simp [ulen], by simp [nlen],
            ZV us (fun j hj => by unfold usP; rw [YU (by omega)]) (by unfold usP; rw [X9 (by omega), hml, ulen]; rfl),
            ZV nd (fun j hj => by unfold ndP; rw [YU (by omega)]) (by unfold ndP; rw [X9 (by omega), hml, nlen]; rfl), (ZcR nf),
            by simpa using q1, q2, q3, q4⟩
          simp (disch := omega) [e1, e3, e5, e7, e8, e9, e22, e23, e24, hb, hix, hsr2, Qn, h10b, hi1b, Zw, Yv, hak, hau, han, hc1, hc2, hxs, Qh]
          first
           | exact fin _ _ (by simp) (by simp) (by simp) (by simp [hsr2])
           | (trace_state; simp (disch := omega) [e1, e3, e5, e7, e8, e9, e22, e23, e24, hb, hix, hsr2, Qn, h10b, hi1b, Zw, Yv, hak, hau, han, hc1, hc2, hxs, Qh]; exact fin _ _ (by simp) (by simp) (by simp) (by simp [hsr2]))
        ·have hi1b : eqB (i : Int) 1 = false := by rw [Qb]; omega
         have hxl : xnd.length = ctx.length + more.length := by have := hgood.2.1; rw [cxl] at this; rw [hml]; exact this
         have hak : ∀ v, Wt 1 (.sl true ds.isEmpty 1 Qj) (.sl true false 1 [[v]]) = some (.sl true false 1 (Qj ++ [[v]])) := fun v => by
          simp only [Wt]
          rw [if_pos ⟨.inl trivial, .inl trivial, .inl trivial, by simp [WQ]; omega⟩]
          simp
         have hau := ZaE (c := uds) (by omega) false xnd more.length
         have han := Zax (c := nds) (by omega) false xnd more.length
         have hc1 := ZaC (n2 := false) (l := xnd) (k := more.length) (by omega)
         have hc2 := YT (n2 := false) (l := xnd) (k := more.length) (by omega)
         have hxs := (Xg _ xrows hxr).1
         have hnot : ¬ (op = 10 ∧ i = 1 ∧ xty ≠ QQ (first ds)) := fun h => hi1 h.2.1
         have fin : ∀ (T : Nat → LV) (H : List Box), T 24 = N ((i : Int) + 1) → T 8 = V1 (nds ++ [(false, xnd.drop more.length)]) → T 9 = V1 (uds ++ [(false, xnd.take more.length)]) → H = none :: none :: some ((WB (ctx.map Prod.snd).length).map N) :: ZfA (.sl true true 1 []) (.ha 2 1 0 (ctx.map Prod.snd).length (ctx.map Prod.snd).length) true (ds ++ [TT.mk xty xnd xks]).isEmpty (Qj ++ [[share r]]) :: (hr ++ [some k.cells]) → i < ks.length ∧ ∃ ds Qj nds uds hr, TypJ s (ctx.map Prod.snd) op n gty ks (i + 1) T H ds Qj nds uds hr := fun T H q1 q2 q3 q4 =>
          ⟨h6, ds ++ [TT.mk xty xnd xks], Qj ++ [[share r]], nds ++ [(false, xnd.drop more.length)], uds ++ [(false, xnd.take more.length)], hr ++ [some k.cells], Vv ds Qj _ _ are hxis, by simp [len],
           kok.snoc (by rw [len]; exact hgood) (by rw [len]; exact hq) (by rw [len]; exact hnot), hnext hq hnot, by simp [ulen], by simp [nlen],
           ZV us (fun j hj => by unfold usP; rw [YU (by omega)]) (by unfold usP; rw [X9 (by omega), hml, ulen]; rfl),
           ZV nd (fun j hj => by unfold ndP; rw [YU (by omega)]) (by unfold ndP; rw [X9 (by omega), hml, nlen]; rfl), (ZcR nf),
           by simpa using q1, q2, q3, q4⟩
         simp (disch := omega) [e1, e3, e5, e7, e8, e9, e22, e23, e24, hb, hix, hsr2, Qn, h10b, hi1b, Zw, Yv, hak, hau, han, hc1, hc2, hxs, Qh]
         first
          | exact fin _ _ (by simp) (by simp) (by simp) (by simp [hsr2])
          | (trace_state; simp (disch := omega) [e1, e3, e5, e7, e8, e9, e22, e23, e24, hb, hix, hsr2, Qn, h10b, hi1b, Zw, Yv, hak, hau, han, hc1, hc2, hxs, Qh]; exact fin _ _ (by simp) (by simp) (by simp) (by simp [hsr2]))
      ·have h10b : eqB op 10 = false := by rw [Qb]; exact h10
       have hxl : xnd.length = ctx.length + more.length := by have := hgood.2.1; rw [cxl] at this; rw [hml]; exact this
       have hak : ∀ v, Wt 1 (.sl true ds.isEmpty 1 Qj) (.sl true false 1 [[v]]) = some (.sl true false 1 (Qj ++ [[v]])) := fun v => by
        simp only [Wt]
        rw [if_pos ⟨.inl trivial, .inl trivial, .inl trivial, by simp [WQ]; omega⟩]
        simp
       have hau := ZaE (c := uds) (by omega) false xnd more.length
       have han := Zax (c := nds) (by omega) false xnd more.length
       have hc1 := ZaC (n2 := false) (l := xnd) (k := more.length) (by omega)
       have hc2 := YT (n2 := false) (l := xnd) (k := more.length) (by omega)
       have hxs := (Xg _ xrows hxr).1
       have hnot : ¬ (op = 10 ∧ i = 1 ∧ xty ≠ QQ (first ds)) := fun h => h10 h.1
       have fin : ∀ (T : Nat → LV) (H : List Box), T 24 = N ((i : Int) + 1) → T 8 = V1 (nds ++ [(false, xnd.drop more.length)]) → T 9 = V1 (uds ++ [(false, xnd.take more.length)]) → H = none :: none :: some ((WB (ctx.map Prod.snd).length).map N) :: ZfA (.sl true true 1 []) (.ha 2 1 0 (ctx.map Prod.snd).length (ctx.map Prod.snd).length) true (ds ++ [TT.mk xty xnd xks]).isEmpty (Qj ++ [[share r]]) :: (hr ++ [some k.cells]) → i < ks.length ∧ ∃ ds Qj nds uds hr, TypJ s (ctx.map Prod.snd) op n gty ks (i + 1) T H ds Qj nds uds hr := fun T H q1 q2 q3 q4 =>
        ⟨h6, ds ++ [TT.mk xty xnd xks], Qj ++ [[share r]], nds ++ [(false, xnd.drop more.length)], uds ++ [(false, xnd.take more.length)], hr ++ [some k.cells], Vv ds Qj _ _ are hxis, by simp [len],
         kok.snoc (by rw [len]; exact hgood) (by rw [len]; exact hq) (by rw [len]; exact hnot), hnext hq hnot, by simp [ulen], by simp [nlen],
         ZV us (fun j hj => by unfold usP; rw [YU (by omega)]) (by unfold usP; rw [X9 (by omega), hml, ulen]; rfl),
         ZV nd (fun j hj => by unfold ndP; rw [YU (by omega)]) (by unfold ndP; rw [X9 (by omega), hml, nlen]; rfl), (ZcR nf),
         by simpa using q1, q2, q3, q4⟩
       simp (disch := omega) [e1, e3, e5, e7, e8, e9, e22, e23, e24, hb, hix, hsr2, Qn, h10b, Zw, Yv, hak, hau, han, hc1, hc2, hxs, Qh]
       first
        | exact fin _ _ (by simp) (by simp) (by simp) (by simp [hsr2])
        | (trace_state; simp (disch := omega) [e1, e3, e5, e7, e8, e9, e22, e23, e24, hb, hix, hsr2, Qn, h10b, Zw, Yv, hak, hau, han, hc1, hc2, hxs, Qh]; exact fin _ _ (by simp) (by simp) (by simp) (by simp [hsr2]))
     ·have hq0 : eqB (QP s op n i (hd xty)) 0 = false := by rw [Qb]; exact hq
      have hres := hfb hq
      simp (disch := omega) [e1, e3, e5, e7, e8, e9, e22, e23, e24, hb, hix, hsr2, Qn, hq0, Qw]
      refine QO (.inr rfl) (by simp) (VT (f := QP s op n i (hd xty)) (u := true) (nl := true) (p := []) (by simp) ?_)
      rw [hres]
      exact ⟨hq, true, by simp⟩
  ·rintro t1 hh hf ⟨ds, Qj, nds, uds, hr, J⟩
   (have e1 := hf 1 (by kernel_rfl); have e3 := hf 3 (by kernel_rfl); have e5 := hf 5 (by kernel_rfl); have e7 := hf 7 (by kernel_rfl); clear hf; simp [] at e1 e3 e5 e7)
   obtain ⟨are, len, kok, tell, ulen, nlen, us, nd, nf, e24, e8, e9, rfl⟩ := J
   rw [List.drop_length, Wd] at tell
   simp (disch := omega) [e1, e3, e5, e7, e8, e9]
   have no' : NodeOk s ctx.length op n gty ds.length := by rw [len]; exact no
   have kok' : KidsOk s ctx.length op n ds := by rw [← cxl]; exact kok
   have hnd : ∀ j, j < ds.length → QF 1 (LC nds.isEmpty nds) (j : Int) = some (.rp [L false (ndP op ds j)]) := fun j hj => by
    have h1 := nf _ (List.getElem_mem (show j < nds.length by omega))
    rw [JW nds nds.isEmpty j (by omega), ← nd j (by omega)]
    show some (LV.rp [L (nds[j]'(by omega)).1 (nds[j]'(by omega)).2]) = _
    rw [h1]
   have hud : ∀ j, j < ds.length → ∃ f, QF 1 (LC uds.isEmpty uds) (j : Int) = some (.rp [L f (usP op ds j)]) := fun j hj =>
    ⟨(uds[j]'(by omega)).1, by rw [JW uds uds.isEmpty j (by omega), ← us j (by omega)]⟩
   have fin := ZoQ hsy nlc ctx (by omega) hc hcf op n nl1 gty nl2 ks ds no' kok' Qj are true ds.isEmpty nds.isEmpty uds.isEmpty nds uds hnd hud hr ctx.length rfl
   simp only [GTerm.lv, GTerm.cells] at fin
   refine Wm (by simpa only [cxl] using fin) ?_
   rintro r h' ⟨rfl, T, ndv, c2, hr', rfl, hfin⟩
   have hT : Qo s (ctx.map Prod.snd) (GTerm.mk op n nl1 gty nl2 ks) = if (Wv s (ctx.map Prod.snd) op n gty ds).1 = 0 then .ok (.mk (Wv s (ctx.map Prod.snd) op n gty ds).2.1 (Wv s (ctx.map Prod.snd) op n gty ds).2.2 ds) else .bad (Wv s (ctx.map Prod.snd) op n gty ds).1 [] := by
    rw [Qo, tell]
   generalize Wv s (ctx.map Prod.snd) op n gty ds = q at hfin hT
   obtain ⟨F, Q1, Q2⟩ := q
   simp only at hfin hT
   have hsr := Xg ds Qj are
   by_cases hF : F = 0
   ·subst hF
    obtain ⟨⟨u, rfl⟩, hn⟩ := hfin rfl
    rw [if_pos rfl] at hT
    have hz0 : eqB 0 0 = true := by rw [Qc]
    simp (disch := omega) [e1, e3, e5, e7, hz0]
    refine QO (.inr rfl) (by simp) ?_
    simp
    refine fz_ok hsr.2 hn fun u2 => ?_
    rw [hT]
    exact ⟨ds.isEmpty, true, Qj, by simp [hsr.1], are⟩
   ·have hF0 : eqB F 0 = false := by rw [Qb]; exact hF
    rw [if_neg hF] at hT
    simp (disch := omega) [e1, e3, e5, e7, hF0, Qw]
    refine QO (.inr rfl) (by simp) (VT (f := F) (u := true) (nl := true) (p := []) (by simp) ?_)
    rw [hT]
    exact ⟨hF, true, by simp⟩
end Go.Proofs.YtclfngbealdbgaaGreat
namespace Go.Proofs.YtclfngbealdbgaaGreat
open Go Go.TL
open Go.Proofs.YtclfngbealdbgaaGreat.Ty
set_option linter.unusedSimpArgs false
set_option linter.unusedVariables false
set_option maxRecDepth 20000
set_option maxHeartbeats 4000000
theorem Qe.low {P : Program} {f : FuncId} {args : List LV} {R : LV → Prop} (c : Qe P f args R) : Qe P f args (fun r => R r ∧ Low 0 r) :=
 QK.mono c fun r h' h => ⟨h, h.2⟩
def GTerm.termB (size n : Int) (t : GTerm) : Bool := Wb n 0 8 && (decide (t.size ≤ 400) && W1 n size true t)
def inB (s : GSys) (ctx : Wf) (t : GTerm) : Bool := s.sys && (Zfy s.size ctx && t.termB s.size ctx.length)
theorem has_fn {s : GSys} (t : s.Tab) (n : Int) (h : I64 n) : FnB Tryz.prog (.fnm Ww [s.lv]) (N n) (Wb n 0 (s.size - 1)) := by
 have h2 := t.lo; have h16 := t.hi
 exact ⟨Ww, [s.lv, N n], by simp [Zo], by simp, Zpc s ⟨by omega, by omega⟩ (by omega) n⟩
theorem Zjy {s : GSys} (t : s.Tab) (nl : Bool) (ty : List Int) (h : Lok ty) : FnB Tryz.prog (.fn Yb [.rp s.cells]) (L nl ty) (wty ty && Z4 s.size true ty) := by
 refine ⟨Yb, [L nl ty, .rp s.cells], by simp [Zo], by simp, ?_⟩
 refine Qe.of_codeOf Zem Qy (by simp) ⟨_, rfl, by simp⟩ ?_
 simp (disch := omega) [VS]
 refine Qa (Zf5 t nl ty h) (by simp) ?_
 simp (disch := omega)
theorem Zgr {s : GSys} (t : s.Tab) (g : GTerm) (hw : g.wf) (n : Int) (hn : I64 n) : Qe Tryz.prog Z3 [s.lv, g.lv, N n] (· = B (g.termB s.size n)) := by
 refine Qe.of_codeOf Zg0 Qy (by simp) ⟨_, rfl, by simp⟩ ?_
 by_cases hr : Wb n 0 8 = true
 ·rw [Q7] at hr
  have hc := check_ok (.fnm Ww [s.lv]) (.fn Yb [.rp s.cells]) (fun m => Wb m 0 (s.size - 1)) (fun ty => wty ty && Z4 s.size true ty) (by simp) (by simp) (by simp) (by simp) (fun m hm => has_fn t m hm) (fun nl ty h => Zjy t nl ty h) g.size g (by omega) hw n 0 (by omega) (by omega) (by omega) (by omega)
  rw [Znm (size := s.size) (closed := true) (fun m => by rw [Bool.eq_iff_iff]; simp [Wb, Qf, Qd, Qi, Qg, Qc, Qb, Bool.not_true, Bool.not_false]; omega) (fun ty => rfl)] at hc
  have h2 : leB (ZfU (W1 n s.size true g) 0 g.size) 400 = g.termB s.size n := by
   rw [Bool.eq_iff_iff]
   simp only [Qf, Qd, Qi, Qg, Qc, Qb, Bool.not_true, Bool.not_false, ZfU, GTerm.termB, Bool.and_eq_true, decide_eq_true_eq, Q7]
   split <;> grind
  have hr' : Wb n 0 8 = true := by rw [Q7]; exact hr
  simp (disch := omega) [KQ, Qw, Qu]
  refine Qa (Jm n 0 8) (by simp) ?_
  simp (disch := omega) [hr']
  refine Qa hc (by simp) ?_
  simp (disch := omega) [h2]
 ·have hr' : Wb n 0 8 = false := by simpa using hr
  simp (disch := omega) [KQ, Qw, Qu]
  refine Qa (Jm n 0 8) (by simp) ?_
  simp (disch := omega) [hr', GTerm.termB]
theorem Zfk {ctx : Wf} (h : ctx.wf) : I64 (ctx.length : Int) := by have := h.1; unfold I64; omega
structure Arg (s : GSys) (ctx : Wf) (g : GTerm) : Prop where
 sw : s.wf
 cw : ctx.wf
 gw : g.wf
 cf : ∀ c ∈ ctx, flOk c.1 c.2
 gf : g.fl
theorem Arg.flags {s : GSys} {ctx : Wf} {g : GTerm} (a : Arg s ctx g) (h : Zfy s.size ctx = true) : (∀ c ∈ ctx, okL s.size c.2 = true) ∧ (∀ c ∈ ctx, c.1 = false) ∧ ctx.length ≤ 8 := by
 unfold Zfy at h
 rw [Bool.and_eq_true, Qi, Jt] at h
 have hk : ∀ c ∈ ctx, okL s.size c.2 = true := by
  intro c hc
  obtain ⟨i, hi, rfl⟩ := List.getElem_of_mem hc
  have := h.2 i hi
  rw [ZlR hi] at this
  exact this
 refine ⟨hk, fun c hc => ?_, by omega⟩
 cases hn : c.1 with
 | false => rfl
 | true => have := a.cf c hc hn; have := QM (hk c hc); simp_all
theorem Zom {s : GSys} {ctx : Wf} {g : GTerm} (a : Arg s ctx g) (nlc : Bool) : Qe Tryz.prog Vs [s.lv, LC nlc ctx, g.lv] (fun r => if inB s ctx g = true then (Qo s (ctx.map Prod.snd) g).is (share r) else r = .sc (.pointer none)) := by
 refine Qe.of_codeOf ZiT Qy (by simp) ?_ ?_
 ·by_cases h : inB s ctx g = true
  ·obtain ⟨ys, h1, h2⟩ := res_ex (Qo s (ctx.map Prod.snd) g) fun f p h => YZ _ _ f p h
   exact ⟨.rp ys, by rw [if_pos h]; exact h1, by simpa using h2⟩
  ·exact ⟨.sc (.pointer none), by rw [if_neg h], by simp⟩
 simp (disch := omega) [Zcp, Qw, Qu]
 refine Qa (ZgE s a.sw) (by simp) ?_
 cases hs : s.sys
 ·simp (disch := omega) [inB, hs]
 ·have t := GSys.sys_of hs
  simp (disch := omega)
  refine Qa (Zmw s t nlc ctx a.cw) (by simp) ?_
  cases hc : Zfy s.size ctx
  ·simp (disch := omega) [inB, hs, hc]
  ·simp (disch := omega)
   refine Qa (Zgr t g a.gw ctx.length (Zfk a.cw)) (by simp) ?_
   cases ht : g.termB s.size ctx.length
   ·simp (disch := omega) [inB, hs, hc, ht]
   ·have hin : inB s ctx g = true := by simp [inB, hs, hc, ht]
    obtain ⟨f1, f2, f3⟩ := a.flags hc
    have ht' := ht
    unfold GTerm.termB at ht'
    simp only [Bool.and_eq_true, decide_eq_true_eq] at ht'
    have ty := typ_ok hs g.size g nlc ctx (Nat.le_refl _) a.gw a.gf f1 f2 (by omega) ht'.2.2
    simp (disch := omega) [take_cells]
    refine Qm (Qe.low ty) (by simp) ?_
    rintro r ⟨hr, lo⟩
    simp (disch := omega) [hin, hr, lo]
def Jh (s : GSys) (ctx : Wf) (g : GTerm) : Option TT := if inB s ctx g = true then (match Qo s (ctx.map Prod.snd) g with
 | .ok x => some x
 | .bad _ _ => none) else none
theorem ZdI {s : GSys} {ctx : Wf} {g : GTerm} (a : Arg s ctx g) {x : TT} (h : Jh s ctx g = some x) : x.good s ctx.length ∧ s.sys = true ∧ Zfy s.size ctx = true ∧ g.termB s.size ctx.length = true ∧ ctx.length ≤ 8 ∧ Qo s (ctx.map Prod.snd) g = .ok x := by
 unfold Jh at h
 split at h
 ·rename_i hin
  unfold inB at hin
  simp only [Bool.and_eq_true] at hin
  obtain ⟨h1, h2, h3⟩ := hin
  obtain ⟨f1, f2, f3⟩ := a.flags h2
  split at h
  ·rename_i y hy
   simp only [Option.some.injEq] at h
   subst h
   have h4 := h3
   unfold GTerm.termB at h4
   simp only [Bool.and_eq_true, decide_eq_true_eq] at h4
   have := ZaY (GSys.sys_of h1) g (ctx.map Prod.snd) y (fun l hl => by
    obtain ⟨c, hc, rfl⟩ := List.mem_map.1 hl
    exact f1 c hc) (by rw [List.length_map]; exact h4.2.2) hy
   rw [List.length_map] at this
   exact ⟨this, h1, h2, h3, f3, hy⟩
  ·simp at h
 ·simp at h
theorem ZpI (ys : List LV) : Xs .ptr .eql (.rp ys) (.sc (.pointer none)) = some (B false) := rfl
theorem bin_pnil : Xs .ptr .eql (.sc (.pointer none)) (.sc (.pointer none)) = some (B true) := rfl
end Go.Proofs.YtclfngbealdbgaaGreat
namespace Go.Proofs.YtclfngbealdbgaaGreat
open Go Go.TL
set_option linter.unusedSimpArgs false
set_option linter.unusedVariables false
set_option maxRecDepth 20000
set_option maxHeartbeats 4000000
def mmLV (mx : Bool) (x y : LV) : Option LV := match x, y with
 | .sc (.int k a), .sc (.int _ b) => some (.sc (.int k (if (if mx then b > a else b < a) then b else a)))
 | _, _ => none
@[simp] theorem step_mm {s : St} {d : Nat} {mx : Bool} {x y : X} : TL.step (.minmax d mx x y) s = (mmLV mx (TL.get s.t x) (TL.get s.t y)).map (s.put d) := by
 simp only [TL.step, mmLV]
 split <;> simp_all
@[simp] theorem mm_min {k k' : IntKind} {a b : Int} : mmLV false (.sc (.int k a)) (.sc (.int k' b)) = some (.sc (.int k (if b < a then b else a))) := by simp [mmLV]
@[simp] theorem mm_max {k k' : IntKind} {a b : Int} : mmLV true (.sc (.int k a)) (.sc (.int k' b)) = some (.sc (.int k (if a < b then b else a))) := by simp [mmLV]
def tabL {α : Type} (f : Nat → Nat → α) (size a b : Nat) : List α := ((List.range a).flatMap fun x => (List.range size).map fun y => f x y) ++ (List.range b).map fun y => f a y
abbrev OI (l : List Int) : LV := .sl true l.isEmpty 1 (l.map fun n => [N n])
abbrev OBl (l : List Bool) : LV := .sl true l.isEmpty 1 (l.map fun b => [B b])
def nPl (n a b : Nat) : Int := min ((a : Int) + b) (n + 1)
def nTm (n a b : Nat) : Int := min ((a : Int) * b) (n + 1)
def nBl (n : Nat) (bound : Bool) (a b : Nat) : Bool := eqB a b || (eqB b (n + 1) || (bound && leB a b))
end Go.Proofs.YtclfngbealdbgaaGreat
namespace Go.Proofs.YtclfngbealdbgaaGreat
open Go Go.TL
set_option linter.unusedSimpArgs false
set_option linter.unusedVariables false
set_option linter.unusedSectionVars false
set_option maxRecDepth 20000
set_option maxHeartbeats 4000000
def andI (a b : Int) : Int := IntKind.i64.wrap (BitVec.ofInt 64 a &&& BitVec.ofInt 64 b).toNat
def xorI (a b : Int) : Int := IntKind.i64.wrap (BitVec.ofInt 64 a ^^^ BitVec.ofInt 64 b).toNat
def shrI (a b : Int) : Int := a.fdiv (2 ^ (min b.toNat 64))
@[simp] theorem bin_and {a b : Int} : Xs .num .and (N a) (N b) = some (N (andI a b)) := rfl
@[simp] theorem bin_xor {a b : Int} : Xs .num .xor (N a) (N b) = some (N (xorI a b)) := rfl
@[simp] theorem bin_shr {a b : Int} : Xs .num .shr (N a) (.sc (.int .u64 b)) = if b < 0 then none else some (N (shrI a b)) := by simp [Xs, shrI, IntKind.bits]
end Go.Proofs.YtclfngbealdbgaaGreat
namespace Go.Proofs.YtclfngbealdbgaaGreat
open Go Go.TL
set_option linter.unusedSimpArgs false
set_option linter.unusedVariables false
set_option linter.unusedSectionVars false
set_option maxRecDepth 20000
set_option maxHeartbeats 4000000
def lX (n a : Nat) : Int := ((n : Int) + 1 - a).tmod (n + 1)
def lPl (n a b : Nat) : Int := ((n : Int) + 1 - max (lX n a) (lX n b)).tmod (n + 1)
def lTm (n a b : Nat) : Int := ((n : Int) + 1 - min (lX n a) (lX n b)).tmod (n + 1)
def lBl (n a b : Nat) : Bool := leB (lX n a) (lX n b)
abbrev Zfe (size : Nat) (p t : Nat → Nat → Int) (b : Nat → Nat → Bool) : LV := .agg [N size, OI (tabL p size size 0), OI (tabL t size size 0), OBl (tabL b size size 0)]
def Zfz (n g : Int) : Int := if g = 0 then 0 else if g = 1 then 1 else if g ≤ n + 1 then (g - 1).tdiv n else g.tdiv n
def ZcI (n g : Int) : Int := if g < 2 then g else if g ≤ n + 1 then (g - 1).tmod n else g.tmod n
def pairI (n x y : Int) : Int := if x * n + y = 0 then 0 else if x * n + y = n + 1 then 1 else if x * n + y < n + 1 then x * n + y + 1 else x * n + y
def tabG (size : Nat) (p t : Nat → Nat → Int) (b : Nat → Nat → Bool) : GSys :=
 ⟨size, (tabL p size size 0).isEmpty, tabL p size size 0, (tabL t size size 0).isEmpty, tabL t size size 0, (tabL b size size 0).isEmpty, tabL b size size 0⟩
theorem ZqG (size : Nat) (p t : Nat → Nat → Int) (b : Nat → Nat → Bool) : share (Zfe size p t b) = (tabG size p t b).lv := by simp [Zfe, tabG]
def pPl (a b : GSys) (n : Nat) (g h : Nat) : Int := pairI n (a.pl (Zfz n g) (Zfz n h)) (b.pl (ZcI n g) (ZcI n h))
def pTm (a b : GSys) (n : Nat) (g h : Nat) : Int := pairI n (a.tm (Zfz n g) (Zfz n h)) (b.tm (ZcI n g) (ZcI n h))
def pBl (a b : GSys) (n : Nat) (g h : Nat) : Bool := a.le (Zfz n g) (Zfz n h) && b.le (ZcI n g) (ZcI n h)
end Go.Proofs.YtclfngbealdbgaaGreat
namespace Go.Proofs.YtclfngbealdbgaaGreat
open Go Go.TL
set_option linter.unusedSimpArgs false
set_option linter.unusedVariables false
set_option linter.unusedSectionVars false
set_option maxRecDepth 100000
set_option maxHeartbeats 4000000
inductive DS where
 | count (n : Nat) | bound (n : Nat) | level (n : Nat) | prod (n : Nat)
def DS.ok : DS → Bool
 | .count n => decide (1 ≤ n) && decide (n ≤ 3)
 | .bound n => decide (1 ≤ n) && decide (n ≤ 3)
 | .level n => decide (1 ≤ n) && decide (n ≤ 3)
 | .prod n => decide (1 ≤ n) && decide (n ≤ 2)
def cntG (n : Nat) (bound : Bool) : GSys := tabG (n + 2) (nPl n) (nTm n) (nBl n bound)
def levG (n : Nat) : GSys := tabG (n + 1) (lPl n) (lTm n) (lBl n)
def prodG (n : Nat) : GSys := tabG (3 * (n + 1)) (pPl (cntG 1 false) (levG n) (n + 1)) (pTm (cntG 1 false) (levG n) (n + 1)) (pBl (cntG 1 false) (levG n) (n + 1))
def DS.sys : DS → GSys
 | .count n => cntG n false
 | .bound n => cntG n true
 | .level n => levG n
 | .prod n => prodG n
def DS.lv : DS → LV
 | .count n => Zfe (n + 2) (nPl n) (nTm n) (nBl n false)
 | .bound n => Zfe (n + 2) (nPl n) (nTm n) (nBl n true)
 | .level n => Zfe (n + 1) (lPl n) (lTm n) (lBl n)
 | .prod n => Zfe (3 * (n + 1)) (pPl (cntG 1 false) (levG n) (n + 1)) (pTm (cntG 1 false) (levG n) (n + 1)) (pBl (cntG 1 false) (levG n) (n + 1))
theorem DS.share (d : DS) : share d.lv = d.sys.lv := by
 cases d <;> simp only [DS.lv, DS.sys, cntG, levG, prodG, ZqG]
end Go.Proofs.YtclfngbealdbgaaGreat
namespace Go.Proofs.YtclfngbealdbgaaGreat
open Go Go.TL
open Go.Proofs.YtclfngbealdbgaaGreat.Ty
set_option linter.unusedSimpArgs false
set_option linter.unusedVariables false
set_option linter.unusedSectionVars false
set_option maxRecDepth 20000
set_option maxHeartbeats 4000000
theorem ZiU {l r : List Int} {u nl : Bool} (h : l.length + r.length ≤ 1099511627776) : Wt 1 (OU true false l) (OU u nl r) = some (OU true false (l ++ r)) := by
 simp only [Wt]
 rw [if_pos ⟨.inl trivial, .inl trivial, .inl trivial, by simp only [List.length_map]; exact h⟩]
 simp only [Bool.true_or, Bool.false_and]
 rw [OU, List.map_append]
def K7 (c : Int) (ctx : Wf) (k : Nat) : List Int := c :: ((ctx.take k).map (·.2)).flatten
theorem Zop (c : Int) (ctx : Wf) (k : Nat) (h : k < ctx.length) : K7 c ctx (k + 1) = K7 c ctx k ++ ctx[k].2 := by
 rw [K7, K7, List.take_succ_eq_append_getElem h, List.map_append, List.flatten_append, List.cons_append]
 simp only [List.map_cons, List.map_nil, List.flatten_cons, List.flatten_nil, List.append_nil]
theorem ZqB (c : Int) (ctx : Wf) (k : Nat) (h : k ≤ ctx.length) : (K7 c ctx k).length ≤ 1 + cws ctx := by
 have key : ∀ (ctx : Wf), ((ctx.map (·.2)).flatten).length = cws ctx := by
  intro ctx
  induction ctx with
  | nil => simp [cws]
  | cons a l ih => simp [cws, ih]
 have h2 : ∀ (ctx : Wf) (k : Nat), cws (ctx.take k) ≤ cws ctx := by
  intro ctx
  induction ctx with
  | nil => intro k; simp
  | cons a l ih => intro k; cases k with
   | zero => simp [cws]
   | succ k => simp [cws]; exact ih k
 simp only [K7, List.length_cons, key]
 have := h2 ctx k
 omega
theorem Zk8 (c : Int) (nl : Bool) (ctx : Wf) (hw : ctx.length ≤ 1000000) (hl : cws ctx ≤ 1000000000) : Qe Tryz.prog Xt [N c, LC nl ctx] (· = OU true false (c :: (ctx.map (·.2)).flatten)) := by
 obtain ⟨z, hz⟩ : ∃ z, c :: (ctx.map (·.2)).flatten = z := ⟨_, rfl⟩
 rw [hz]
 refine Qe.of_codeOf Zjl Qy (by simp) ⟨_, rfl, by simp⟩ ?_
 simp (disch := omega) [Zdj]
 refine Xn ctx.length 0 (fun i t _ => t 6 = N i ∧ t 5 = OU true false (K7 c ctx i)) (fun t _ => t 5 = OU true false z) (by simp [K7]) (by omega) ?_ ?_
 ·rintro i t1 hh hf hi ⟨e6, e5⟩
  (have e1 := hf 1 (by kernel_rfl); clear hf; simp [] at e1)
  simp (disch := omega) [e1, e5, e6]
  (with_reducible first | refine Ql (fun h1 => ?_) (fun h1 => ?_) | refine Qk (fun h1 => ?_) (fun h1 => ?_))
  ·simp only [Qf, Qd, Qi, Qg, Qc, Qb, Bool.not_true, Bool.not_false] at h1
   simp (disch := omega) [e1, e5, e6, JW]
   have hm := Zha (List.getElem_mem (show i < ctx.length by omega))
   have hg := ZqB c ctx i (by omega)
   rw [ZiU (by omega), ← Zop c ctx i (by omega)]
   simp (disch := omega) [e1, e5, e6, Qh]
   omega
  ·simp only [Qf, Qd, Qi, Qg, Qc, Qb, Bool.not_true, Bool.not_false] at h1
   simp (disch := omega) [e5]
   rw [show i = ctx.length by omega, ← hz]; simp [K7]
 ·rintro t1 hh hf e5
  simp (disch := omega) [e5]
theorem Zpe (c : Int) (nl n1 : Bool) (a : List Int) (hl : a.length ≤ 100000) : Qe Tryz.prog Xt [N c, .sl false nl 1 [[L n1 a]]] (· = OU true false (c :: a)) := by
 have := Zk8 c nl [(n1, a)] (by simp) (by simp [cws]; omega)
 simp only [List.map_cons, List.map_nil, List.flatten_cons, List.flatten_nil, List.append_nil] at this
 exact this
theorem ZaK (c : Int) (nl n1 n2 : Bool) (a b : List Int) (ha : a.length ≤ 100000) (hb : b.length ≤ 100000) : Qe Tryz.prog Xt [N c, .sl false nl 1 [[L n1 a], [L n2 b]]] (· = OU true false (c :: (a ++ b))) := by
 have := Zk8 c nl [(n1, a), (n2, b)] (by simp) (by simp [cws]; omega)
 simp only [List.map_cons, List.map_nil, List.flatten_cons, List.flatten_nil, List.append_nil] at this
 exact this
end Go.Proofs.YtclfngbealdbgaaGreat
namespace Go.Proofs.YtclfngbealdbgaaGreat
open Go Go.TL
open Go.Proofs.YtclfngbealdbgaaGreat.Ty
set_option linter.unusedSimpArgs false
set_option linter.unusedVariables false
set_option maxRecDepth 20000
set_option maxHeartbeats 4000000
theorem Jf (nl : Bool) (l : List Int) (hl : l.length ≤ 1099511627776) : Qe Tryz.prog XW [L nl l] (· = OU true false l) := by
 refine Qe.of_codeOf ZjM Qy (by simp) ⟨_, rfl, by simp⟩ ?_
 have hm : l.length ≤ WQ := hl
 simp (disch := omega) [Zc7, Qn, Wt, hm]
theorem ZfR (n1 n2 : Bool) (a b : List Int) (ha : a.length ≤ 1099511627776) : Qe Tryz.prog ZT [L n1 a, L n2 b] (· = B (a == b)) := by
 generalize hq : (a == b) = q
 refine Qe.of_codeOf Zj2 Qy (by simp) ⟨_, rfl, by simp⟩ ?_
 simp (disch := omega) [Zc5]
 (with_reducible first | refine Ql (fun h1 => ?_) (fun h1 => ?_) | refine Qk (fun h1 => ?_) (fun h1 => ?_))
 ·simp (disch := omega) [h1]
  simp only [Qf, Qd, Qi, Qg, Qc, Qb, Bool.not_true, Bool.not_false] at h1
  refine Q9 a.length 0 (fun i t _ => t 5 = N i ∧ q = (a.drop i == b.drop i)) (by simp [hq]) (by omega) ?_
  rintro i t1 hh hf hi ⟨e5, hj⟩
  (have e0 := hf 0 (by kernel_rfl); have e1 := hf 1 (by kernel_rfl); clear hf; simp [] at e0 e1)
  simp (disch := omega) [e0, e1, e5]
  (with_reducible first | refine Ql (fun h6 => ?_) (fun h6 => ?_) | refine Qk (fun h6 => ?_) (fun h6 => ?_))
  ·simp only [Qf, Qd, Qi, Qg, Qc, Qb, Bool.not_true, Bool.not_false] at h6
   have hd1 := List.drop_eq_getElem_cons (l := a) (i := i) (by omega)
   have hd2 := List.drop_eq_getElem_cons (l := b) (i := i) (by omega)
   have hq2 : q = (a[i]'(by omega) == b[i]'(by omega) && (a.drop (i + 1) == b.drop (i + 1))) := by rw [hj, hd1, hd2]; rfl
   clear hd1 hd2 hj
   simp (disch := omega) [e0, e1, e5, Xj]
   repeat' (first
  | (with_reducible (first | refine Ql (fun hb_ => ?_) (fun hb_ => ?_) | refine Qk (fun hb_ => ?_) (fun hb_ => ?_)) <;> simp (disch := omega) [hb_, e0, e1, e5, Qh])
  | simp (disch := omega) [e0, e1, e5, Qh])
   all_goals simp only [Qf, Qd, Qi, Qg, Qc, Qb, Bool.not_true, Bool.not_false] at hb_
   ·exact ⟨by omega, by simp [hq2, hb_]⟩
   ·simp [hq2, hb_]
  ·simp only [Qf, Qd, Qi, Qg, Qc, Qb, Bool.not_true, Bool.not_false] at h6
   simp (disch := omega)
   rw [hj, List.drop_of_length_le (by omega), List.drop_of_length_le (by omega)]; simp
 ·simp (disch := omega) [h1]
  simp only [Qf, Qd, Qi, Qg, Qc, Qb, Bool.not_true, Bool.not_false] at h1
  rw [← hq]; simp; intro h; exact h1 (by rw [h])
theorem Ve (n : Nat) (hn : n ≤ 1099511627776) : Qe Tryz.prog YW [N n] (· = OU true false (WB n)) := by
 refine Qe.of_codeOf ZjP Qy (by simp) ⟨_, rfl, by simp⟩ ?_
 have hm : (n : Int) ≤ (WQ : Nat) := by unfold WQ; omega
 simp (disch := omega) [ZdF, hm]
 have e : List.replicate n (N 0) = (WB n).map N := by simp [WB]
 have hz : (WB n).length = n := by simp [WB]
 have := ZpK (h0 := []) (z := (WB n).map N) (l := WB n) rfl
 rw [hz] at this
 simp only [List.nil_append, List.length_nil] at this
 first
  | (rw [e, this]; simp)
def Zd1 (s : GSys) (a : List Int) (g : Int) (b : List Int) : List Int := List.zipWith (fun x y => s.pl x (s.tm g y)) a b
theorem YS {s : GSys} (t : s.Tab) (n1 n2 : Bool) (a : List Int) (g : Int) (hg : s.G g) (b : List Int) (hl : a.length ≤ 1000000) (hab : a.length = b.length) (ha : ∀ u ∈ a, s.G u) (hb : ∀ u ∈ b, s.G u) :
  Qe Tryz.prog XP [s.lv, L n1 a, N g, L n2 b] (· = OU true false (Zd1 s a g b)) := by
 obtain ⟨z, hze⟩ : ∃ z, z = Zd1 s a g b := ⟨_, rfl⟩
 have hz : z.length = a.length := by rw [hze]; simp [Zd1, hab]
 have hget : ∀ (i : Nat) (h : i < a.length), z[i]'(by omega) = s.pl a[i] (s.tm g (b[i]'(by omega))) := by intro i h; simp [hze, Zd1]
 rw [← hze]; clear hze
 refine Qe.of_codeOf Zl9 Qy (by simp) ⟨_, rfl, by simp⟩ ?_
 simp (disch := omega) [ZeN, Qw, Qu, Qn]
 refine Q9 a.length 0 (fun i t h => t 10 = N i ∧ t 9 = OU true false (z.take i) ∧ h = [none]) (by simp) (by omega) ?_
 rintro i t1 hh hf hi ⟨e10, e9, rfl⟩
 (have e1 := hf 1 (by kernel_rfl); have e2 := hf 2 (by kernel_rfl); have e3 := hf 3 (by kernel_rfl); have e4 := hf 4 (by kernel_rfl); clear hf; simp [] at e1 e2 e3 e4)
 simp (disch := omega) [e1, e2, e3, e4, e9, e10]
 (with_reducible first | refine Ql (fun h6 => ?_) (fun h6 => ?_) | refine Qk (fun h6 => ?_) (fun h6 => ?_))
 ·simp only [Qf, Qd, Qi, Qg, Qc, Qb, Bool.not_true, Bool.not_false] at h6
  simp (disch := omega) [e1, e2, e3, e4, e9, e10, Xj]
  refine Qa (Ze7 t hg (hb _ (List.getElem_mem (show i < b.length by omega)))) (by simp) ?_
  simp (disch := omega) [e1, e2, e3, e4, e9, e10, Xj]
  refine Qa (Zeu t (ha _ (List.getElem_mem (show i < a.length by omega))) (GSys.Gtm t _ _)) (by simp) ?_
  have hst : z.take (i + 1) = z.take i ++ [s.pl a[i] (s.tm g (b[i]'(by omega)))] := by rw [List.take_succ_eq_append_getElem (by omega), hget i (by omega)]
  rw [hst]
  have hlt : (z.take i).length ≤ a.length := by simp; omega
  generalize z.take i = y at *
  have hap : Wt 1 (OU true false y) (.sl true false 1 [[N (s.pl a[i] (s.tm g (b[i]'(by omega))))]]) = some (OU true false (y ++ [s.pl a[i] (s.tm g (b[i]'(by omega)))])) := ZiU (l := y) (r := [_]) (u := true) (nl := false) (by simp; omega)
  simp (disch := omega) [e1, e2, e3, e4, e9, e10, Xj, Qh, Qn]
  rw [hap]
  simp (disch := omega) [e10, Qh]
  omega
 ·simp only [Qf, Qd, Qi, Qg, Qc, Qb, Bool.not_true, Bool.not_false] at h6
  simp (disch := omega) [e9]
  rw [List.take_of_length_le (by simp; omega)]
  simp
theorem ZkI {s : GSys} (t : s.Tab) (n1 n2 : Bool) (a b : List Int) (hl : a.length ≤ 1000000) (hab : a.length = b.length) (ha : ∀ u ∈ a, s.G u) (hb : ∀ u ∈ b, s.G u) :
  Qe Tryz.prog Kk [s.lv, L n1 a, L n2 b] (· = OU true false (Jc s a b)) := by
 obtain ⟨z, hze⟩ : ∃ z, z = Jc s a b := ⟨_, rfl⟩
 have hz : z.length = a.length := by rw [hze]; simp [Jc, hab]
 have hget : ∀ (i : Nat) (h : i < a.length), z[i]'(by omega) = s.join a[i] (b[i]'(by omega)) := by intro i h; simp [hze, Jc]
 rw [← hze]; clear hze
 refine Qe.of_codeOf Zkf Qy (by simp) ⟨_, rfl, by simp⟩ ?_
 simp (disch := omega) [ZdE, Qw, Qu, Qn]
 refine Q9 a.length 0 (fun i t h => t 8 = N i ∧ t 7 = OU true false (z.take i) ∧ h = [none]) (by simp) (by omega) ?_
 rintro i t1 hh hf hi ⟨e8, e7, rfl⟩
 (have e1 := hf 1 (by kernel_rfl); have e2 := hf 2 (by kernel_rfl); have e3 := hf 3 (by kernel_rfl); clear hf; simp [] at e1 e2 e3)
 simp (disch := omega) [e1, e2, e3, e7, e8]
 (with_reducible first | refine Ql (fun h6 => ?_) (fun h6 => ?_) | refine Qk (fun h6 => ?_) (fun h6 => ?_))
 ·simp only [Qf, Qd, Qi, Qg, Qc, Qb, Bool.not_true, Bool.not_false] at h6
  simp (disch := omega) [e1, e2, e3, e7, e8, Xj]
  refine Qa (ZkR t (ha _ (List.getElem_mem (show i < a.length by omega))) (hb _ (List.getElem_mem (show i < b.length by omega)))) (by simp) ?_
  have hst : z.take (i + 1) = z.take i ++ [s.join a[i] (b[i]'(by omega))] := by rw [List.take_succ_eq_append_getElem (by omega), hget i (by omega)]
  rw [hst]
  have hlt : (z.take i).length ≤ a.length := by simp; omega
  generalize z.take i = y at *
  have hap : Wt 1 (OU true false y) (.sl true false 1 [[N (s.join a[i] (b[i]'(by omega)))]]) = some (OU true false (y ++ [s.join a[i] (b[i]'(by omega))])) := ZiU (l := y) (r := [_]) (u := true) (nl := false) (by simp; omega)
  simp (disch := omega) [e1, e2, e3, e7, e8, Xj, Qh, Qn]
  rw [hap]
  simp (disch := omega) [e8, Qh]
  omega
 ·simp only [Qf, Qd, Qi, Qg, Qc, Qb, Bool.not_true, Bool.not_false] at h6
  simp (disch := omega) [e7]
  rw [List.take_of_length_le (by simp; omega)]
  simp
theorem Jn (n1 n2 : Bool) (c f : Wf) (hc : c.length ≤ 1000000) (hf : f.length ≤ 1000000) : Qe Tryz.prog XV [LC n1 c, LC n2 f] (· = .sl true false 1 ((f ++ c).map fun x => [eC x])) := by
 refine Qe.of_codeOf Zkr Qy (by simp) ⟨_, rfl, by simp⟩ ?_
 have h1 : f.length ≤ WQ := by unfold WQ; omega
 have h2 : f.length + c.length ≤ WQ := by unfold WQ; omega
 simp (disch := omega) [Zde, Qn, Wt, h1, h2]
theorem Jb {size : Int} {l : List Int} (h : okL size l = true) (k : Int) (hk : WC (hd l) = some 1 ∨ WC (hd l) = some 2) : Qe Tryz.prog W0 [L false l, N k] (· = OU true false (if k = 0 then QQ l else WG l)) := by
 have hl := QM h
 have hlok := ZpO (K6 h)
 have he : Za l 1 = 1 + (QQ l).length ∧ l = hd l :: (QQ l ++ WG l) := by
  rcases hk with hk | hk
  ·obtain ⟨q1, q2, q3⟩ := ZlM h hk
   obtain ⟨u, g1, g2, _⟩ := Xl.1 q3
   refine ⟨?_, by rw [q2, List.append_nil]; exact q1⟩
   unfold Za
   rw [if_pos (by omega), show (1 : Int).toNat = 1 from rfl]
   have e : l.drop 1 = u.flat ++ [] := by
    conv => lhs; rw [q1]
    rw [List.drop_one, List.tail_cons, g2, List.append_nil]
   have e2 : l.length = 1 + u.flat.length := by
    conv => lhs; rw [q1]
    rw [g2]; simp; omega
   rw [e, Zd7 g1, e2, g2]; simp
  ·obtain ⟨q1, q2, q3⟩ := VR h hk
   obtain ⟨u, g1, g2, _⟩ := Xl.1 q2
   refine ⟨?_, q1⟩
   unfold Za
   rw [if_pos (by omega), show (1 : Int).toNat = 1 from rfl]
   have e : l.drop 1 = u.flat ++ WG l := by
    conv => lhs; rw [q1]
    rw [List.drop_one, List.tail_cons, g2]
   have e2 : l.length = 1 + (u.flat.length + (WG l).length) := by
    conv => lhs; rw [q1]
    rw [g2]; simp; omega
   rw [e, Zd7 g1, e2, g2]; omega
 have hlen : l.length = 1 + ((QQ l).length + (WG l).length) := by
  have := congrArg List.length he.2
  simpa [Nat.add_comm] using this
 have c0 : ZE 1 (L false l) (some 1) (some (1 + ((QQ l).length : Int))) none = some (L false (QQ l)) := by
  simp only [ZE, Option.getD_none, Option.getD_some, List.length_map]
  rw [if_pos ⟨trivial, by omega, by omega, by omega, by omega⟩, show (1 + ((QQ l).length : Int)).toNat = 1 + (QQ l).length by omega, show (1 : Int).toNat = 1 from rfl, ← List.map_take, ← List.map_drop]
  have e : List.drop 1 (List.take (1 + (QQ l).length) l) = QQ l := by
   have h2 := he.2
   generalize QQ l = p0 at *
   generalize WG l = p1 at *
   rw [h2, Nat.add_comm, List.take_succ_cons, List.drop_one, List.tail_cons, List.take_left]
  rw [e]; simp only [Option.isSome_none, Bool.false_and, Zft]
 have c1 : ZE 1 (L false l) (some (1 + ((QQ l).length : Int))) none none = some (L false (WG l)) := by
  have := YT (n2 := false) (l := l) (k := 1 + (QQ l).length) (by omega)
  rw [show ((1 + (QQ l).length : Nat) : Int) = 1 + ((QQ l).length : Int) by omega] at this
  rw [this]
  have e : List.drop (1 + (QQ l).length) l = WG l := by
   have h2 := he.2
   generalize QQ l = p0 at *
   generalize WG l = p1 at *
   rw [h2, Nat.add_comm, List.drop_succ_cons, List.drop_left]
  rw [e]
 have hend := Znr false l hlok 1 (by omega)
 rw [show ((1 : Nat) : Int) = 1 from rfl, he.1] at hend
 refine Qe.of_codeOf Zjp Qy (by simp) ⟨_, rfl, by split <;> simp⟩ ?_
 simp (disch := omega) [Zc3]
 refine Qa hend (by simp) ?_
 simp (disch := omega)
 by_cases h0 : k = 0
 ·subst h0
  have hz : eqB 0 0 = true := by rw [Qc]
  simp (disch := omega) [hz, c0]
  refine Qa (Jf false (QQ l) (by omega)) (by simp) ?_
  simp (disch := omega)
 ·have hz : eqB k 0 = false := by rw [Qb]; exact h0
  simp (disch := omega) [hz, c1, h0]
  refine Qa (Jf false (WG l) (by omega)) (by simp) ?_
  simp (disch := omega)
def Res.told : Res → LV → Prop
 | .ok x, r => ∃ u1 u2 u4 n4, r = .agg [OU u1 false x.ty, OU u2 false x.needs, N 0, .sl u4 n4 1 []]
 | .bad f p, r => f ≠ 0 ∧ ∃ u1 u2 u4 n4, r = .agg [.sl u1 true 1 [], .sl u2 true 1 [], N f, OU u4 n4 p]
theorem Xa (f : Int) (hf : f ≠ 0) : Qe Tryz.prog WE [N f] (Res.bad f []).told := by
 refine Qe.of_codeOf Zle Qy (by simp) ⟨.agg [.sl false true 1 [], .sl false true 1 [], N f, .sl false true 1 []], ⟨hf, false, false, false, true, by simp⟩, by simp⟩ ?_
 simp (disch := omega) [Zep]
 exact ⟨hf, true, true, true, true, by simp⟩
def Zhr (ty nd : List Int) : Res := if ty.length ≤ 40 then .ok (.mk ty nd []) else .bad 3 []
theorem VU (x : Res) (h : ∀ f p, x = .bad f p → f ≠ 0) : ∃ r, x.told r ∧ Low 0 r := by
 cases x with
 | ok x => exact ⟨.agg [L false x.ty, L false x.needs, N 0, .sl false true 1 []], ⟨false, false, false, true, rfl⟩, by simp⟩
 | bad f p => exact ⟨.agg [.sl false true 1 [], .sl false true 1 [], N f, L true p], ⟨h f p rfl, false, false, false, true, rfl⟩, by simp⟩
theorem Zp3 {ty nd : List Int} {f : Int} {p : List Int} (h : Zhr ty nd = .bad f p) : f ≠ 0 := by
 unfold Zhr at h
 split at h
 ·simp at h
 ·simp at h; omega
theorem ZaA (ty nd : List Int) : Qe Tryz.prog Yk [L false ty, L false nd] (Zhr ty nd).told := by
 refine Qe.of_codeOf ZjZ Qy (by simp) (VU _ fun f p h => Zp3 h) ?_
 simp (disch := omega) [Zdu]
 by_cases h : ty.length ≤ 40
 ·have hb : ltB 40 (ty.length : Int) = false := by rw [Qd]; omega
  simp (disch := omega) [hb, Zhr, h]
  exact ⟨false, false, true, true, by simp⟩
 ·have hb : ltB 40 (ty.length : Int) = true := by rw [Qf]; omega
  simp (disch := omega) [hb, Zhr, h]
  refine Qm (Qe.low (Xa 3 (by omega))) (by simp) ?_
  rintro r ⟨⟨h3, u1, u2, u4, n4, rfl⟩, lo⟩
  simp (disch := omega)
  exact ⟨h3, u1, u2, u4, n4, by simp⟩
end Go.Proofs.YtclfngbealdbgaaGreat
namespace Go.Proofs.YtclfngbealdbgaaGreat
open Go Go.TL
open Go.Proofs.YtclfngbealdbgaaGreat.Ty
set_option linter.unusedSimpArgs false
set_option linter.unusedVariables false
set_option maxRecDepth 20000
set_option maxHeartbeats 4000000
def ofR (i : Nat) : Res → Res
 | .ok x => .ok x
 | .bad f p => .bad f ((i : Int) :: p)
def Res.fine : Res → Prop
 | .ok _ => True
 | .bad f p => f ≠ 0 ∧ p.length ≤ 1000000
theorem ofR_fine {i : Nat} {x : Res} (h : x.fine) : ∀ f p, ofR i x = .bad f p → f ≠ 0 := by
 intro f p e
 cases x with
 | ok x => simp [ofR] at e
 | bad f0 p0 => simp [ofR] at e; rw [← e.1]; exact h.1
theorem XC (s : GSys) (op n : Int) (nl1 : Bool) (gty : List Int) (nl2 : Bool) (ks : List GTerm) (i : Nat) (hi : i < ks.length) (nlc : Bool) (ctx : Wf) (R : Res) (hR : R.fine)
  (hk : Qe Tryz.prog Wq [s.lv, LC nlc ctx, (ks[i]).lv] R.told) : Qe Tryz.prog Yd [s.lv, LC nlc ctx, (GTerm.mk op n nl1 gty nl2 ks).lv, N i] (ofR i R).told := by
 refine Qe.of_codeOf Znw Qy (by simp) (VU _ (ofR_fine hR)) ?_
 have hix := ZG ks false nl2 i hi
 simp (disch := omega) [ZfX, Qw, Qu, GTerm.cells, hix]
 refine Qm (Qe.low hk) (by simp) ?_
 rintro r ⟨hr, lo⟩
 cases R with
 | ok x =>
  obtain ⟨u1, u2, u4, n4, rfl⟩ := hr
  have hz : eqB 0 0 = true := by rw [Qc]
  simp (disch := omega) [hz]
  exact ⟨u1, u2, u4, n4, by simp⟩
 | bad f p =>
  obtain ⟨hf, u1, u2, u4, n4, rfl⟩ := hr
  have hf0 : eqB f 0 = false := by rw [Qb]; exact hf
  have hpm : 1 + p.length ≤ WQ := by have := hR.2; unfold WQ; omega
  simp (disch := omega) [hf0, Qn, Wt, hpm]
  exact ⟨hf, u1, u2, true, false, by simp⟩
theorem Zjb {size : Int} {l : List Int} (h : okL size l = true) : ((Qz (hd l)).1 = 0 ↔ hd l = 0) ∧ ((Qz (hd l)).1 = 1 ↔ hd l = 1) ∧ ((Qz (hd l)).1 = 2 ↔ hd l = 2) ∧ ((Qz (hd l)).1 = 3 ↔ QJ (hd l) = true) ∧ ((Qz (hd l)).1 = 4 ↔ W6 (hd l) = true) := by
 have h1 := X6 h
 obtain ⟨a, b, c, d, e, _⟩ := ZB h1.2.1 h1.2.2.1
 exact ⟨a, b, c, d, e⟩
theorem sh00 : (Qz 0).1 = 0 := by decide
theorem fo2 {s : GSys} {n : Int} {i : Nat} : QP s 2 n i 0 = 0 := by simp [QP, Je, sh00]
theorem fo3 {s : GSys} {n : Int} : QP s 3 n 0 0 = 0 := by simp [QP, Je, sh00]
theorem fo_add {s : GSys} {n : Int} {i : Nat} {l : List Int} (h : okL s.size l = true) : QP s 2 n i (hd l) = if hd l = 0 then 0 else 2 := by
 obtain ⟨a, b, c, d, e⟩ := Zjb h
 by_cases q : hd l = 0
 ·simp [QP, Je, q, sh00]
 ·have : ¬ (Qz (hd l)).1 = 0 := fun h => q (a.1 h)
  simp [QP, Je, q, this]
theorem fo_if0 {s : GSys} {n : Int} {l : List Int} (h : okL s.size l = true) : QP s 3 n 0 (hd l) = if hd l = 0 then 0 else 2 := by
 obtain ⟨a, b, c, d, e⟩ := Zjb h
 by_cases q : hd l = 0
 ·simp [QP, Je, q, sh00]
 ·have : ¬ (Qz (hd l)).1 = 0 := fun h => q (a.1 h)
  simp [QP, Je, q, this]
theorem Zad {s : GSys} {op n : Int} {i : Nat} {c : Int} (h : i ≠ 0) (h2 : op ≠ 2) : QP s op n i c = 0 := by
 simp [QP, Je, h, h2]
theorem tell_add {s : GSys} {cx : List (List Int)} {n : Int} {nl1 nl2 : Bool} {gty : List Int} {a b : GTerm} {x : TT} (hA : Qo s cx a = .ok x) (hx : okL s.size x.ty = true) (h0 : hd x.ty = 0) (hb : ∀ y, Qo s cx b = .ok y → okL s.size y.ty = true) :
  Qo s cx (.mk 2 n nl1 gty nl2 [a, b]) = match Qo s cx b with
   | .bad f p => .bad f (1 :: p)
   | .ok y => if hd y.ty = 0 then .ok (.mk [0] (Jr s x.needs y.needs) [x, y]) else .bad 2 [] := by
 cases hB : Qo s cx b with
 | bad f p => simp [Qo, Wd, Qt, Qq, hA, hB, fo2, h0]
 | ok y =>
  have := hb y hB
  by_cases q : hd y.ty = 0
  ·simp [Qo, Wd, Qt, Qq, hA, hB, fo2, h0, q, Wv, ndP]
  ·simp [Qo, Wd, Qt, Qq, hA, hB, fo2, fo_add this, h0, q]
theorem tell_if {s : GSys} {cx : List (List Int)} {n : Int} {nl1 nl2 : Bool} {gty : List Int} {a b c : GTerm} {x : TT} (hA : Qo s cx a = .ok x) (hx : okL s.size x.ty = true) (h0 : hd x.ty = 0) :
  Qo s cx (.mk 3 n nl1 gty nl2 [a, b, c]) = match Qo s cx b with
   | .bad f p => .bad f (1 :: p)
   | .ok y => match Qo s cx c with
    | .bad f p => .bad f (2 :: p)
    | .ok z => if y.ty = z.ty then .ok (.mk y.ty (Jr s x.needs (Jc s y.needs z.needs)) [x, y, z]) else .bad 3 [] := by
 cases hB : Qo s cx b with
 | bad f p => simp [Qo, Wd, Qt, Qq, hA, hB, fo3, h0]
 | ok y =>
  cases hC : Qo s cx c with
  | bad f p => simp [Qo, Wd, Qt, Qq, hA, hB, hC, fo3, h0, Zad]
  | ok z =>
   by_cases q : y.ty = z.ty
   ·simp [Qo, Wd, Qt, Qq, hA, hB, hC, fo3, h0, Zad, Wv, tyP, ndP, q]
   ·simp [Qo, Wd, Qt, Qq, hA, hB, hC, fo3, h0, Zad, Wv, tyP, ndP, q]
end Go.Proofs.YtclfngbealdbgaaGreat
namespace Go.Proofs.YtclfngbealdbgaaGreat
open Go Go.TL
open Go.Proofs.YtclfngbealdbgaaGreat.Ty
set_option linter.unusedSimpArgs false
set_option linter.unusedVariables false
set_option maxRecDepth 20000
set_option maxHeartbeats 4000000
def ZF (ty nd : List Int) (ks : List TT) : Res := if ty.length ≤ 40 then .ok (.mk ty nd ks) else .bad 3 []
section
variable {s : GSys} {cx : List (List Int)} {n : Int} {nl1 nl2 : Bool} {gty : List Int} {a b c : GTerm} {x : TT}
theorem Yw {op : Int} {ks : List GTerm} {f : Int} {p : List Int} (h : Qo s (Qt op gty 0 [] ++ cx) a = .bad f p) : Qo s cx (.mk op n nl1 gty nl2 (a :: ks)) = .bad f (0 :: p) := by
 have h' : Qo s (Qt op gty 0 (first []) ++ cx) a = .bad f p := h
 simp [Qo, Wd, h']
theorem tell_var : Qo s cx (.mk 0 n nl1 gty nl2 []) = .ok (.mk (cx.getD n.toNat []) ((WB cx.length).set n.toNat 1) []) := by simp [Qo, Wd, Wv]
theorem tell_num : Qo s cx (.mk 1 n nl1 gty nl2 []) = .ok (.mk [0] (WB cx.length) []) := by simp [Qo, Wd, Wv]
theorem KM {op n : Int} {i : Nat} {c : Int} (h : op = 4 ∨ op = 6 ∨ op = 7 ∨ op = 9 ∨ op = 11) : QP s op n i c = 0 := by
 rcases h with rfl | rfl | rfl | rfl | rfl <;> simp [QP, Je]
theorem fo_sh {op n : Int} {w f : Int} {l : List Int} (hw : Je op 0 = (w, f)) (hw0 : 0 ≤ w) (ho : op = 5 ∨ op = 8 ∨ op = 12) {q : Prop} [Decidable q] (hq : (Qz (hd l)).1 = w ↔ q) : QP s op n 0 (hd l) = if q then (if s.le 1 n = true then 0 else 8) else f := by
 unfold QP
 rw [hw]
 by_cases h : q
 ·rw [if_neg (by simp [hq.2 h]), if_pos h]
  cases g : s.le 1 n <;> simp [ho]
 ·have : (Qz (hd l)).1 ≠ w := fun e => h (hq.1 e)
  rw [if_pos ⟨hw0, this⟩, if_neg h]
theorem Zp8 (hA : Qo s cx a = .ok x) : Qo s cx (.mk 4 n nl1 gty nl2 [a, b]) = match Qo s cx b with
  | .bad f p => .bad f (1 :: p)
  | .ok y => ZF (1 :: (x.ty ++ y.ty)) (Jr s x.needs y.needs) [x, y] := by
 cases hB : Qo s cx b with
 | bad f p => simp [Qo, Wd, Qt, Qq, hA, hB, KM]
 | ok y =>
  by_cases q : (1 :: (x.ty ++ y.ty)).length ≤ 40
  ·simp [Qo, Wd, Qt, Qq, hA, hB, KM, Wv, ndP, tyP, Yg, ZF, q]
   simp at q
   simp [q]
  ·simp [Qo, Wd, Qt, Qq, hA, hB, KM, Wv, ndP, tyP, Yg, ZF, q]
   simp at q
   simp [Nat.not_le.2 q]
theorem Zqa (hA : Qo s cx a = .ok x) : Qo s cx (.mk 6 n nl1 gty nl2 [a]) = ZF (2 :: (x.ty ++ gty)) x.needs [x] := by
 by_cases q : (2 :: (x.ty ++ gty)).length ≤ 40
 ·simp [Qo, Wd, Qt, Qq, hA, KM, Wv, ndP, tyP, Yg, ZF, q]
  simp at q
  simp [q]
 ·simp [Qo, Wd, Qt, Qq, hA, KM, Wv, ndP, tyP, Yg, ZF, q]
  simp at q
  simp [Nat.not_le.2 q]
theorem Zoq (hA : Qo s cx a = .ok x) : Qo s cx (.mk 7 n nl1 gty nl2 [a]) = ZF (2 :: (gty ++ x.ty)) x.needs [x] := by
 by_cases q : (2 :: (gty ++ x.ty)).length ≤ 40
 ·simp [Qo, Wd, Qt, Qq, hA, KM, Wv, ndP, tyP, Yg, ZF, q]
  simp at q
  simp [q]
 ·simp [Qo, Wd, Qt, Qq, hA, KM, Wv, ndP, tyP, Yg, ZF, q]
  simp at q
  simp [Nat.not_le.2 q]
theorem tell_fun (hA : Qo s (gty :: cx) a = .ok x) : Qo s cx (.mk 9 n nl1 gty nl2 [a]) = if WY s (x.needs.take 1) n = true then ZF ((3 + n) :: (gty ++ x.ty)) (x.needs.drop 1) [x] else .bad 9 [] := by
 by_cases u : WY s (x.needs.take 1) n = true
 ·rw [if_pos u]
  by_cases q : ((3 + n) :: (gty ++ x.ty)).length ≤ 40
  ·simp [Qo, Wd, Qt, Qq, hA, KM, Wv, ndP, tyP, usP, u, Yg, ZF, q]
   simp at q
   simp [q]
  ·simp [Qo, Wd, Qt, Qq, hA, KM, Wv, ndP, tyP, usP, u, Yg, ZF, q]
   simp at q
   simp [Nat.not_le.2 q]
 ·rw [if_neg u]
  simp [Qo, Wd, Qt, Qq, hA, KM, Wv, ndP, tyP, usP, u]
theorem tell_box (hA : Qo s cx a = .ok x) : Qo s cx (.mk 11 n nl1 gty nl2 [a]) = ZF ((19 + n) :: x.ty) (WO s n x.needs) [x] := by
 by_cases q : ((19 + n) :: x.ty).length ≤ 40
 ·simp [Qo, Wd, Qt, Qq, hA, KM, Wv, ndP, tyP, Yg, ZF, q]
  simp at q
  simp [q]
 ·simp [Qo, Wd, Qt, Qq, hA, KM, Wv, ndP, tyP, Yg, ZF, q]
  simp at q
  simp [Nat.not_le.2 q]
theorem tell_app (hA : Qo s cx a = .ok x) (hx : okL s.size x.ty = true) : Qo s cx (.mk 10 n nl1 gty nl2 [a, b]) = if QJ (hd x.ty) = true then (match Qo s cx b with
  | .bad f p => .bad f (1 :: p)
  | .ok y => if y.ty = QQ x.ty then .ok (.mk (WG x.ty) (Jr s x.needs (WO s (Qz (hd x.ty)).2 y.needs)) [x, y]) else .bad 3 []) else .bad 6 [] := by
 have fo : QP s 10 n 0 (hd x.ty) = if QJ (hd x.ty) = true then 0 else 6 := by
  obtain ⟨_, _, _, d, _⟩ := Zjb hx
  by_cases q : QJ (hd x.ty) = true
  ·simp [QP, Je, q, d.2 q]
  ·have : ¬ (Qz (hd x.ty)).1 = 3 := fun h => q (d.1 h)
   simp [QP, Je, q, this]
 by_cases q : QJ (hd x.ty) = true
 ·rw [if_pos q]
  rw [if_pos q] at fo
  cases hB : Qo s cx b with
  | bad f p => simp [Qo, Wd, Qt, Qq, hA, hB, fo]
  | ok y =>
   by_cases e : y.ty = QQ x.ty
   ·simp [Qo, Wd, Qt, Qq, hA, hB, fo, Zad, first, tyP, e, Wv, ndP]
   ·simp [Qo, Wd, Qt, Qq, hA, hB, fo, Zad, first, tyP, e]
 ·rw [if_neg q]
  rw [if_neg q] at fo
  simp [Qo, Wd, Qt, Qq, hA, fo]
theorem Zo6 (hA : Qo s cx a = .ok x) (hx : okL s.size x.ty = true) : Qo s cx (.mk 5 n nl1 gty nl2 [a, b]) = if hd x.ty = 1 then (if s.le 1 n = true then (match Qo s (WG x.ty :: QQ x.ty :: cx) b with
  | .bad f p => .bad f (1 :: p)
  | .ok y => if WY s (y.needs.take 2) n = true then .ok (.mk y.ty (Jr s (WO s n x.needs) (y.needs.drop 2)) [x, y]) else .bad 9 []) else .bad 8 []) else .bad 4 [] := by
 have fo := fo_sh (s := s) (op := 5) (n := n) (w := 1) (f := 4) (l := x.ty) rfl (by omega) (by simp) (Zjb hx).2.1
 by_cases q : hd x.ty = 1
 ·rw [if_pos q] at fo ⊢
  by_cases l : s.le 1 n = true
  ·rw [if_pos l] at fo ⊢
   cases hB : Qo s (WG x.ty :: QQ x.ty :: cx) b with
   | bad f p => simp [Qo, Wd, Qt, Qq, hA, hB, fo, first, tyP]
   | ok y =>
    by_cases u : WY s (y.needs.take 2) n = true
    ·simp [Qo, Wd, Qt, Qq, hA, hB, fo, Zad, first, tyP, Wv, ndP, usP, u]
    ·simp [Qo, Wd, Qt, Qq, hA, hB, fo, Zad, first, tyP, Wv, ndP, usP, u]
  ·rw [if_neg l] at fo ⊢
   simp [Qo, Wd, Qt, Qq, hA, fo]
 ·rw [if_neg q] at fo ⊢
  simp [Qo, Wd, Qt, Qq, hA, fo]
theorem Zp4 (hA : Qo s cx a = .ok x) (hx : okL s.size x.ty = true) : Qo s cx (.mk 12 n nl1 gty nl2 [a, b]) = if W6 (hd x.ty) = true then (if s.le 1 n = true then (match Qo s (QQ x.ty :: cx) b with
  | .bad f p => .bad f (1 :: p)
  | .ok y => if WY s (y.needs.take 1) (s.tm n (Qz (hd x.ty)).2) = true then .ok (.mk y.ty (Jr s (WO s n x.needs) (y.needs.drop 1)) [x, y]) else .bad 9 []) else .bad 8 []) else .bad 7 [] := by
 have fo := fo_sh (s := s) (op := 12) (n := n) (w := 4) (f := 7) (l := x.ty) rfl (by omega) (by simp) (Zjb hx).2.2.2.2
 by_cases q : W6 (hd x.ty) = true
 ·rw [if_pos q] at fo ⊢
  by_cases l : s.le 1 n = true
  ·rw [if_pos l] at fo ⊢
   cases hB : Qo s (QQ x.ty :: cx) b with
   | bad f p => simp [Qo, Wd, Qt, Qq, hA, hB, fo, first, tyP]
   | ok y =>
    by_cases u : WY s (y.needs.take 1) (s.tm n (Qz (hd x.ty)).2) = true
    ·simp [Qo, Wd, Qt, Qq, hA, hB, fo, Zad, first, tyP, Wv, ndP, usP, u]
    ·simp [Qo, Wd, Qt, Qq, hA, hB, fo, Zad, first, tyP, Wv, ndP, usP, u]
  ·rw [if_neg l] at fo ⊢
   simp [Qo, Wd, Qt, Qq, hA, fo]
 ·rw [if_neg q] at fo ⊢
  simp [Qo, Wd, Qt, Qq, hA, fo]
theorem Zqu (hA : Qo s cx a = .ok x) (hx : okL s.size x.ty = true) : Qo s cx (.mk 8 n nl1 gty nl2 [a, b, c]) = if hd x.ty = 2 then (if s.le 1 n = true then (match Qo s (QQ x.ty :: cx) b with
  | .bad f p => .bad f (1 :: p)
  | .ok y => match Qo s (WG x.ty :: cx) c with
   | .bad f p => .bad f (2 :: p)
   | .ok z => if y.ty = z.ty then (if WY s (y.needs.take 1) n = true ∧ WY s (z.needs.take 1) n = true then .ok (.mk y.ty (Jr s (WO s n x.needs) (Jc s (y.needs.drop 1) (z.needs.drop 1))) [x, y, z]) else .bad 9 []) else .bad 3 []) else .bad 8 []) else .bad 5 [] := by
 have fo := fo_sh (s := s) (op := 8) (n := n) (w := 2) (f := 5) (l := x.ty) rfl (by omega) (by simp) (Zjb hx).2.2.1
 by_cases q : hd x.ty = 2
 ·rw [if_pos q] at fo ⊢
  by_cases l : s.le 1 n = true
  ·rw [if_pos l] at fo ⊢
   cases hB : Qo s (QQ x.ty :: cx) b with
   | bad f p => simp [Qo, Wd, Qt, Qq, hA, hB, fo, first, tyP]
   | ok y =>
    cases hC : Qo s (WG x.ty :: cx) c with
    | bad f p => simp [Qo, Wd, Qt, Qq, hA, hB, hC, fo, Zad, first, tyP]
    | ok z =>
     by_cases e : y.ty = z.ty
     ·by_cases u : WY s (y.needs.take 1) n = true ∧ WY s (z.needs.take 1) n = true
      ·simp [Qo, Wd, Qt, Qq, hA, hB, hC, fo, Zad, first, tyP, Wv, ndP, usP, u, e]
      ·simp [Qo, Wd, Qt, Qq, hA, hB, hC, fo, Zad, first, tyP, Wv, ndP, usP, u, e]
     ·simp [Qo, Wd, Qt, Qq, hA, hB, hC, fo, Zad, first, tyP, Wv, ndP, usP, e]
  ·rw [if_neg l] at fo ⊢
   simp [Qo, Wd, Qt, Qq, hA, fo]
 ·rw [if_neg q] at fo ⊢
  simp [Qo, Wd, Qt, Qq, hA, fo]
end
end Go.Proofs.YtclfngbealdbgaaGreat
namespace Go.Proofs.YtclfngbealdbgaaGreat
open Go Go.TL
open Go.Proofs.YtclfngbealdbgaaGreat.Ty
set_option linter.unusedSimpArgs false
set_option linter.unusedVariables false
set_option maxRecDepth 20000
set_option maxHeartbeats 4000000
theorem one_of {s : GSys} (hs : s.sys = true) {a : Int} (ha : s.G a) : s.pl 0 a = a ∧ s.tm 1 a = a := by
 unfold GSys.sys at hs
 rw [Bool.and_eq_true, Jt] at hs
 have h := hs.2 a.toNat (by have := ha.1; have := ha.2; omega)
 unfold GSys.sysB at h
 rw [Bool.and_eq_true] at h
 have h := h.1
 unfold GSys.one at h
 simp only [Bool.and_eq_true, Qc] at h
 have e1 : ((a.toNat : Nat) : Int) = a := by have := ha.1; omega
 rw [e1] at h
 exact ⟨h.1.1.1.1.1, h.1.1.1.1.2⟩
theorem VW {s : GSys} (hs : s.sys = true) : ∀ (a b : List Int), (∀ u ∈ b, s.G u) → Zd1 s a 1 b = Jr s a b
 | [], b, _ => by simp [Zd1, Jr]
 | x :: a, [], _ => by simp [Zd1, Jr]
 | x :: a, y :: b, h => by
  have := VW hs a b fun u hu => h u (by simp [hu])
  simp only [Zd1, Jr, List.zipWith_cons_cons] at this ⊢
  rw [this, (one_of hs (h y (by simp))).2]
theorem ZcC {s : GSys} (hs : s.sys = true) (g : Int) : ∀ (a : List Int), Zd1 s (WB a.length) g a = WO s g a
 | [] => by simp [Zd1, WO]
 | x :: a => by
  have := ZcC hs g a
  simp only [Zd1, WO, WB, List.length_cons, List.replicate_succ, List.zipWith_cons_cons, List.map_cons] at this ⊢
  rw [this, (one_of hs (GSys.Gtm (GSys.sys_of hs) g x)).1]
theorem Wz {s : GSys} {cx : List (List Int)} {g : GTerm} (h : g.size ≤ 1000000) : (Qo s cx g).fine := by
 cases e : Qo s cx g with
 | ok x => exact trivial
 | bad f p => exact ⟨YZ g cx f p e, by have := Vj g cx f p e; omega⟩
abbrev aLV (x : TT) (n4 : Bool) : LV := .agg [L false x.ty, L false x.needs, N 0, .sl false n4 1 []]
section
variable {s : GSys} (hsy : s.sys = true) (nlc : Bool) (ctx : Wf) (hcl : ctx.length ≤ 100000)
include hsy hcl
theorem Zjx (n : Int) (nl1 : Bool) (gty : List Int) (nl2 : Bool) (a b : GTerm) (x : TT) (n4 : Bool) (hxg : x.good s ctx.length) (hA : Qo s (ctx.map Prod.snd) a = .ok x) (h0 : hd x.ty = 0) (hbs : b.size ≤ 1000000)
  (hb : Qe Tryz.prog Wq [s.lv, LC nlc ctx, b.lv] (Qo s (ctx.map Prod.snd) b).told) (hbg : ∀ y, Qo s (ctx.map Prod.snd) b = .ok y → y.good s ctx.length) :
  Qe Tryz.prog Zq [s.lv, LC nlc ctx, (GTerm.mk 2 n nl1 gty nl2 [a, b]).lv, aLV x n4] (Qo s (ctx.map Prod.snd) (GTerm.mk 2 n nl1 gty nl2 [a, b])).told := by
 have t := GSys.sys_of hsy
 have T := tell_add (n := n) (nl1 := nl1) (nl2 := nl2) (gty := gty) hA hxg.1 h0 (fun y h => (hbg y h).1)
 refine Qe.of_codeOf Zap Qy (by simp) (VU _ fun f p h => YZ _ _ f p h) ?_
 have of := XC s 2 n nl1 gty nl2 [a, b] 1 (by simp) nlc ctx _ (Wz hbs) hb
 simp only [GTerm.lv, GTerm.cells] at of
 simp (disch := omega) [JZ, Qw, Qu, GTerm.cells]
 refine Qm (Qe.low of) (by simp) ?_
 rintro r ⟨hr, lo⟩
 rw [T]
 cases hB : Qo s (ctx.map Prod.snd) b with
 | bad f p =>
  rw [hB] at hr
  simp only [ofR] at hr
  obtain ⟨hf, u1, u2, u4, n4', rfl⟩ := hr
  have hf0 : eqB f 0 = false := by rw [Qb]; exact hf
  simp (disch := omega) [Qw, Qu, hf0]
  exact ⟨hf, false, false, false, n4', by simp⟩
 | ok y =>
  have hyg := hbg y hB
  rw [hB] at hr
  simp only [ofR] at hr
  obtain ⟨u1, u2, u4, n4', rfl⟩ := hr
  have hz : eqB 0 0 = true := by rw [Qc]
  have hy := X6 hyg.1
  have hyi : QF 1 (L false y.ty) 0 = some (.rp [N (hd y.ty)]) := ZH hy.2.2.2.1
  by_cases q : hd y.ty = 0
  ·have hn := okL_none hyg.1 (by rw [q]; decide)
   rw [q] at hn
   have hq0 : eqB (hd y.ty) 0 = true := by rw [Qc]; exact q
   simp (disch := omega) [Qw, Qu, hz, hyi, hq0]
   refine Qa (YS t false false x.needs 1 (GSys.G1 t) y.needs (by rw [hxg.2.1]; omega) (by rw [hxg.2.1, hyg.2.1]) hxg.2.2 hyg.2.2) (by simp) ?_
   rw [VW hsy _ _ hyg.2.2]
   simp (disch := omega) [q, hn]
   exact ⟨false, true, true, true, by simp⟩
  ·have hq0 : eqB (hd y.ty) 0 = false := by rw [Qb]; exact q
   simp (disch := omega) [Qw, Qu, hz, hyi, hq0]
   refine Qm (Qe.low (Xa 2 (by omega))) (by simp) ?_
   rintro r ⟨⟨h3, v1, v2, v4, m4, rfl⟩, lo⟩
   simp (disch := omega) [q]
   exact ⟨by omega, v1, v2, v4, m4, by simp⟩
theorem Zlj (n : Int) (nl1 : Bool) (gty : List Int) (nl2 : Bool) (a b c : GTerm) (x : TT) (n4 : Bool) (hxg : x.good s ctx.length) (hA : Qo s (ctx.map Prod.snd) a = .ok x) (h0 : hd x.ty = 0) (hbs : b.size ≤ 1000000) (hcs : c.size ≤ 1000000)
  (hb : Qe Tryz.prog Wq [s.lv, LC nlc ctx, b.lv] (Qo s (ctx.map Prod.snd) b).told) (hbg : ∀ y, Qo s (ctx.map Prod.snd) b = .ok y → y.good s ctx.length)
  (hc : Qe Tryz.prog Wq [s.lv, LC nlc ctx, c.lv] (Qo s (ctx.map Prod.snd) c).told) (hcg : ∀ y, Qo s (ctx.map Prod.snd) c = .ok y → y.good s ctx.length) :
  Qe Tryz.prog Zq [s.lv, LC nlc ctx, (GTerm.mk 3 n nl1 gty nl2 [a, b, c]).lv, aLV x n4] (Qo s (ctx.map Prod.snd) (GTerm.mk 3 n nl1 gty nl2 [a, b, c])).told := by
 have t := GSys.sys_of hsy
 have T := tell_if (n := n) (nl1 := nl1) (nl2 := nl2) (gty := gty) (b := b) (c := c) hA hxg.1 h0
 refine Qe.of_codeOf Zap Qy (by simp) (VU _ fun f p h => YZ _ _ f p h) ?_
 have of := XC s 3 n nl1 gty nl2 [a, b, c] 1 (by simp) nlc ctx _ (Wz hbs) hb
 have of2 := XC s 3 n nl1 gty nl2 [a, b, c] 2 (by simp) nlc ctx _ (Wz hcs) hc
 simp only [GTerm.lv, GTerm.cells] at of of2
 have hz : eqB 0 0 = true := by rw [Qc]
 have e32 : eqB 3 2 = false := by rw [Qb]; omega
 simp (disch := omega) [JZ, Qw, Qu, GTerm.cells]
 refine Qm (Qe.low of) (by simp) ?_
 rintro r ⟨hr, lo⟩
 rw [T]
 cases hB : Qo s (ctx.map Prod.snd) b with
 | bad f p =>
  rw [hB] at hr
  simp only [ofR] at hr
  obtain ⟨hf, u1, u2, u4, n4', rfl⟩ := hr
  have hf0 : eqB f 0 = false := by rw [Qb]; exact hf
  simp (disch := omega) [Qw, Qu, hf0]
  exact ⟨hf, false, false, false, n4', by simp⟩
 | ok y =>
  have hyg := hbg y hB
  rw [hB] at hr
  simp only [ofR] at hr
  obtain ⟨u1, u2, u4, n4', rfl⟩ := hr
  simp (disch := omega) [Qw, Qu, hz, e32]
  refine Qm (Qe.low of2) (by simp) ?_
  rintro r ⟨hr, lo⟩
  cases hC : Qo s (ctx.map Prod.snd) c with
  | bad f p =>
   rw [hC] at hr
   simp only [ofR] at hr
   obtain ⟨hf, v1, v2, v4, m4', rfl⟩ := hr
   have hf0 : eqB f 0 = false := by rw [Qb]; exact hf
   simp (disch := omega) [Qw, Qu, hf0]
   exact ⟨hf, false, false, false, m4', by simp⟩
  | ok z =>
   have hzg := hcg z hC
   rw [hC] at hr
   simp only [ofR] at hr
   obtain ⟨v1, v2, v4, m4', rfl⟩ := hr
   simp (disch := omega) [Qw, Qu, hz]
   have ly := QM hyg.1
   have sm := ZfR false false y.ty z.ty (by omega)
   refine Qa sm (by simp) ?_
   cases he : (y.ty == z.ty)
   ·have he' : y.ty ≠ z.ty := by simpa using he
    simp (disch := omega)
    refine Qm (Qe.low (Xa 3 (by omega))) (by simp) ?_
    rintro r ⟨⟨h3, w1, w2, w4, k4, rfl⟩, lo⟩
    simp (disch := omega) [he']
    exact ⟨by omega, w1, w2, w4, k4, by simp⟩
   ·have he' : y.ty = z.ty := by simpa using he
    simp (disch := omega)
    have jn := ZkI t false false y.needs z.needs (by rw [hyg.2.1]; omega) (by rw [hyg.2.1, hzg.2.1]) hyg.2.2 hzg.2.2
    refine Qa jn (by simp) ?_
    have jl := ZcO (s := s) hyg.2.1 hzg.2.1
    have jg : ∀ u ∈ Jc s y.needs z.needs, s.G u := fun u hu => Zlq hsy u hu hyg.2.2 hzg.2.2
    simp (disch := omega)
    have sm := YS t false false x.needs 1 (GSys.G1 t) (Jc s y.needs z.needs) (by rw [hxg.2.1]; omega) (by rw [hxg.2.1, jl]) hxg.2.2 jg
    refine Qa sm (by simp) ?_
    rw [VW hsy _ _ jg]
    simp (disch := omega) [he']
    exact ⟨false, true, true, true, by simp [he']⟩
end
end Go.Proofs.YtclfngbealdbgaaGreat
namespace Go.Proofs.YtclfngbealdbgaaGreat
open Go Go.TL
open Go.Proofs.YtclfngbealdbgaaGreat.Ty
set_option linter.unusedSimpArgs false
set_option linter.unusedVariables false
set_option maxRecDepth 20000
set_option maxHeartbeats 4000000
theorem used1 {s : GSys} {l : List Int} {g : Int} (h : 1 ≤ l.length) : WY s (l.take 1) g = s.le (l.getD 0 0) g := by
 cases l with
 | nil => simp at h
 | cons a l => simp [WY]
theorem used2 {s : GSys} {l : List Int} {g : Int} (h : 2 ≤ l.length) : WY s (l.take 2) g = (s.le (l.getD 0 0) g && s.le (l.getD 1 0) g) := by
 match l, h with
 | [], h => simp at h
 | [_], h => simp at h
 | a :: b :: l, _ => simp [WY]
theorem Zfq {s : GSys} {l : List Int} {i : Nat} (h : ∀ u ∈ l, s.G u) (hi : i < l.length) : s.G (l.getD i 0) := by
 rw [List.getD_eq_getElem?_getD, List.getElem?_eq_getElem hi]; exact h _ (List.getElem_mem _)
theorem Zk1 {l : List Int} {i : Nat} (hi : i < l.length) : QF 1 (L false l) (i : Int) = some (.rp [N (l.getD i 0)]) := by
 have := Xj l false false i (by omega) (by omega)
 simpa using this
section
variable {s : GSys} (hsy : s.sys = true) (nlc : Bool) (ctx : Wf) (hcl : ctx.length ≤ 100000)
include hsy hcl
theorem Zjt (n : Int) (nl1 : Bool) (gty : List Int) (nl2 : Bool) (a b : GTerm) (x : TT) (n4 : Bool) (hn : s.G n) (hxg : x.good s ctx.length) (hA : Qo s (ctx.map Prod.snd) a = .ok x) (hbs : b.size ≤ 1000000)
  (hb : hd x.ty = 1 → Qe Tryz.prog Wq [s.lv, LC false ((false, WG x.ty) :: (false, QQ x.ty) :: ctx), b.lv] (Qo s (WG x.ty :: QQ x.ty :: ctx.map Prod.snd) b).told)
  (hbg : hd x.ty = 1 → ∀ y, Qo s (WG x.ty :: QQ x.ty :: ctx.map Prod.snd) b = .ok y → y.good s (ctx.length + 2)) :
  Qe Tryz.prog Ze [s.lv, LC nlc ctx, (GTerm.mk 5 n nl1 gty nl2 [a, b]).lv, aLV x n4] (Qo s (ctx.map Prod.snd) (GTerm.mk 5 n nl1 gty nl2 [a, b])).told := by
 have t := GSys.sys_of hsy
 have T := Zo6 (n := n) (nl1 := nl1) (nl2 := nl2) (gty := gty) (b := b) hA hxg.1
 refine Qe.of_codeOf Vq Qy (by simp) (VU _ fun f p h => YZ _ _ f p h) ?_
 rw [T]
 have hx := X6 hxg.1
 have hxi : QF 1 (L false x.ty) 0 = some (.rp [N (hd x.ty)]) := ZH hx.2.2.2.1
 have e55 : eqB 5 5 = true := by rw [Qc]
 have e58 : eqB 5 8 = false := by rw [Qb]; omega
 have e512 : eqB 5 12 = false := by rw [Qb]; omega
 have hz : eqB 0 0 = true := by rw [Qc]
 by_cases q : hd x.ty = 1
 ·have hq : eqB (hd x.ty) 1 = true := by rw [Qc]; exact q
  have hk : WC (hd x.ty) = some 2 := by rw [q]; exact XB.1
  simp (disch := omega) [X2, Qw, Qu, GTerm.cells, hxi, hq, e55, e58, e512]
  refine Qa (YK t (GSys.G1 t) hn) (by simp) ?_
  rw [if_pos q]
  cases hl : s.le 1 n
  ·simp (disch := omega)
   refine Qm (Qe.low (Xa 8 (by omega))) (by simp) ?_
   rintro r ⟨⟨h3, w1, w2, w4, k4, rfl⟩, lo⟩
   simp (disch := omega)
   exact ⟨by omega, w1, w2, w4, k4, by simp⟩
  ·have p0 := Jb hxg.1 0 (.inr hk)
   have p1 := Jb hxg.1 1 (.inr hk)
   simp (disch := omega)
   refine Qa p0 (by simp) ?_
   simp (disch := omega) [Qn]
   refine Qa p1 (by simp) ?_
   simp (disch := omega) [Qn]
   refine Qa p0 (by simp) ?_
   simp (disch := omega) [Qn]
   have w := Jn nlc false ctx [(false, WG x.ty), (false, QQ x.ty)] (by omega) (by simp)
   simp only [List.map_cons, List.map_nil, List.cons_append, List.nil_append] at w
   refine Qa w (by simp) ?_
   have of := XC s 5 n nl1 gty nl2 [a, b] 1 (by simp) false ((false, WG x.ty) :: (false, QQ x.ty) :: ctx) _ (Wz hbs) (hb q)
   simp only [GTerm.lv, GTerm.cells, List.map_cons] at of
   simp (disch := omega) [Qn]
   refine Qm (Qe.low of) (by simp) ?_
   rintro r ⟨hr, lo⟩
   cases hB : Qo s (WG x.ty :: QQ x.ty :: ctx.map Prod.snd) b with
   | bad f p =>
    rw [hB] at hr
    simp only [ofR] at hr
    obtain ⟨hf, u1, u2, u4, n4', rfl⟩ := hr
    have hf0 : eqB f 0 = false := by rw [Qb]; exact hf
    simp (disch := omega) [Qw, Qu, hf0]
    exact ⟨hf, false, false, false, n4', by simp⟩
   | ok y =>
    have hyg := hbg q y hB
    rw [hB] at hr
    simp only [ofR] at hr
    obtain ⟨u1, u2, u4, n4', rfl⟩ := hr
    have hyl := hyg.2.1
    have c2 : ZE 1 (L false y.needs) (some 2) none none = some (L false (y.needs.drop 2)) := YT (k := 2) (by omega)
    have i0 : QF 1 (L false y.needs) 0 = some (.rp [N (y.needs.getD 0 0)]) := Zk1 (i := 0) (by omega)
    have i1 : QF 1 (L false y.needs) 1 = some (.rp [N (y.needs.getD 1 0)]) := Zk1 (i := 1) (by omega)
    have g0 := Zfq hyg.2.2 (show 0 < y.needs.length by omega)
    have g1 := Zfq hyg.2.2 (show 1 < y.needs.length by omega)
    have cp := Jf false (y.needs.drop 2) (by simp; omega)
    have dl : (y.needs.drop 2).length = ctx.length := by simp; omega
    have dg : ∀ u ∈ y.needs.drop 2, s.G u := fun u hu => hyg.2.2 u (List.mem_of_mem_drop hu)
    have us := used2 (s := s) (l := y.needs) (g := n) (by omega)
    generalize y.needs.getD 0 0 = y0 at *
    generalize y.needs.getD 1 0 = y1 at *
    obtain ⟨yr, hyr⟩ : ∃ yr, yr = y.needs.drop 2 := ⟨_, rfl⟩
    rw [← hyr] at c2 cp dl dg
    simp (disch := omega) [Qw, Qu, hz, c2]
    refine Qa cp (by simp) ?_
    simp (disch := omega) [e512, e55, i1]
    refine Qa (YK t g1 hn) (by simp) ?_
    cases hu1 : s.le y1 n
    ·simp (disch := omega) [i0]
     refine Qm (Qe.low (Xa 9 (by omega))) (by simp) ?_
     rintro r ⟨⟨h3, w1, w2, w4, k4, rfl⟩, lo⟩
     simp (disch := omega) [us, hu1]
     exact ⟨by omega, w1, w2, w4, k4, by simp⟩
    ·simp (disch := omega) [i0]
     refine Qa (YK t g0 hn) (by simp) ?_
     cases hu0 : s.le y0 n
     ·simp (disch := omega)
      refine Qm (Qe.low (Xa 9 (by omega))) (by simp) ?_
      rintro r ⟨⟨h3, w1, w2, w4, k4, rfl⟩, lo⟩
      simp (disch := omega) [us, hu1, hu0]
      exact ⟨by omega, w1, w2, w4, k4, by simp⟩
     ·have zr := Ve ctx.length (by omega)
      have sc := YS t false false (WB ctx.length) n hn x.needs (by simp [WB]; omega) (by rw [hxg.2.1]; simp [WB]) (Zaj t _).2 hxg.2.2
      have e1 := ZcC hsy n x.needs
      rw [hxg.2.1] at e1
      rw [e1] at sc
      have so := X8 t (g := n) hxg.2.1
      have s2 := YS t false false (WO s n x.needs) 1 (GSys.G1 t) yr (by rw [so.1]; omega) (by rw [so.1, dl]) so.2 dg
      rw [VW hsy _ _ dg] at s2
      simp (disch := omega)
      refine Qa zr (by simp) ?_
      simp (disch := omega)
      refine Qa sc (by simp) ?_
      simp (disch := omega)
      refine Qa s2 (by simp) ?_
      simp (disch := omega) [us, hu1, hu0]
      exact ⟨false, true, true, true, by simp [hyr]⟩
 ·have hq : eqB (hd x.ty) 1 = false := by rw [Qb]; exact q
  rw [if_neg q]
  simp (disch := omega) [X2, Qw, Qu, GTerm.cells, hxi, hq, e55, e58, e512]
  refine Qm (Qe.low (Xa 4 (by omega))) (by simp) ?_
  rintro r ⟨⟨h3, w1, w2, w4, k4, rfl⟩, lo⟩
  simp (disch := omega)
  exact ⟨by omega, w1, w2, w4, k4, by simp⟩
theorem Zmu (n : Int) (nl1 : Bool) (gty : List Int) (nl2 : Bool) (a b : GTerm) (x : TT) (n4 : Bool) (hn : s.G n) (hxg : x.good s ctx.length) (hA : Qo s (ctx.map Prod.snd) a = .ok x) (hbs : b.size ≤ 1000000)
  (hb : W6 (hd x.ty) = true → Qe Tryz.prog Wq [s.lv, LC false ((false, QQ x.ty) :: ctx), b.lv] (Qo s (QQ x.ty :: ctx.map Prod.snd) b).told)
  (hbg : W6 (hd x.ty) = true → ∀ y, Qo s (QQ x.ty :: ctx.map Prod.snd) b = .ok y → y.good s (ctx.length + 1)) :
  Qe Tryz.prog Ze [s.lv, LC nlc ctx, (GTerm.mk 12 n nl1 gty nl2 [a, b]).lv, aLV x n4] (Qo s (ctx.map Prod.snd) (GTerm.mk 12 n nl1 gty nl2 [a, b])).told := by
 have t := GSys.sys_of hsy
 have T := Zp4 (n := n) (nl1 := nl1) (nl2 := nl2) (gty := gty) (b := b) hA hxg.1
 refine Qe.of_codeOf Vq Qy (by simp) (VU _ fun f p h => YZ _ _ f p h) ?_
 rw [T]
 have hx := X6 hxg.1
 have hxi : QF 1 (L false x.ty) 0 = some (.rp [N (hd x.ty)]) := ZH hx.2.2.2.1
 have e55 : eqB 12 5 = false := by rw [Qb]; omega
 have e58 : eqB 12 8 = false := by rw [Qb]; omega
 have e512 : eqB 12 12 = true := by rw [Qc]
 have hz : eqB 0 0 = true := by rw [Qc]
 by_cases q : W6 (hd x.ty) = true
 ·have hk : WC (hd x.ty) = some 1 := ZcK q
  have hsg : (Qz (hd x.ty)).2 = Wp (hd x.ty) := (ZB hx.2.1 hx.2.2.1).2.2.2.2.2 (.inr q)
  have hgc := J1 hx.1 (.inr q)
  have hgG : s.G (Wp (hd x.ty)) := hgc
  rw [hsg]
  simp (disch := omega) [X2, Qw, Qu, GTerm.cells, hxi, e55, e58, e512]
  refine Qa (Zoj (hd x.ty)) (by simp) ?_
  simp (disch := omega) [q]
  refine Qa (YK t (GSys.G1 t) hn) (by simp) ?_
  cases hl : s.le 1 n
  ·simp (disch := omega)
   refine Qm (Qe.low (Xa 8 (by omega))) (by simp) ?_
   rintro r ⟨⟨h3, w1, w2, w4, k4, rfl⟩, lo⟩
   simp (disch := omega)
   exact ⟨by omega, w1, w2, w4, k4, by simp⟩
  ·have p0 := Jb hxg.1 0 (.inl hk)
   simp (disch := omega)
   refine Qa p0 (by simp) ?_
   simp (disch := omega) [Qn, e55]
   have w := Jn nlc false ctx [(false, QQ x.ty)] (by omega) (by simp)
   simp only [List.map_cons, List.map_nil, List.cons_append, List.nil_append] at w
   refine Qa w (by simp) ?_
   have of := XC s 12 n nl1 gty nl2 [a, b] 1 (by simp) false ((false, QQ x.ty) :: ctx) _ (Wz hbs) (hb q)
   simp only [GTerm.lv, GTerm.cells, List.map_cons] at of
   simp (disch := omega) [Qn]
   refine Qm (Qe.low of) (by simp) ?_
   rintro r ⟨hr, lo⟩
   cases hB : Qo s (QQ x.ty :: ctx.map Prod.snd) b with
   | bad f p =>
    rw [hB] at hr
    simp only [ofR] at hr
    obtain ⟨hf, u1, u2, u4, n4', rfl⟩ := hr
    have hf0 : eqB f 0 = false := by rw [Qb]; exact hf
    simp (disch := omega) [Qw, Qu, hf0]
    exact ⟨hf, false, false, false, n4', by simp⟩
   | ok y =>
    have hyg := hbg q y hB
    rw [hB] at hr
    simp only [ofR] at hr
    obtain ⟨u1, u2, u4, n4', rfl⟩ := hr
    have hyl := hyg.2.1
    have c2 : ZE 1 (L false y.needs) (some 1) none none = some (L false (y.needs.drop 1)) := YT (k := 1) (by omega)
    have i0 : QF 1 (L false y.needs) 0 = some (.rp [N (y.needs.getD 0 0)]) := Zk1 (i := 0) (by omega)
    have g0 := Zfq hyg.2.2 (show 0 < y.needs.length by omega)
    have cp := Jf false (y.needs.drop 1) (by simp; omega)
    have dl : (y.needs.drop 1).length = ctx.length := by simp; omega
    have dg : ∀ u ∈ y.needs.drop 1, s.G u := fun u hu => hyg.2.2 u (List.mem_of_mem_drop hu)
    have us := used1 (s := s) (l := y.needs) (g := s.tm n (Wp (hd x.ty))) (by omega)
    generalize y.needs.getD 0 0 = y0 at *
    obtain ⟨yr, hyr⟩ : ∃ yr, yr = y.needs.drop 1 := ⟨_, rfl⟩
    rw [← hyr] at c2 cp dl dg
    simp (disch := omega) [Qw, Qu, hz, c2]
    refine Qa cp (by simp) ?_
    simp (disch := omega) [e512]
    refine Qa (ZbY (hd x.ty) (by unfold I64; omega) hx.2.1) (by simp) ?_
    simp (disch := omega)
    refine Qa (Ze7 t hn hgG) (by simp) ?_
    simp (disch := omega) [i0]
    refine Qa (YK t g0 (GSys.Gtm t _ _)) (by simp) ?_
    cases hu0 : s.le y0 (s.tm n (Wp (hd x.ty)))
    ·simp (disch := omega)
     refine Qm (Qe.low (Xa 9 (by omega))) (by simp) ?_
     rintro r ⟨⟨h3, w1, w2, w4, k4, rfl⟩, lo⟩
     simp (disch := omega) [us, hu0]
     exact ⟨by omega, w1, w2, w4, k4, by simp⟩
    ·have zr := Ve ctx.length (by omega)
     have sc := YS t false false (WB ctx.length) n hn x.needs (by simp [WB]; omega) (by rw [hxg.2.1]; simp [WB]) (Zaj t _).2 hxg.2.2
     have e1 := ZcC hsy n x.needs
     rw [hxg.2.1] at e1
     rw [e1] at sc
     have so := X8 t (g := n) hxg.2.1
     have s2 := YS t false false (WO s n x.needs) 1 (GSys.G1 t) yr (by rw [so.1]; omega) (by rw [so.1, dl]) so.2 dg
     rw [VW hsy _ _ dg] at s2
     simp (disch := omega)
     refine Qa zr (by simp) ?_
     simp (disch := omega)
     refine Qa sc (by simp) ?_
     simp (disch := omega)
     refine Qa s2 (by simp) ?_
     simp (disch := omega) [us, hu0]
     exact ⟨false, true, true, true, by simp [hyr]⟩
 ·have q' : W6 (hd x.ty) = false := by simpa using q
  rw [if_neg q]
  simp (disch := omega) [X2, Qw, Qu, GTerm.cells, hxi, e55, e58, e512]
  refine Qa (Zoj (hd x.ty)) (by simp) ?_
  simp (disch := omega) [q']
  refine Qm (Qe.low (Xa 7 (by omega))) (by simp) ?_
  rintro r ⟨⟨h3, w1, w2, w4, k4, rfl⟩, lo⟩
  simp (disch := omega)
  exact ⟨by omega, w1, w2, w4, k4, by simp⟩
theorem ZlN (n : Int) (nl1 : Bool) (gty : List Int) (nl2 : Bool) (a b c : GTerm) (x : TT) (n4 : Bool) (hn : s.G n) (hxg : x.good s ctx.length) (hA : Qo s (ctx.map Prod.snd) a = .ok x) (hbs : b.size ≤ 1000000) (hcs : c.size ≤ 1000000)
  (hb : hd x.ty = 2 → Qe Tryz.prog Wq [s.lv, LC false ((false, QQ x.ty) :: ctx), b.lv] (Qo s (QQ x.ty :: ctx.map Prod.snd) b).told)
  (hbg : hd x.ty = 2 → ∀ y, Qo s (QQ x.ty :: ctx.map Prod.snd) b = .ok y → y.good s (ctx.length + 1))
  (hc : hd x.ty = 2 → Qe Tryz.prog Wq [s.lv, LC false ((false, WG x.ty) :: ctx), c.lv] (Qo s (WG x.ty :: ctx.map Prod.snd) c).told)
  (hcg : hd x.ty = 2 → ∀ y, Qo s (WG x.ty :: ctx.map Prod.snd) c = .ok y → y.good s (ctx.length + 1)) :
  Qe Tryz.prog Ze [s.lv, LC nlc ctx, (GTerm.mk 8 n nl1 gty nl2 [a, b, c]).lv, aLV x n4] (Qo s (ctx.map Prod.snd) (GTerm.mk 8 n nl1 gty nl2 [a, b, c])).told := by
 have t := GSys.sys_of hsy
 have T := Zqu (n := n) (nl1 := nl1) (nl2 := nl2) (gty := gty) (b := b) (c := c) hA hxg.1
 refine Qe.of_codeOf Vq Qy (by simp) (VU _ fun f p h => YZ _ _ f p h) ?_
 rw [T]
 have hx := X6 hxg.1
 have hxi : QF 1 (L false x.ty) 0 = some (.rp [N (hd x.ty)]) := ZH hx.2.2.2.1
 have e55 : eqB 8 5 = false := by rw [Qb]; omega
 have e58 : eqB 8 8 = true := by rw [Qc]
 have e512 : eqB 8 12 = false := by rw [Qb]; omega
 have hz : eqB 0 0 = true := by rw [Qc]
 by_cases q : hd x.ty = 2
 ·have hq : eqB (hd x.ty) 2 = true := by rw [Qc]; exact q
  have hk : WC (hd x.ty) = some 2 := by rw [q]; exact XB.2
  simp (disch := omega) [X2, Qw, Qu, GTerm.cells, hxi, hq, e55, e58, e512]
  refine Qa (YK t (GSys.G1 t) hn) (by simp) ?_
  rw [if_pos q]
  cases hl : s.le 1 n
  ·simp (disch := omega)
   refine Qm (Qe.low (Xa 8 (by omega))) (by simp) ?_
   rintro r ⟨⟨h3, w1, w2, w4, k4, rfl⟩, lo⟩
   simp (disch := omega)
   exact ⟨by omega, w1, w2, w4, k4, by simp⟩
  ·have p0 := Jb hxg.1 0 (.inr hk)
   have p1 := Jb hxg.1 1 (.inr hk)
   simp (disch := omega)
   refine Qa p0 (by simp) ?_
   simp (disch := omega) [Qn, e55]
   have w := Jn nlc false ctx [(false, QQ x.ty)] (by omega) (by simp)
   have w2 := Jn nlc false ctx [(false, WG x.ty)] (by omega) (by simp)
   simp only [List.map_cons, List.map_nil, List.cons_append, List.nil_append] at w w2
   refine Qa w (by simp) ?_
   have of := XC s 8 n nl1 gty nl2 [a, b, c] 1 (by simp) false ((false, QQ x.ty) :: ctx) _ (Wz hbs) (hb q)
   have of2 := XC s 8 n nl1 gty nl2 [a, b, c] 2 (by simp) false ((false, WG x.ty) :: ctx) _ (Wz hcs) (hc q)
   simp only [GTerm.lv, GTerm.cells, List.map_cons] at of of2
   simp (disch := omega) [Qn]
   refine Qm (Qe.low of) (by simp) ?_
   rintro r ⟨hr, lo⟩
   cases hB : Qo s (QQ x.ty :: ctx.map Prod.snd) b with
   | bad f p =>
    rw [hB] at hr
    simp only [ofR] at hr
    obtain ⟨hf, u1, u2, u4, n4', rfl⟩ := hr
    have hf0 : eqB f 0 = false := by rw [Qb]; exact hf
    simp (disch := omega) [Qw, Qu, hf0]
    exact ⟨hf, false, false, false, n4', by simp⟩
   | ok y =>
    have hyg := hbg q y hB
    rw [hB] at hr
    simp only [ofR] at hr
    obtain ⟨u1, u2, u4, n4', rfl⟩ := hr
    have hyl := hyg.2.1
    have c2 : ZE 1 (L false y.needs) (some 1) none none = some (L false (y.needs.drop 1)) := YT (k := 1) (by omega)
    have i0 : QF 1 (L false y.needs) 0 = some (.rp [N (y.needs.getD 0 0)]) := Zk1 (i := 0) (by omega)
    have g0 := Zfq hyg.2.2 (show 0 < y.needs.length by omega)
    have cp := Jf false (y.needs.drop 1) (by simp; omega)
    have dl : (y.needs.drop 1).length = ctx.length := by simp; omega
    have dg : ∀ u ∈ y.needs.drop 1, s.G u := fun u hu => hyg.2.2 u (List.mem_of_mem_drop hu)
    have us := used1 (s := s) (l := y.needs) (g := n) (by omega)
    generalize y.needs.getD 0 0 = y0 at *
    obtain ⟨yr, hyr⟩ : ∃ yr, yr = y.needs.drop 1 := ⟨_, rfl⟩
    rw [← hyr] at c2 cp dl dg
    simp (disch := omega) [Qw, Qu, hz, c2]
    refine Qa cp (by simp) ?_
    simp (disch := omega) [e512, e55, e58]
    refine Qa p1 (by simp) ?_
    simp (disch := omega) [Qn]
    refine Qa w2 (by simp) ?_
    simp (disch := omega) [Qn]
    refine Qm (Qe.low of2) (by simp) ?_
    rintro r ⟨hr, lo⟩
    cases hC : Qo s (WG x.ty :: ctx.map Prod.snd) c with
    | bad f p =>
     rw [hC] at hr
     simp only [ofR] at hr
     obtain ⟨hf, v1, v2, v4, m4', rfl⟩ := hr
     have hf0 : eqB f 0 = false := by rw [Qb]; exact hf
     simp (disch := omega) [Qw, Qu, hf0]
     exact ⟨hf, false, false, false, m4', by simp⟩
    | ok z =>
     have hzg := hcg q z hC
     rw [hC] at hr
     simp only [ofR] at hr
     obtain ⟨v1, v2, v4, m4', rfl⟩ := hr
     have hzl := hzg.2.1
     have d2 : ZE 1 (L false z.needs) (some 1) none none = some (L false (z.needs.drop 1)) := YT (k := 1) (by omega)
     have j0 : QF 1 (L false z.needs) 0 = some (.rp [N (z.needs.getD 0 0)]) := Zk1 (i := 0) (by omega)
     have k0 := Zfq hzg.2.2 (show 0 < z.needs.length by omega)
     have el : (z.needs.drop 1).length = ctx.length := by simp; omega
     have eg : ∀ u ∈ z.needs.drop 1, s.G u := fun u hu => hzg.2.2 u (List.mem_of_mem_drop hu)
     have vs := used1 (s := s) (l := z.needs) (g := n) (by omega)
     generalize z.needs.getD 0 0 = z0 at *
     obtain ⟨zr, hzr⟩ : ∃ zr, zr = z.needs.drop 1 := ⟨_, rfl⟩
     rw [← hzr] at d2 el eg
     have ly := QM hyg.1
     simp (disch := omega) [Qw, Qu, hz]
     have sm := ZfR false false y.ty z.ty (by omega)
     refine Qa sm (by simp) ?_
     cases he : (y.ty == z.ty)
     ·have he' : y.ty ≠ z.ty := by simpa using he
      simp (disch := omega)
      refine Qm (Qe.low (Xa 3 (by omega))) (by simp) ?_
      rintro r ⟨⟨h3, w1, w2, w4, k4, rfl⟩, lo⟩
      simp (disch := omega) [he']
      exact ⟨by omega, w1, w2, w4, k4, by simp⟩
     ·have he' : y.ty = z.ty := by simpa using he
      simp (disch := omega) [j0]
      refine Qa (YK t k0 hn) (by simp) ?_
      simp (disch := omega) [d2]
      have jn := ZkI t false false yr zr (by omega) (by omega) dg eg
      refine Qa jn (by simp) ?_
      have jl := ZcO (s := s) dl el
      have jg : ∀ u ∈ Jc s yr zr, s.G u := fun u hu => Zlq hsy u hu dg eg
      cases hv0 : s.le z0 n
      ·simp (disch := omega)
       refine Qm (Qe.low (Xa 9 (by omega))) (by simp) ?_
       rintro r ⟨⟨h3, w1, w2, w4, k4, rfl⟩, lo⟩
       simp (disch := omega) [us, vs, hv0, he']
       exact ⟨by omega, w1, w2, w4, k4, by simp⟩
      ·simp (disch := omega) [i0]
       refine Qa (YK t g0 hn) (by simp) ?_
       cases hu0 : s.le y0 n
       ·simp (disch := omega)
        refine Qm (Qe.low (Xa 9 (by omega))) (by simp) ?_
        rintro r ⟨⟨h3, w1, w2, w4, k4, rfl⟩, lo⟩
        simp (disch := omega) [us, vs, hu0, hv0, he']
        exact ⟨by omega, w1, w2, w4, k4, by simp⟩
       ·have zz := Ve ctx.length (by omega)
        have sc := YS t false false (WB ctx.length) n hn x.needs (by simp [WB]; omega) (by rw [hxg.2.1]; simp [WB]) (Zaj t _).2 hxg.2.2
        have e1 := ZcC hsy n x.needs
        rw [hxg.2.1] at e1
        rw [e1] at sc
        have so := X8 t (g := n) hxg.2.1
        have s2 := YS t false false (WO s n x.needs) 1 (GSys.G1 t) (Jc s yr zr) (by rw [so.1]; omega) (by rw [so.1, jl]) so.2 jg
        rw [VW hsy _ _ jg] at s2
        simp (disch := omega)
        refine Qa zz (by simp) ?_
        simp (disch := omega)
        refine Qa sc (by simp) ?_
        simp (disch := omega)
        refine Qa s2 (by simp) ?_
        simp (disch := omega) [us, vs, hu0, hv0, he']
        exact ⟨false, true, true, true, by simp [hyr, hzr, he']⟩
 ·have hq : eqB (hd x.ty) 2 = false := by rw [Qb]; exact q
  rw [if_neg q]
  simp (disch := omega) [X2, Qw, Qu, GTerm.cells, hxi, hq, e55, e58, e512]
  refine Qm (Qe.low (Xa 5 (by omega))) (by simp) ?_
  rintro r ⟨⟨h3, w1, w2, w4, k4, rfl⟩, lo⟩
  simp (disch := omega)
  exact ⟨by omega, w1, w2, w4, k4, by simp⟩
end
end Go.Proofs.YtclfngbealdbgaaGreat
namespace Go.Proofs.YtclfngbealdbgaaGreat
open Go Go.TL
set_option linter.unusedSimpArgs false
set_option linter.unusedVariables false
set_option linter.unusedSectionVars false
set_option maxRecDepth 20000
set_option maxHeartbeats 4000000
def Ws {α : Type} (f : Int → α) (k : Int) : Nat → List α
 | 0 => []
 | n + 1 => f k :: Ws f (k + 1) n
@[simp] theorem ZS {α : Type} (f : Int → α) (k : Int) (n : Nat) : (Ws f k n).length = n := by
 induction n generalizing k with
 | zero => rfl
 | succ n ih => simp [Ws, ih]
theorem Znb {α : Type} (f : Int → α) (k : Int) (n : Nat) : Ws f k (n + 1) = Ws f k n ++ [f (k + n)] := by
 induction n generalizing k with
 | zero => simp [Ws]
 | succ n ih =>
  rw [Ws, ih]
  simp only [Ws, List.cons_append, Int.natCast_add, Int.natCast_one]
  rw [show k + 1 + (n : Int) = k + (n + 1) by omega]
theorem ZoG {α : Type} (f : Int → α) (k : Int) (n i : Nat) (h : i < n) : (Ws f k n)[i]'(by simpa using h) = f (k + i) := by
 induction n generalizing k i with
 | zero => omega
 | succ n ih =>
  cases i with
  | zero => simp [Ws]
  | succ i =>
   simp only [Ws, List.getElem_cons_succ]
   rw [ih (k + 1) i (by omega)]
   congr 1
   simp only [Int.natCast_add, Int.natCast_one]
   omega
def mI (k : Int) : Int := k
def mB (k : Int) : Bool := eqB (k.tmod 3) 0
abbrev ZnI {α : Type} (e : α → LV) (l : List α) : List (List LV) := l.map fun x => [e x]
theorem Zib {α : Type} (v : α → Value) : ∀ (l : List α) (n : Nat) (cells : List LV) (bs : List Box), Xi (ZnI (fun x => .sc (v x)) l) 1 n cells bs ↔ cells = l.map (fun x => .sc (v x)) ∧ bs = []
 | [], n, cells, bs => by simp [Xi]
 | x :: l, n, cells, bs => by
  simp only [ZnI, List.map_cons, Xi, WK, Th]
  constructor
  ·rintro ⟨c1, b1, c2, b2, _, ⟨y, b3, ys', b4, ⟨rfl, rfl⟩, ⟨rfl, rfl⟩, rfl, rfl⟩, h2, rfl, rfl⟩
   obtain ⟨rfl, rfl⟩ := (Zib v l _ _ _).1 h2
   simp
  ·rintro ⟨rfl, rfl⟩
   exact ⟨[.sc (v x)], [], l.map (fun x => .sc (v x)), [], rfl, ⟨.sc (v x), [], [], [], ⟨rfl, rfl⟩, ⟨rfl, rfl⟩, rfl, rfl⟩, (Zib v l _ _ _).2 ⟨rfl, rfl⟩, rfl, rfl⟩
theorem Zat {α : Type} (v : α → Value) {u nl : Bool} {l : List α} {n : Nat} {y : LV} {bs : List Box} : Th (.sl u nl 1 (ZnI (fun x => .sc (v x)) l)) n y bs ↔ (l = [] ∧ y = .sl false nl 1 [] ∧ bs = []) ∨
  (nl = false ∧ l ≠ [] ∧ ∃ slack cap, (l.length ≤ cap ∧ l.length * 1 + slack = cap * 1) ∧ y = .ha n 1 0 l.length cap ∧ bs = [some (l.map (fun x => .sc (v x)) ++ List.replicate slack .dead)]) := by
 simp only [Th, Zib, List.length_map, List.map_eq_nil_iff]
 constructor
 ·rintro (⟨h1, h2, h3⟩ | ⟨h1, h2, cells, bs', slack, cap, ⟨rfl, rfl⟩, h3, h4, h5⟩)
  ·exact .inl ⟨h1, h2, h3⟩
  ·exact .inr ⟨h1, by simpa using h2, slack, cap, h3, by simpa using h4, by simpa using h5⟩
 ·rintro (⟨h1, h2, h3⟩ | ⟨h1, h2, slack, cap, h3, h4, h5⟩)
  ·exact .inl ⟨h1, h2, h3⟩
  ·exact .inr ⟨h1, by simpa using h2, _, [], slack, cap, ⟨rfl, rfl⟩, h3, by simpa using h4, by simpa using h5⟩
theorem Jw {α : Type} (v : α → Value) (u nl : Bool) (l : List α) (h : l = [] ∨ (u = true ∧ nl = false)) : QG (.sl u nl 1 (ZnI (fun x => .sc (v x)) l)) := by
 simp only [QG]
 refine ⟨?_, ?_⟩
 ·rcases h with rfl | ⟨rfl, rfl⟩
  ·left; rfl
  ·right; simp
 ·clear h
  induction l with
  | nil => simp [QX]
  | cons x l ih => simp only [ZnI, List.map_cons, QX, We, QG]; exact ⟨⟨trivial, trivial⟩, ih⟩
theorem Zgt {α : Type} (v : α → Value) (f : Int → α) (k : Int) (l : List α) (rest : List LV) (i : Nat) (h : i < l.length) :
  splice ((Ws f k i ++ l.drop i).map (fun x => LV.sc (v x)) ++ rest) i [.sc (v (f (k + i)))] = (Ws f k (i + 1) ++ l.drop (i + 1)).map (fun x => LV.sc (v x)) ++ rest := by
 unfold splice
 rw [List.drop_eq_getElem_cons h, Znb]
 simp only [List.map_append, List.map_cons, List.append_assoc, List.cons_append]
 rw [Zqm _ _ _ (by simp), Zqx _ _ _ _ (by simp)]
 simp
@[simp] theorem bin_rem3 {a : Int} : Xs .num .rem (.sc (.int .i64 a)) (.sc (.int .i64 3)) = some (.sc (.int .i64 (a.tmod 3))) := by simp [Xs, Kc]
theorem Jl (u nl : Bool) (l : List Int) (k : Int) (hk : 0 ≤ k ∧ k + l.length ≤ 4611686018427387904) (h1 h2 : List Box) (y : LV) (bs : List Box) (ht : Th (OU u nl l) h1.length y bs) :
  QK Tryz.prog XG [y, N k] (h1 ++ bs ++ h2) (fun r h' => r = N (k + l.length) ∧ ∃ bs', bs'.length = bs.length ∧ Th (OU u nl (Ws mI k l.length)) h1.length y bs' ∧ h' = h1 ++ bs' ++ h2) := by
 rcases (Zat (fun n : Int => Value.int .i64 n)).1 ht with ⟨rfl, rfl, rfl⟩ | ⟨rfl, hne, slack, cap, hcap, rfl, rfl⟩
 ·refine QK.of_codeOf Zbo Qy (by simp) ⟨_, _, rfl, [], rfl, (Zat (fun n : Int => Value.int .i64 n)).2 (.inl ⟨rfl, rfl, rfl⟩), rfl⟩ ?_
  simp (disch := omega) [KU]
  refine Q9 0 0 (fun i t h => t 5 = N 0 ∧ t 1 = N k ∧ h = h1 ++ h2) (by simp) (by omega) ?_
  rintro i t1 hh hf hi ⟨e5, e1, rfl⟩
  (have e0 := hf 0 (by kernel_rfl); clear hf; simp [] at e0)
  simp (disch := omega) [e0, e1, e5]
  refine QO (.inr rfl) (by simp) ?_
  simp [Th, Ws]
 ·have hm : (Ws mI k l.length).length = l.length := ZS _ k l.length
  have hne2 : Ws mI k l.length ≠ [] := by
   intro h; rw [h] at hm; exact hne (List.eq_nil_of_length_eq_zero (by simpa using hm.symm))
  refine QK.of_codeOf Zbo Qy (by simp) ⟨_, _, rfl, [some ((Ws mI k l.length).map (fun x => .sc ((fun n : Int => Value.int .i64 n) x)) ++ List.replicate slack .dead)], rfl, (Zat (fun n : Int => Value.int .i64 n)).2 (.inr ⟨rfl, hne2, slack, cap, by rw [hm]; exact hcap, by rw [hm], rfl⟩), rfl⟩ ?_
  simp (disch := omega) [KU]
  refine Q9 l.length 0 (fun i t h => t 5 = N i ∧ t 1 = N (k + i) ∧ h = h1 ++ some ((Ws mI k i ++ l.drop i).map (fun x => .sc ((fun n : Int => Value.int .i64 n) x)) ++ List.replicate slack .dead) :: h2) (by simp [Ws]) (by omega) ?_
  rintro i t1 hh hf hi ⟨e5, e1, rfl⟩
  (have e0 := hf 0 (by kernel_rfl); clear hf; simp [] at e0)
  simp (disch := omega) [e0, e1, e5]
  (with_reducible first | refine Ql (fun h5 => ?_) (fun h5 => ?_) | refine Qk (fun h5 => ?_) (fun h5 => ?_))
  ·simp only [Qf, Qd, Qi, Qg, Qc, Qb, Bool.not_true, Bool.not_false] at h5
   have hsp := Zgt (fun n : Int => Value.int .i64 n) mI k l (List.replicate slack .dead) i (by omega)
   simp (disch := omega) [e0, e1, e5, Y6, Qh]
   exact ⟨by omega, by omega, by omega, by simpa [splice, mI, mB] using hsp⟩
  ·simp only [Qf, Qd, Qi, Qg, Qc, Qb, Bool.not_true, Bool.not_false] at h5
   simp (disch := omega) [e1]
   refine QO (.inr rfl) (by simp) ⟨by simp; omega, [some ((Ws mI k l.length).map (fun x => .sc ((fun n : Int => Value.int .i64 n) x)) ++ List.replicate slack .dead)], rfl, (Zat (fun n : Int => Value.int .i64 n)).2 (.inr ⟨rfl, hne2, slack, cap, by rw [hm]; exact hcap, by rw [hm], rfl⟩), ?_⟩
   rw [show i = l.length by omega]; simp
theorem ZeA (u nl : Bool) (l : List Bool) (k : Int) (hk : 0 ≤ k ∧ k + l.length ≤ 4611686018427387904) (h1 h2 : List Box) (y : LV) (bs : List Box) (ht : Th (OB u nl l) h1.length y bs) :
  QK Tryz.prog Ke [y, N k] (h1 ++ bs ++ h2) (fun r h' => r = N (k + l.length) ∧ ∃ bs', bs'.length = bs.length ∧ Th (OB u nl (Ws mB k l.length)) h1.length y bs' ∧ h' = h1 ++ bs' ++ h2) := by
 rcases (Zat (fun b : Bool => Value.bool b)).1 ht with ⟨rfl, rfl, rfl⟩ | ⟨rfl, hne, slack, cap, hcap, rfl, rfl⟩
 ·refine QK.of_codeOf Zas Qy (by simp) ⟨_, _, rfl, [], rfl, (Zat (fun b : Bool => Value.bool b)).2 (.inl ⟨rfl, rfl, rfl⟩), rfl⟩ ?_
  simp (disch := omega) [J7]
  refine Q9 0 0 (fun i t h => t 5 = N 0 ∧ t 1 = N k ∧ h = h1 ++ h2) (by simp) (by omega) ?_
  rintro i t1 hh hf hi ⟨e5, e1, rfl⟩
  (have e0 := hf 0 (by kernel_rfl); clear hf; simp [] at e0)
  simp (disch := omega) [e0, e1, e5]
  refine QO (.inr rfl) (by simp) ?_
  simp [Th, Ws]
 ·have hm : (Ws mB k l.length).length = l.length := ZS _ k l.length
  have hne2 : Ws mB k l.length ≠ [] := by
   intro h; rw [h] at hm; exact hne (List.eq_nil_of_length_eq_zero (by simpa using hm.symm))
  refine QK.of_codeOf Zas Qy (by simp) ⟨_, _, rfl, [some ((Ws mB k l.length).map (fun x => .sc ((fun b : Bool => Value.bool b) x)) ++ List.replicate slack .dead)], rfl, (Zat (fun b : Bool => Value.bool b)).2 (.inr ⟨rfl, hne2, slack, cap, by rw [hm]; exact hcap, by rw [hm], rfl⟩), rfl⟩ ?_
  simp (disch := omega) [J7]
  refine Q9 l.length 0 (fun i t h => t 5 = N i ∧ t 1 = N (k + i) ∧ h = h1 ++ some ((Ws mB k i ++ l.drop i).map (fun x => .sc ((fun b : Bool => Value.bool b) x)) ++ List.replicate slack .dead) :: h2) (by simp [Ws]) (by omega) ?_
  rintro i t1 hh hf hi ⟨e5, e1, rfl⟩
  (have e0 := hf 0 (by kernel_rfl); clear hf; simp [] at e0)
  simp (disch := omega) [e0, e1, e5]
  (with_reducible first | refine Ql (fun h5 => ?_) (fun h5 => ?_) | refine Qk (fun h5 => ?_) (fun h5 => ?_))
  ·simp only [Qf, Qd, Qi, Qg, Qc, Qb, Bool.not_true, Bool.not_false] at h5
   have hsp := Zgt (fun b : Bool => Value.bool b) mB k l (List.replicate slack .dead) i (by omega)
   simp (disch := omega) [e0, e1, e5, Y6, Qh]
   exact ⟨by omega, by omega, by omega, by simpa [splice, mI, mB] using hsp⟩
  ·simp only [Qf, Qd, Qi, Qg, Qc, Qb, Bool.not_true, Bool.not_false] at h5
   simp (disch := omega) [e1]
   refine QO (.inr rfl) (by simp) ⟨by simp; omega, [some ((Ws mB k l.length).map (fun x => .sc ((fun b : Bool => Value.bool b) x)) ++ List.replicate slack .dead)], rfl, (Zat (fun b : Bool => Value.bool b)).2 (.inr ⟨rfl, hne2, slack, cap, by rw [hm]; exact hcap, by rw [hm], rfl⟩), ?_⟩
   rw [show i = l.length by omega]; simp
theorem ZfY (nl : Bool) (k : Int) (n : Nat) (hk : 0 ≤ k ∧ k + n ≤ 4611686018427387904) : Qe Tryz.prog ZY [L nl (Ws mI k n), N k] (· = N (k + n)) := by
 refine Qe.of_codeOf ZgU Qy (by simp) ⟨_, rfl, by simp⟩ ?_
 have hlen : (Ws mI k n).length = n := ZS _ k n
 simp (disch := omega) [Zbw]
 refine Q9 n 0 (fun i t _ => t 5 = N i ∧ t 1 = N (k + i)) (by simp) (by omega) ?_
 rintro i t1 hh hf hi ⟨e5, e1⟩
 (have e0 := hf 0 (by kernel_rfl); clear hf; simp [] at e0)
 simp (disch := omega) [e0, e1, e5, hlen]
 (with_reducible first | refine Ql (fun h5 => ?_) (fun h5 => ?_) | refine Qk (fun h5 => ?_) (fun h5 => ?_))
 ·simp only [Qf, Qd, Qi, Qg, Qc, Qb, Bool.not_true, Bool.not_false] at h5
  have hg : (Ws mI k n)[i]'(by omega) = mI (k + i) := ZoG mI k n i (by omega)
  simp (disch := omega) [e0, e1, e5, Xj, hlen, hg]
  repeat' (first
  | (with_reducible (first | refine Ql (fun hb_ => ?_) (fun hb_ => ?_) | refine Qk (fun hb_ => ?_) (fun hb_ => ?_)) <;> simp (disch := omega) [hb_, e0, e1, e5, Xj, hlen, hg, mI, mB, Qh])
  | simp (disch := omega) [e0, e1, e5, Xj, hlen, hg, mI, mB, Qh])
  all_goals first | omega | (simp [mI, mB] at hb_)
 ·simp only [Qf, Qd, Qi, Qg, Qc, Qb, Bool.not_true, Bool.not_false] at h5
  simp (disch := omega) [e1]
  rw [show i = n by omega]
theorem Zjh (u1 n1 u2 n2 u3 n3 : Bool) (size : Int) (p t : List Int) (b : List Bool) (k : Int) (hk : 0 ≤ k ∧ k + (p.length + t.length + b.length) ≤ 4611686018427387904) (h1 h2 : List Box) (y1 y2 y3 : LV) (b1 b2 b3 : List Box)
  (t1 : Th (OU u1 n1 p) h1.length y1 b1) (t2 : Th (OU u2 n2 t) (h1 ++ b1).length y2 b2) (t3 : Th (OB u3 n3 b) (h1 ++ b1 ++ b2).length y3 b3) :
  QK Tryz.prog Y9 [.agg [N size, y1, y2, y3], N k] (h1 ++ b1 ++ b2 ++ b3 ++ h2) (fun r h' => r = N (k + p.length + t.length + b.length) ∧ ∃ c1 c2 c3, c1.length = b1.length ∧ c2.length = b2.length ∧ c3.length = b3.length ∧
   Th (OU u1 n1 (Ws mI k p.length)) h1.length y1 c1 ∧ Th (OU u2 n2 (Ws mI (k + p.length) t.length)) (h1 ++ c1).length y2 c2 ∧ Th (OB u3 n3 (Ws mB (k + p.length + t.length) b.length)) (h1 ++ c1 ++ c2).length y3 c3 ∧ ∃ ex, h' = h1 ++ c1 ++ c2 ++ c3 ++ h2 ++ ex) := by
 have s1 := Th.share _ _ _ _ t1
 have s2 := Th.share _ _ _ _ t2
 have s3 := Th.share _ _ _ _ t3
 have big : ∀ (l : List Int), (Ws mI k l.length).length = l.length := fun l => ZS _ _ _
 obtain ⟨H, hH⟩ : ∃ H, h1 ++ b1 ++ b2 ++ b3 ++ h2 = H := ⟨_, rfl⟩
 rw [hH]
 have m1 := Jl u1 n1 p k (by omega) h1 (b2 ++ b3 ++ h2 ++ [none]) y1 b1 t1
 rw [show h1 ++ b1 ++ (b2 ++ b3 ++ h2 ++ [none]) = H ++ [none] by rw [← hH]; simp] at m1
 refine QK.of_codeOf ZeD Qy (by simp) ?_ ?_
 ·obtain ⟨r1, _, rfl, c1, l1, g1, rfl⟩ := m1.2.1
  obtain ⟨r2, _, rfl, c2, l2, g2, rfl⟩ := (Jl u2 n2 t (k + p.length) (by omega) (h1 ++ c1) (b3 ++ h2 ++ [none]) y2 b2 (by rw [List.length_append, l1, ← List.length_append]; exact t2)).2.1
  obtain ⟨r3, _, rfl, c3, l3, g3, rfl⟩ := (ZeA u3 n3 b (k + p.length + t.length) (by omega) (h1 ++ c1 ++ c2) (h2 ++ [none]) y3 b3 (by simp only [List.length_append, l1, l2] at t3 ⊢; exact t3)).2.1
  exact ⟨_, _, rfl, c1, c2, c3, l1, l2, l3, g1, g2, g3, [], rfl⟩
 ·simp (disch := omega) [VQ, Qw, Qu, s1, s2, s3]
  refine Wm m1 ?_
  rintro r h' ⟨rfl, c1, l1, g1, rfl⟩
  have m2 := Jl u2 n2 t (k + p.length) (by omega) (h1 ++ c1) (b3 ++ h2 ++ [none]) y2 b2 (by rw [List.length_append, l1, ← List.length_append]; exact t2)
  rw [show h1 ++ c1 ++ b2 ++ (b3 ++ h2 ++ [none]) = h1 ++ c1 ++ (b2 ++ b3 ++ h2 ++ [none]) by simp] at m2
  generalize hH2 : h1 ++ c1 ++ (b2 ++ b3 ++ h2 ++ [none]) = H2 at *
  simp (disch := omega) [s1, s2, s3]
  refine Wm m2 ?_
  rintro r h' ⟨rfl, c2, l2, g2, rfl⟩
  have m3 := ZeA u3 n3 b (k + p.length + t.length) (by omega) (h1 ++ c1 ++ c2) (h2 ++ [none]) y3 b3 (by simp only [List.length_append, l1, l2] at t3 ⊢; exact t3)
  rw [show h1 ++ c1 ++ c2 ++ b3 ++ (h2 ++ [none]) = h1 ++ c1 ++ c2 ++ (b3 ++ h2 ++ [none]) by simp] at m3
  generalize hH3 : h1 ++ c1 ++ c2 ++ (b3 ++ h2 ++ [none]) = H3 at *
  simp (disch := omega) [s1, s2, s3]
  refine Wm m3 ?_
  rintro r h' ⟨rfl, c3, l3, g3, rfl⟩
  simp (disch := omega) [s1, s2, s3]
  have hl := congrArg List.length hH
  simp only [List.length_append] at hl
  refine QO (.inr rfl) (by simp; omega) ⟨by simp, c1, l1, c2, l2, c3, l3, g1, by simpa using g2, by simpa using g3, [none], by simp⟩
end Go.Proofs.YtclfngbealdbgaaGreat
namespace Go.Proofs.YtclfngbealdbgaaGreat
open Go Go.TL
open Go.Proofs.YtclfngbealdbgaaGreat.Ty
set_option linter.unusedSimpArgs false
set_option linter.unusedVariables false
set_option linter.unusedSectionVars false
set_option maxRecDepth 20000
set_option maxHeartbeats 4000000
theorem frz_at {H : List Box} {p sz n cap : Nat} {xs : List LV} (hl : H[p]? = some (some xs)) (hx : xs.length = cap * sz) (hn : n ≤ cap) : Qu H (.ha p sz 0 n cap) = some (.sl true false sz (Qn sz n xs), H.set p none) := by
 simp only [Qu, hl]
 rw [if_pos ⟨hx, hn⟩]
theorem ZmL (l : List Int) (ex : List LV) : ∀ n, n ≤ l.length → Qn 1 n (l.map N ++ ex) = (l.take n).map fun x => [N x] := by
  induction l with
  | nil => intro n hn; have : n = 0 := by simpa using hn
           subst this; rfl
  | cons a l ih =>
    intro n hn
    cases n with
    | zero => rfl
    | succ n =>
      have := ih n (by simpa using hn)
      simp only [Qn, List.map_cons, List.cons_append, List.take_succ_cons, List.take_zero, List.drop_succ_cons, List.drop_zero, this]
theorem Zgj (l : List Int) (ex : List LV) (i : Nat) (v : Int) (h : i < l.length) : splice (l.map N ++ ex) i [N v] = (l.set i v).map N ++ ex := by
 unfold splice
 rw [List.take_append_of_le_length (by simp; omega), List.drop_append_of_le_length (by simp; omega), List.set_eq_take_append_cons_drop, if_pos h]
 simp
theorem Zlr (l : List Int) (ex : List LV) (i : Nat) (v : Int) (h : i < l.length) : Qn 1 l.length (List.take i (l.map N ++ ex) ++ N v :: List.drop (i + 1) (l.map N ++ ex)) = (l.set i v).map fun x => [N x] := by
 have h1 := Zgj l ex i v h
 have e : List.take i (l.map N ++ ex) ++ N v :: List.drop (i + 1) (l.map N ++ ex) = splice (l.map N ++ ex) i [N v] := by unfold splice; simp
 rw [e, h1]
 have h2 := ZmL (l.set i v) ex l.length (by simp)
 rw [h2, List.take_of_length_le (by simp)]
end Go.Proofs.YtclfngbealdbgaaGreat
namespace Go.Proofs.YtclfngbealdbgaaGreat
open Go Go.TL
open Go.Proofs.YtclfngbealdbgaaGreat.Ty
set_option linter.unusedSimpArgs false
set_option linter.unusedVariables false
set_option maxRecDepth 20000
set_option maxHeartbeats 4000000
theorem kids0 {ks : List GTerm} (h : (ks.length : Int) = 0) : ks = [] := by cases ks with
 | nil => rfl
 | cons a l => simp at h; omega
theorem kids1 {ks : List GTerm} (h : (ks.length : Int) = 1) : ∃ a, ks = [a] := by
 match ks, h with
 | [a], _ => exact ⟨a, rfl⟩
 | [], h => simp at h
 | _ :: _ :: _, h => simp at h; omega
theorem Zm6 {ks : List GTerm} (h : (ks.length : Int) = 2) : ∃ a b, ks = [a, b] := by
 match ks, h with
 | [a, b], _ => exact ⟨a, b, rfl⟩
 | [], h => simp at h
 | [_], h => simp at h
 | _ :: _ :: _ :: _, h => simp at h; omega
theorem kids3 {ks : List GTerm} (h : (ks.length : Int) = 3) : ∃ a b c, ks = [a, b, c] := by
 match ks, h with
 | [a, b, c], _ => exact ⟨a, b, c, rfl⟩
 | [], h => simp at h
 | [_], h => simp at h
 | [_, _], h => simp at h
 | _ :: _ :: _ :: _ :: _, h => simp at h; omega
theorem Zm0 {s : GSys} {cx : List (List Int)} {op n : Int} {nl1 nl2 : Bool} {gty : List Int} {a : GTerm} {ks : List GTerm} {x : TT} (h : Qo s (Qt op gty 0 [] ++ cx) a = .ok x) (h2 : QP s op n 0 (hd x.ty) ≠ 0) :
  Qo s cx (.mk op n nl1 gty nl2 (a :: ks)) = .bad (QP s op n 0 (hd x.ty)) [] := by
 have h' : Qo s (Qt op gty 0 (first []) ++ cx) a = .ok x := h
 simp [Qo, Wd, h', h2]
theorem Zaw {ty nd : List Int} {ks : List TT} {r : LV} (h : (Zhr ty nd).told r) : (ZF ty nd ks).told r := by
 unfold Zhr at h
 unfold ZF
 split at h
 ·rename_i q; rw [if_pos q]; exact h
 ·rename_i q; rw [if_neg q]; exact h
theorem Zhi {s : GSys} (g : Int) : ∀ (a b : List Int), Zd1 s a g b = Jr s a (WO s g b)
 | [], b => by simp [Zd1, Jr]
 | x :: a, [] => by simp [Zd1, Jr, WO]
 | x :: a, y :: b => by
  have := Zhi (s := s) g a b
  simp only [Zd1, Jr, WO, List.zipWith_cons_cons, List.map_cons] at this ⊢
  rw [this]
structure KidT (s : GSys) (cx : Wf) (k : GTerm) : Prop where
 tell : ∀ nl, Qe Tryz.prog Wq [s.lv, LC nl cx, k.lv] (Qo s (cx.map Prod.snd) k).told
 good : ∀ y, Qo s (cx.map Prod.snd) k = .ok y → y.good s cx.length
 small : k.size ≤ 1000000
theorem Zff {s : GSys} (hsy : s.sys = true) (d : Nat) : ∀ (g : GTerm) (nlc : Bool) (ctx : Wf), g.size ≤ d → g.wf → g.fl → (∀ c ∈ ctx, okL s.size c.2 = true) → (∀ c ∈ ctx, c.1 = false) → ctx.length + 2 * g.size ≤ 100000 → W1 ctx.length s.size true g = true →
  Qe Tryz.prog Wq [s.lv, LC nlc ctx, g.lv] (Qo s (ctx.map Prod.snd) g).told := by
 induction d with
 | zero => intro g _ _ h; have := g.size_pos; omega
 | succ d ih =>
  rintro ⟨op, n, nl1, gty, nl2, ks⟩ nlc ctx hsz hw hfl hc hcf hlen hform
  have t := GSys.sys_of hsy
  have h16 := t.hi
  simp only [W1, Bool.and_eq_true] at hform
  obtain ⟨hnode, hforms⟩ := hform
  have no := ZcV hnode
  simp only [GTerm.wf] at hw
  obtain ⟨wop, wn, wty, wk, wks⟩ := hw
  simp only [GTerm.fl] at hfl
  obtain ⟨fl1, flk⟩ := hfl
  simp only [GTerm.size] at hsz hlen
  obtain ⟨many, hvar, hgr, hty, o1, o2⟩ := no
  have kid : ∀ (i : Nat) (hi : i < ks.length) (more : Wf), more.length = (Qq op i).toNat → (∀ c ∈ more, okL s.size c.2 = true) → (∀ c ∈ more, c.1 = false) → KidT s (more ++ ctx) ks[i] := by
   intro i hi more hml hmo hmf
   have ha := Xy op i
   have hf := Zer hforms i hi
   simp only [Nat.zero_add] at hf
   have hks := WP hi
   have e : (((more ++ ctx).length : Nat) : Int) = ctx.length + Qq op i := by rw [List.length_append]; omega
   have hok : ∀ c ∈ more ++ ctx, okL s.size c.2 = true := fun c h => (List.mem_append.1 h).elim (hmo c) (hc c)
   have hfl' : ∀ c ∈ more ++ ctx, c.1 = false := fun c h => (List.mem_append.1 h).elim (hmf c) (hcf c)
   refine ⟨fun nl => ih ks[i] nl (more ++ ctx) (by omega) ((Z5.1 wks) _ (List.getElem_mem hi)) ((Zbb.1 flk) _ (List.getElem_mem hi)) hok hfl' (by rw [List.length_append]; omega) (by rw [e]; exact hf), fun y hy => ?_, by omega⟩
   have := ZaY t ks[i] ((more ++ ctx).map Prod.snd) y (fun l hl => by
    obtain ⟨c, h1, rfl⟩ := List.mem_map.1 hl
    exact hok c h1) (by rw [List.length_map, e]; exact hf) hy
   rw [List.length_map] at this
   exact this
  have hops : op = 0 ∨ op = 1 ∨ op = 2 ∨ op = 3 ∨ op = 4 ∨ op = 5 ∨ op = 6 ∨ op = 7 ∨ op = 8 ∨ op = 9 ∨ op = 10 ∨ op = 11 ∨ op = 12 := by omega
  have hz : eqB 0 0 = true := by rw [Qc]
  have hm : ctx.length ≤ 100000 := by omega
  refine Qe.of_codeOf ZjJ Qy (by simp) (VU _ fun f p h => YZ _ _ f p h) ?_
  rcases hops with e | e | e | e | e | e | e | e | e | e | e | e | e
  all_goals subst e
  all_goals simp [Yh] at many
  ·
   obtain rfl : ks = [] := by first | exact many | exact kids0 (by omega)
   obtain ⟨v0, v1⟩ := hvar rfl
   obtain ⟨v, rfl⟩ : ∃ v : Nat, n = v := ⟨n.toNat, by omega⟩
   have hv : v < ctx.length := by omega
   have hx := JW ctx nlc v hv
   have hxo := hc _ (List.getElem_mem hv)
   have hxf := hcf _ (List.getElem_mem hv)
   have hget : (ctx.map Prod.snd).getD v [] = ctx[v].2 := by simp [List.getD_eq_getElem?_getD, hv]
   generalize ctx[v] = c at hx hxo hxf hget
   obtain ⟨cf, cl⟩ := c
   simp only at hxo hxf hget
   subst hxf
   have hlen2 := QM hxo
   rw [tell_var, show ((v : Int)).toNat = v by omega, hget, List.length_map]
   simp (disch := omega) [WA, Qw, Qu, GTerm.cells, hz]
   refine KH (Ve ctx.length (by omega)) (by simp only [WJ, Y7]; exact ⟨_, [], rfl, rfl, rfl⟩) (by rintro r rfl; exact Jw (fun n : Int => Value.int .i64 n) true false _ (.inr ⟨rfl, rfl⟩)) ?_
   rintro tz y bs rfl hth
   rcases (Zat (fun n : Int => Value.int .i64 n)).1 hth with ⟨h0, _, _⟩ | ⟨_, hne, slack, cap, ⟨hcap, hsl⟩, rfl, rfl⟩
   ·exfalso
    have h9 := congrArg List.length h0
    rw [show (WB ctx.length).length = ctx.length by simp [WB]] at h9
    have h9 : ctx.length = 0 := h9
    omega
   have hzl : (WB ctx.length).length = ctx.length := by simp [WB]
   clear hth
   have hst := Zlr (WB ctx.length) (List.replicate slack .dead) v 1 (by omega)
   have hsp := Zgj (WB ctx.length) (List.replicate slack .dead) v 1 (by omega)
   simp (disch := omega) [hx, Y6 (show v < (WB ctx.length).length by omega)]
   refine ⟨by omega, ?_⟩
   rw [frz_at (xs := List.take v ((WB ctx.length).map N ++ List.replicate slack .dead) ++ N 1 :: List.drop (v + 1) ((WB ctx.length).map N ++ List.replicate slack .dead)) (by simp) (by simp; omega) hcap, hst]
   generalize (WB ctx.length).set v 1 = zz
   simp (disch := omega) [hx]
   refine Qa (Jf false cl (by omega)) (by simp) ?_
   simp (disch := omega)
   exact ⟨true, true, true, true, by simp⟩
  ·
   obtain rfl : ks = [] := by first | exact many | exact kids0 (by omega)
   have e10 : eqB 1 0 = false := by rw [Qb]; omega
   have e11 : eqB 1 1 = true := by rw [Qc]
   rw [tell_num]
   simp (disch := omega) [WA, Qw, Qu, GTerm.cells, e10, e11, Qn]
   refine Qa (Ve ctx.length (by omega)) (by simp) ?_
   simp (disch := omega)
   exact ⟨true, true, true, true, by simp⟩
  ·obtain ⟨a, b, rfl⟩ := Zm6 (by omega)
   have ka := kid 0 (by simp) [] (by simp [Qq]) (by simp) (by simp)
   simp only [List.nil_append, List.getElem_cons_zero] at ka
   have kb := kid 1 (by simp) [] (by simp [Qq]) (by simp) (by simp)
   simp only [List.nil_append, List.getElem_cons_succ, List.getElem_cons_zero] at kb
   have E : ∀ k : Int, k ≠ 2 → eqB 2 k = false := fun k h => by rw [Qb]; omega
   have E2 : eqB 2 2 = true := by rw [Qc]
   have a0 : Qt 2 gty 0 [] ++ ctx.map Prod.snd = ctx.map Prod.snd := by simp [Qt, Qq]
   have of := XC s 2 n nl1 gty nl2 [a, b] 0 (by simp) nlc ctx _ (Wz ka.small) (ka.tell nlc)
   simp only [GTerm.lv, GTerm.cells] at of
   simp (disch := omega) [WA, Qw, Qu, GTerm.cells, E, E2]
   refine Qm (Qe.low of) (by simp) ?_
   rintro r ⟨hr, lo⟩
   cases hA : Qo s (ctx.map Prod.snd) a with
   | bad f p =>
    rw [hA] at hr
    simp only [ofR] at hr
    obtain ⟨hf, u1, u2, u4, n4', rfl⟩ := hr
    have hf0 : eqB f 0 = false := by rw [Qb]; exact hf
    rw [Yw (by rw [a0]; exact hA)]
    simp (disch := omega) [Qw, Qu, hf0]
    exact ⟨hf, false, false, false, n4', by simp⟩
   | ok x =>
    have hxg := ka.good x hA
    rw [hA] at hr
    simp only [ofR] at hr
    obtain ⟨u1, u2, u4, n4', rfl⟩ := hr
    have hx := X6 hxg.1
    have lx := QM hxg.1
    have hxi : QF 1 (L false x.ty) 0 = some (.rp [N (hd x.ty)]) := ZH hx.2.2.2.1
    by_cases q : hd x.ty = 0
    ·have hq : eqB (hd x.ty) 0 = true := by rw [Qc]; exact q
     simp (disch := omega) [Qw, Qu, hz, hxi, hq, E, E2]
     have tk := Zjx hsy nlc ctx hm n nl1 gty nl2 a b x n4' hxg hA q kb.small (kb.tell nlc) kb.good
     simp only [GTerm.lv, GTerm.cells] at tk
     refine Qm (Qe.low tk) (by simp) ?_
     rintro r ⟨hr, lo⟩
     cases hT : Qo s (ctx.map Prod.snd) (GTerm.mk 2 n nl1 gty nl2 [a, b]) with
     | ok z =>
      rw [hT] at hr
      obtain ⟨v1, v2, v4, m4, rfl⟩ := hr
      simp (disch := omega)
      exact ⟨v1, v2, v4, m4, by simp⟩
     | bad f p =>
      rw [hT] at hr
      obtain ⟨hf, v1, v2, v4, m4, rfl⟩ := hr
      simp (disch := omega)
      exact ⟨hf, v1, v2, v4, m4, by simp⟩
    ·have hq : eqB (hd x.ty) 0 = false := by rw [Qb]; exact q
     have fo := fo_add (n := n) (i := 0) hxg.1
     rw [if_neg q] at fo
     rw [Zm0 (by rw [a0]; exact hA) (by rw [fo]; omega), fo]
     simp (disch := omega) [Qw, Qu, hz, hxi, hq, E, E2]
     refine Qm (Qe.low (Xa 2 (by omega))) (by simp) ?_
     rintro r ⟨⟨h3, w1, w2, w4, k4, rfl⟩, lo⟩
     simp (disch := omega)
     exact ⟨by omega, w1, w2, w4, k4, by simp⟩
  ·obtain ⟨a, b, c, rfl⟩ := kids3 (by omega)
   have ka := kid 0 (by simp) [] (by simp [Qq]) (by simp) (by simp)
   simp only [List.nil_append, List.getElem_cons_zero] at ka
   have kb := kid 1 (by simp) [] (by simp [Qq]) (by simp) (by simp)
   simp only [List.nil_append, List.getElem_cons_succ, List.getElem_cons_zero] at kb
   have kc := kid 2 (by simp) [] (by simp [Qq]) (by simp) (by simp)
   simp only [List.nil_append, List.getElem_cons_succ, List.getElem_cons_zero] at kc
   have E : ∀ k : Int, k ≠ 3 → eqB 3 k = false := fun k h => by rw [Qb]; omega
   have E2 : eqB 3 3 = true := by rw [Qc]
   have a0 : Qt 3 gty 0 [] ++ ctx.map Prod.snd = ctx.map Prod.snd := by simp [Qt, Qq]
   have of := XC s 3 n nl1 gty nl2 [a, b, c] 0 (by simp) nlc ctx _ (Wz ka.small) (ka.tell nlc)
   simp only [GTerm.lv, GTerm.cells] at of
   simp (disch := omega) [WA, Qw, Qu, GTerm.cells, E, E2]
   refine Qm (Qe.low of) (by simp) ?_
   rintro r ⟨hr, lo⟩
   cases hA : Qo s (ctx.map Prod.snd) a with
   | bad f p =>
    rw [hA] at hr
    simp only [ofR] at hr
    obtain ⟨hf, u1, u2, u4, n4', rfl⟩ := hr
    have hf0 : eqB f 0 = false := by rw [Qb]; exact hf
    rw [Yw (by rw [a0]; exact hA)]
    simp (disch := omega) [Qw, Qu, hf0]
    exact ⟨hf, false, false, false, n4', by simp⟩
   | ok x =>
    have hxg := ka.good x hA
    rw [hA] at hr
    simp only [ofR] at hr
    obtain ⟨u1, u2, u4, n4', rfl⟩ := hr
    have hx := X6 hxg.1
    have lx := QM hxg.1
    have hxi : QF 1 (L false x.ty) 0 = some (.rp [N (hd x.ty)]) := ZH hx.2.2.2.1
    by_cases q : hd x.ty = 0
    ·have hq : eqB (hd x.ty) 0 = true := by rw [Qc]; exact q
     simp (disch := omega) [Qw, Qu, hz, hxi, hq, E, E2]
     have tk := Zlj hsy nlc ctx hm n nl1 gty nl2 a b c x n4' hxg hA q kb.small kc.small (kb.tell nlc) kb.good (kc.tell nlc) kc.good
     simp only [GTerm.lv, GTerm.cells] at tk
     refine Qm (Qe.low tk) (by simp) ?_
     rintro r ⟨hr, lo⟩
     cases hT : Qo s (ctx.map Prod.snd) (GTerm.mk 3 n nl1 gty nl2 [a, b, c]) with
     | ok z =>
      rw [hT] at hr
      obtain ⟨v1, v2, v4, m4, rfl⟩ := hr
      simp (disch := omega)
      exact ⟨v1, v2, v4, m4, by simp⟩
     | bad f p =>
      rw [hT] at hr
      obtain ⟨hf, v1, v2, v4, m4, rfl⟩ := hr
      simp (disch := omega)
      exact ⟨hf, v1, v2, v4, m4, by simp⟩
    ·have hq : eqB (hd x.ty) 0 = false := by rw [Qb]; exact q
     have fo := fo_if0 (n := n) hxg.1
     rw [if_neg q] at fo
     rw [Zm0 (by rw [a0]; exact hA) (by rw [fo]; omega), fo]
     simp (disch := omega) [Qw, Qu, hz, hxi, hq, E, E2]
     refine Qm (Qe.low (Xa 2 (by omega))) (by simp) ?_
     rintro r ⟨⟨h3, w1, w2, w4, k4, rfl⟩, lo⟩
     simp (disch := omega)
     exact ⟨by omega, w1, w2, w4, k4, by simp⟩
  ·obtain ⟨a, b, rfl⟩ := Zm6 (by omega)
   have ka := kid 0 (by simp) [] (by simp [Qq]) (by simp) (by simp)
   simp only [List.nil_append, List.getElem_cons_zero] at ka
   have kb := kid 1 (by simp) [] (by simp [Qq]) (by simp) (by simp)
   simp only [List.nil_append, List.getElem_cons_succ, List.getElem_cons_zero] at kb
   have E : ∀ k : Int, k ≠ 4 → eqB 4 k = false := fun k h => by rw [Qb]; omega
   have E2 : eqB 4 4 = true := by rw [Qc]
   have a0 : Qt 4 gty 0 [] ++ ctx.map Prod.snd = ctx.map Prod.snd := by simp [Qt, Qq]
   have of := XC s 4 n nl1 gty nl2 [a, b] 0 (by simp) nlc ctx _ (Wz ka.small) (ka.tell nlc)
   simp only [GTerm.lv, GTerm.cells] at of
   simp (disch := omega) [WA, Qw, Qu, GTerm.cells, E, E2]
   refine Qm (Qe.low of) (by simp) ?_
   rintro r ⟨hr, lo⟩
   cases hA : Qo s (ctx.map Prod.snd) a with
   | bad f p =>
    rw [hA] at hr
    simp only [ofR] at hr
    obtain ⟨hf, u1, u2, u4, n4', rfl⟩ := hr
    have hf0 : eqB f 0 = false := by rw [Qb]; exact hf
    rw [Yw (by rw [a0]; exact hA)]
    simp (disch := omega) [Qw, Qu, hf0]
    exact ⟨hf, false, false, false, n4', by simp⟩
   | ok x =>
    have hxg := ka.good x hA
    rw [hA] at hr
    simp only [ofR] at hr
    obtain ⟨u1, u2, u4, n4', rfl⟩ := hr
    have hx := X6 hxg.1
    have lx := QM hxg.1
    have hxi : QF 1 (L false x.ty) 0 = some (.rp [N (hd x.ty)]) := ZH hx.2.2.2.1
    simp (disch := omega) [Qw, Qu, hz, hxi, E, E2]
    rw [Zp8 hA]
    have of2 := XC s 4 n nl1 gty nl2 [a, b] 1 (by simp) nlc ctx _ (Wz kb.small) (kb.tell nlc)
    simp only [GTerm.lv, GTerm.cells] at of2
    refine Qm (Qe.low of2) (by simp) ?_
    rintro r ⟨hr, lo⟩
    cases hB : Qo s (ctx.map Prod.snd) b with
    | bad f p =>
     rw [hB] at hr
     simp only [ofR] at hr
     obtain ⟨hf, v1, v2, v4, m4', rfl⟩ := hr
     have hf0 : eqB f 0 = false := by rw [Qb]; exact hf
     simp (disch := omega) [Qw, Qu, hf0]
     exact ⟨hf, false, false, false, m4', by simp⟩
    | ok y =>
     have hyg := kb.good y hB
     rw [hB] at hr
     simp only [ofR] at hr
     obtain ⟨v1, v2, v4, m4', rfl⟩ := hr
     have ly := QM hyg.1
     have s1 := YS t false false x.needs 1 (GSys.G1 t) y.needs (by rw [hxg.2.1]; omega) (by rw [hxg.2.1, hyg.2.1]) hxg.2.2 hyg.2.2
     rw [VW hsy _ _ hyg.2.2] at s1
     obtain ⟨z, hzz⟩ : ∃ z, z = 1 :: (x.ty ++ y.ty) := ⟨_, rfl⟩
     have gl := ZaK 1 false false false x.ty y.ty (by omega) (by omega)
     dsimp only
     rw [← hzz] at gl ⊢
     simp (disch := omega) [Qw, Qu, hz, Qn]
     refine Qa gl (by simp) ?_
     simp (disch := omega)
     refine Qa s1 (by simp) ?_
     simp (disch := omega)
     have dn := ZaA z (Jr s x.needs y.needs)
     refine Qm (Qe.low dn) (by simp) ?_
     rintro r ⟨hr, lo⟩
     have hl := Zaw (ks := [x, y]) hr
     unfold ZF at hl ⊢
     by_cases q9 : z.length ≤ 40
     ·rw [if_pos q9] at hl ⊢
      obtain ⟨v1, v2, v4, m4, rfl⟩ := hl
      simp (disch := omega)
      exact ⟨v1, v2, v4, m4, by simp⟩
     ·rw [if_neg q9] at hl ⊢
      obtain ⟨hf, v1, v2, v4, m4, rfl⟩ := hl
      simp (disch := omega)
      exact ⟨hf, v1, v2, v4, m4, by simp⟩
  ·obtain ⟨a, b, rfl⟩ := Zm6 (by omega)
   have ka := kid 0 (by simp) [] (by simp [Qq]) (by simp) (by simp)
   simp only [List.nil_append, List.getElem_cons_zero] at ka
   have E : ∀ k : Int, k ≠ 5 → eqB 5 k = false := fun k h => by rw [Qb]; omega
   have E2 : eqB 5 5 = true := by rw [Qc]
   have a0 : Qt 5 gty 0 [] ++ ctx.map Prod.snd = ctx.map Prod.snd := by simp [Qt, Qq]
   have of := XC s 5 n nl1 gty nl2 [a, b] 0 (by simp) nlc ctx _ (Wz ka.small) (ka.tell nlc)
   simp only [GTerm.lv, GTerm.cells] at of
   simp (disch := omega) [WA, Qw, Qu, GTerm.cells, E, E2]
   refine Qm (Qe.low of) (by simp) ?_
   rintro r ⟨hr, lo⟩
   cases hA : Qo s (ctx.map Prod.snd) a with
   | bad f p =>
    rw [hA] at hr
    simp only [ofR] at hr
    obtain ⟨hf, u1, u2, u4, n4', rfl⟩ := hr
    have hf0 : eqB f 0 = false := by rw [Qb]; exact hf
    rw [Yw (by rw [a0]; exact hA)]
    simp (disch := omega) [Qw, Qu, hf0]
    exact ⟨hf, false, false, false, n4', by simp⟩
   | ok x =>
    have hxg := ka.good x hA
    rw [hA] at hr
    simp only [ofR] at hr
    obtain ⟨u1, u2, u4, n4', rfl⟩ := hr
    have hx := X6 hxg.1
    have lx := QM hxg.1
    have hxi : QF 1 (L false x.ty) 0 = some (.rp [N (hd x.ty)]) := ZH hx.2.2.2.1
    have kb : hd x.ty = 1 → KidT s ([(false, WG x.ty), (false, QQ x.ty)] ++ ctx) b := fun q => by
     have two := VR hxg.1 (by rw [q]; exact XB.1)
     have := kid 1 (by simp) [(false, WG x.ty), (false, QQ x.ty)] (by simp [Qq]) (by simp [two.2.1, two.2.2]) (by simp)
     simpa using this
    have hgn := hgr (by simp [Jo, Qc])
    simp (disch := omega) [Qw, Qu, hz, hxi, E, E2]
    have tk := Zjt hsy nlc ctx hm n nl1 gty nl2 a b x n4' hgn hxg hA (by have := WP (ks := [a, b]) (i := 1) (by simp); simp at this; omega) (fun q => (kb q).tell false) (fun q y hy => (kb q).good y hy)
    simp only [GTerm.lv, GTerm.cells] at tk
    refine Qm (Qe.low tk) (by simp) ?_
    rintro r ⟨hr, lo⟩
    cases hT : Qo s (ctx.map Prod.snd) (GTerm.mk 5 n nl1 gty nl2 [a, b]) with
    | ok z =>
     rw [hT] at hr
     obtain ⟨v1, v2, v4, m4, rfl⟩ := hr
     simp (disch := omega)
     exact ⟨v1, v2, v4, m4, by simp⟩
    | bad f p =>
     rw [hT] at hr
     obtain ⟨hf, v1, v2, v4, m4, rfl⟩ := hr
     simp (disch := omega)
     exact ⟨hf, v1, v2, v4, m4, by simp⟩
  ·obtain ⟨a, rfl⟩ := kids1 (by omega)
   have ka := kid 0 (by simp) [] (by simp [Qq]) (by simp) (by simp)
   simp only [List.nil_append, List.getElem_cons_zero] at ka
   have E : ∀ k : Int, k ≠ 6 → eqB 6 k = false := fun k h => by rw [Qb]; omega
   have E2 : eqB 6 6 = true := by rw [Qc]
   have a0 : Qt 6 gty 0 [] ++ ctx.map Prod.snd = ctx.map Prod.snd := by simp [Qt, Qq]
   have of := XC s 6 n nl1 gty nl2 [a] 0 (by simp) nlc ctx _ (Wz ka.small) (ka.tell nlc)
   simp only [GTerm.lv, GTerm.cells] at of
   simp (disch := omega) [WA, Qw, Qu, GTerm.cells, E, E2]
   refine Qm (Qe.low of) (by simp) ?_
   rintro r ⟨hr, lo⟩
   cases hA : Qo s (ctx.map Prod.snd) a with
   | bad f p =>
    rw [hA] at hr
    simp only [ofR] at hr
    obtain ⟨hf, u1, u2, u4, n4', rfl⟩ := hr
    have hf0 : eqB f 0 = false := by rw [Qb]; exact hf
    rw [Yw (by rw [a0]; exact hA)]
    simp (disch := omega) [Qw, Qu, hf0]
    exact ⟨hf, false, false, false, n4', by simp⟩
   | ok x =>
    have hxg := ka.good x hA
    rw [hA] at hr
    simp only [ofR] at hr
    obtain ⟨u1, u2, u4, n4', rfl⟩ := hr
    have hx := X6 hxg.1
    have lx := QM hxg.1
    have hxi : QF 1 (L false x.ty) 0 = some (.rp [N (hd x.ty)]) := ZH hx.2.2.2.1
    have hgt := hty (by simp [WD, Qc])
    have lg := QM hgt
    rw [Zqa hA]
    obtain ⟨z, hzz⟩ : ∃ z, z = 2 :: (x.ty ++ gty) := ⟨_, rfl⟩
    have gl := ZaK 2 false false nl1 x.ty gty (by omega) (by omega)
    rw [← hzz] at gl ⊢
    simp (disch := omega) [Qw, Qu, hz, hxi, E, E2, Qn]
    refine Qa gl (by simp) ?_
    simp (disch := omega)
    have dn := ZaA z x.needs
    refine Qm (Qe.low dn) (by simp) ?_
    rintro r ⟨hr, lo⟩
    have hl := Zaw (ks := [x]) hr
    unfold ZF at hl ⊢
    by_cases q9 : z.length ≤ 40
    ·rw [if_pos q9] at hl ⊢
     obtain ⟨v1, v2, v4, m4, rfl⟩ := hl
     simp (disch := omega)
     exact ⟨v1, v2, v4, m4, by simp⟩
    ·rw [if_neg q9] at hl ⊢
     obtain ⟨hf, v1, v2, v4, m4, rfl⟩ := hl
     simp (disch := omega)
     exact ⟨hf, v1, v2, v4, m4, by simp⟩
  ·obtain ⟨a, rfl⟩ := kids1 (by omega)
   have ka := kid 0 (by simp) [] (by simp [Qq]) (by simp) (by simp)
   simp only [List.nil_append, List.getElem_cons_zero] at ka
   have E : ∀ k : Int, k ≠ 7 → eqB 7 k = false := fun k h => by rw [Qb]; omega
   have E2 : eqB 7 7 = true := by rw [Qc]
   have a0 : Qt 7 gty 0 [] ++ ctx.map Prod.snd = ctx.map Prod.snd := by simp [Qt, Qq]
   have of := XC s 7 n nl1 gty nl2 [a] 0 (by simp) nlc ctx _ (Wz ka.small) (ka.tell nlc)
   simp only [GTerm.lv, GTerm.cells] at of
   simp (disch := omega) [WA, Qw, Qu, GTerm.cells, E, E2]
   refine Qm (Qe.low of) (by simp) ?_
   rintro r ⟨hr, lo⟩
   cases hA : Qo s (ctx.map Prod.snd) a with
   | bad f p =>
    rw [hA] at hr
    simp only [ofR] at hr
    obtain ⟨hf, u1, u2, u4, n4', rfl⟩ := hr
    have hf0 : eqB f 0 = false := by rw [Qb]; exact hf
    rw [Yw (by rw [a0]; exact hA)]
    simp (disch := omega) [Qw, Qu, hf0]
    exact ⟨hf, false, false, false, n4', by simp⟩
   | ok x =>
    have hxg := ka.good x hA
    rw [hA] at hr
    simp only [ofR] at hr
    obtain ⟨u1, u2, u4, n4', rfl⟩ := hr
    have hx := X6 hxg.1
    have lx := QM hxg.1
    have hxi : QF 1 (L false x.ty) 0 = some (.rp [N (hd x.ty)]) := ZH hx.2.2.2.1
    have hgt := hty (by simp [WD, Qc])
    have lg := QM hgt
    rw [Zoq hA]
    obtain ⟨z, hzz⟩ : ∃ z, z = 2 :: (gty ++ x.ty) := ⟨_, rfl⟩
    have gl := ZaK 2 false nl1 false gty x.ty (by omega) (by omega)
    rw [← hzz] at gl ⊢
    simp (disch := omega) [Qw, Qu, hz, hxi, E, E2, Qn]
    refine Qa gl (by simp) ?_
    simp (disch := omega)
    have dn := ZaA z x.needs
    refine Qm (Qe.low dn) (by simp) ?_
    rintro r ⟨hr, lo⟩
    have hl := Zaw (ks := [x]) hr
    unfold ZF at hl ⊢
    by_cases q9 : z.length ≤ 40
    ·rw [if_pos q9] at hl ⊢
     obtain ⟨v1, v2, v4, m4, rfl⟩ := hl
     simp (disch := omega)
     exact ⟨v1, v2, v4, m4, by simp⟩
    ·rw [if_neg q9] at hl ⊢
     obtain ⟨hf, v1, v2, v4, m4, rfl⟩ := hl
     simp (disch := omega)
     exact ⟨hf, v1, v2, v4, m4, by simp⟩
  ·obtain ⟨a, b, c, rfl⟩ := kids3 (by omega)
   have ka := kid 0 (by simp) [] (by simp [Qq]) (by simp) (by simp)
   simp only [List.nil_append, List.getElem_cons_zero] at ka
   have E : ∀ k : Int, k ≠ 8 → eqB 8 k = false := fun k h => by rw [Qb]; omega
   have E2 : eqB 8 8 = true := by rw [Qc]
   have a0 : Qt 8 gty 0 [] ++ ctx.map Prod.snd = ctx.map Prod.snd := by simp [Qt, Qq]
   have of := XC s 8 n nl1 gty nl2 [a, b, c] 0 (by simp) nlc ctx _ (Wz ka.small) (ka.tell nlc)
   simp only [GTerm.lv, GTerm.cells] at of
   simp (disch := omega) [WA, Qw, Qu, GTerm.cells, E, E2]
   refine Qm (Qe.low of) (by simp) ?_
   rintro r ⟨hr, lo⟩
   cases hA : Qo s (ctx.map Prod.snd) a with
   | bad f p =>
    rw [hA] at hr
    simp only [ofR] at hr
    obtain ⟨hf, u1, u2, u4, n4', rfl⟩ := hr
    have hf0 : eqB f 0 = false := by rw [Qb]; exact hf
    rw [Yw (by rw [a0]; exact hA)]
    simp (disch := omega) [Qw, Qu, hf0]
    exact ⟨hf, false, false, false, n4', by simp⟩
   | ok x =>
    have hxg := ka.good x hA
    rw [hA] at hr
    simp only [ofR] at hr
    obtain ⟨u1, u2, u4, n4', rfl⟩ := hr
    have hx := X6 hxg.1
    have lx := QM hxg.1
    have hxi : QF 1 (L false x.ty) 0 = some (.rp [N (hd x.ty)]) := ZH hx.2.2.2.1
    have kb : hd x.ty = 2 → KidT s ([(false, QQ x.ty)] ++ ctx) b := fun q => by
     have two := VR hxg.1 (by rw [q]; exact XB.2)
     have := kid 1 (by simp) [(false, QQ x.ty)] (by simp [Qq]) (by simp [two.2.1, two.2.2]) (by simp)
     simpa using this
    have kc : hd x.ty = 2 → KidT s ([(false, WG x.ty)] ++ ctx) c := fun q => by
     have two := VR hxg.1 (by rw [q]; exact XB.2)
     have := kid 2 (by simp) [(false, WG x.ty)] (by simp [Qq]) (by simp [two.2.1, two.2.2]) (by simp)
     simpa using this
    have hgn := hgr (by simp [Jo, Qc])
    simp (disch := omega) [Qw, Qu, hz, hxi, E, E2]
    have tk := ZlN hsy nlc ctx hm n nl1 gty nl2 a b c x n4' hgn hxg hA (by have := WP (ks := [a, b, c]) (i := 1) (by simp); simp at this; omega) (by have := WP (ks := [a, b, c]) (i := 2) (by simp); simp at this; omega) (fun q => (kb q).tell false) (fun q y hy => (kb q).good y hy) (fun q => (kc q).tell false) (fun q y hy => (kc q).good y hy)
    simp only [GTerm.lv, GTerm.cells] at tk
    refine Qm (Qe.low tk) (by simp) ?_
    rintro r ⟨hr, lo⟩
    cases hT : Qo s (ctx.map Prod.snd) (GTerm.mk 8 n nl1 gty nl2 [a, b, c]) with
    | ok z =>
     rw [hT] at hr
     obtain ⟨v1, v2, v4, m4, rfl⟩ := hr
     simp (disch := omega)
     exact ⟨v1, v2, v4, m4, by simp⟩
    | bad f p =>
     rw [hT] at hr
     obtain ⟨hf, v1, v2, v4, m4, rfl⟩ := hr
     simp (disch := omega)
     exact ⟨hf, v1, v2, v4, m4, by simp⟩
  ·obtain ⟨a, rfl⟩ := kids1 (by omega)
   have hgt := hty (by simp [WD, Qc])
   have lg := QM hgt
   have hn1 : nl1 = false := by
    cases hn : nl1 with
    | false => rfl
    | true => have := fl1 hn; subst this; simp at lg
   subst hn1
   have hgn := hgr (by simp [Jo, Qc])
   have ka : KidT s ([(false, gty)] ++ ctx) a := by
    have := kid 0 (by simp) [(false, gty)] (by simp [Qq]) (by simp [hgt]) (by simp)
    simpa using this
   have E : ∀ k : Int, k ≠ 9 → eqB 9 k = false := fun k h => by rw [Qb]; omega
   have E2 : eqB 9 9 = true := by rw [Qc]
   have a0 : Qt 9 gty 0 [] ++ ctx.map Prod.snd = gty :: ctx.map Prod.snd := by simp [Qt]
   have of := XC s 9 n false gty nl2 [a] 0 (by simp) false ((false, gty) :: ctx) _ (Wz ka.small) (ka.tell false)
   have w := Jn nlc false ctx [(false, gty)] (by omega) (by simp)
   simp only [GTerm.lv, GTerm.cells, List.map_cons, List.map_nil, List.cons_append, List.nil_append] at of w
   simp (disch := omega) [WA, Qw, Qu, GTerm.cells, E, E2, Qn]
   refine Qa w (by simp) ?_
   simp (disch := omega) [E, E2]
   refine Qm (Qe.low of) (by simp) ?_
   rintro r ⟨hr, lo⟩
   cases hA : Qo s (gty :: ctx.map Prod.snd) a with
   | bad f p =>
    rw [hA] at hr
    simp only [ofR] at hr
    obtain ⟨hf, u1, u2, u4, n4', rfl⟩ := hr
    have hf0 : eqB f 0 = false := by rw [Qb]; exact hf
    rw [Yw (by rw [a0]; exact hA)]
    simp (disch := omega) [Qw, Qu, hf0]
    exact ⟨hf, false, false, false, n4', by simp⟩
   | ok x =>
    have hxg := ka.good x hA
    rw [hA] at hr
    simp only [ofR] at hr
    obtain ⟨u1, u2, u4, n4', rfl⟩ := hr
    have lx := QM hxg.1
    have hxl : x.needs.length = ctx.length + 1 := by have := hxg.2.1; simpa using this
    have c2 : ZE 1 (L false x.needs) (some 1) none none = some (L false (x.needs.drop 1)) := YT (k := 1) (by omega)
    have i0 : QF 1 (L false x.needs) 0 = some (.rp [N (x.needs.getD 0 0)]) := Zk1 (i := 0) (by omega)
    have g0 := Zfq hxg.2.2 (show 0 < x.needs.length by omega)
    have cp := Jf false (x.needs.drop 1) (by simp; omega)
    have us := used1 (s := s) (l := x.needs) (g := n) (by omega)
    rw [tell_fun hA, us]
    generalize x.needs.getD 0 0 = y0 at *
    obtain ⟨yr, hyr⟩ : ∃ yr, yr = x.needs.drop 1 := ⟨_, rfl⟩
    rw [← hyr] at c2 cp ⊢
    obtain ⟨z, hzz⟩ : ∃ z, z = (3 + n) :: (gty ++ x.ty) := ⟨_, rfl⟩
    have gl := ZaK (3 + n) false false false gty x.ty (by omega) (by omega)
    rw [← hzz] at gl ⊢
    have wr : IntKind.i64.wrap (3 + n) = 3 + n := Qh (by have := hgn.1; have := hgn.2; omega)
    simp (disch := omega) [Qw, Qu, hz, E, E2, i0]
    refine Qa (YK t g0 hgn) (by simp) ?_
    cases hu : s.le y0 n
    ·simp (disch := omega)
     refine Qm (Qe.low (Xa 9 (by omega))) (by simp) ?_
     rintro r ⟨⟨h3, w1, w2, w4, k4, rfl⟩, lo⟩
     simp (disch := omega)
     exact ⟨by omega, w1, w2, w4, k4, by simp⟩
    ·simp (disch := omega) [Qn, wr, c2]
     refine Qa gl (by simp) ?_
     simp (disch := omega) [c2]
     refine Qa cp (by simp) ?_
     simp (disch := omega)
     have dn := ZaA z yr
     refine Qm (Qe.low dn) (by simp) ?_
     rintro r ⟨hr, lo⟩
     have hl := Zaw (ks := [x]) hr
     unfold ZF at hl ⊢
     by_cases q9 : z.length ≤ 40
     ·rw [if_pos q9] at hl ⊢
      obtain ⟨v1, v2, v4, m4, rfl⟩ := hl
      simp (disch := omega)
      exact ⟨v1, v2, v4, m4, by simp⟩
     ·rw [if_neg q9] at hl ⊢
      obtain ⟨hf, v1, v2, v4, m4, rfl⟩ := hl
      simp (disch := omega)
      exact ⟨hf, v1, v2, v4, m4, by simp⟩
  ·obtain ⟨a, b, rfl⟩ := Zm6 (by omega)
   have ka := kid 0 (by simp) [] (by simp [Qq]) (by simp) (by simp)
   simp only [List.nil_append, List.getElem_cons_zero] at ka
   have kb := kid 1 (by simp) [] (by simp [Qq]) (by simp) (by simp)
   simp only [List.nil_append, List.getElem_cons_succ, List.getElem_cons_zero] at kb
   have E : ∀ k : Int, k ≠ 10 → eqB 10 k = false := fun k h => by rw [Qb]; omega
   have E2 : eqB 10 10 = true := by rw [Qc]
   have a0 : Qt 10 gty 0 [] ++ ctx.map Prod.snd = ctx.map Prod.snd := by simp [Qt, Qq]
   have of := XC s 10 n nl1 gty nl2 [a, b] 0 (by simp) nlc ctx _ (Wz ka.small) (ka.tell nlc)
   simp only [GTerm.lv, GTerm.cells] at of
   simp (disch := omega) [WA, Qw, Qu, GTerm.cells, E, E2]
   refine Qm (Qe.low of) (by simp) ?_
   rintro r ⟨hr, lo⟩
   cases hA : Qo s (ctx.map Prod.snd) a with
   | bad f p =>
    rw [hA] at hr
    simp only [ofR] at hr
    obtain ⟨hf, u1, u2, u4, n4', rfl⟩ := hr
    have hf0 : eqB f 0 = false := by rw [Qb]; exact hf
    rw [Yw (by rw [a0]; exact hA)]
    simp (disch := omega) [Qw, Qu, hf0]
    exact ⟨hf, false, false, false, n4', by simp⟩
   | ok x =>
    have hxg := ka.good x hA
    rw [hA] at hr
    simp only [ofR] at hr
    obtain ⟨u1, u2, u4, n4', rfl⟩ := hr
    have hx := X6 hxg.1
    have lx := QM hxg.1
    have hxi : QF 1 (L false x.ty) 0 = some (.rp [N (hd x.ty)]) := ZH hx.2.2.2.1
    rw [tell_app hA hxg.1]
    simp (disch := omega) [Qw, Qu, hz, hxi, E, E2]
    refine Qa (Zh4 (hd x.ty)) (by simp) ?_
    cases q : QJ (hd x.ty)
    ·simp (disch := omega)
     refine Qm (Qe.low (Xa 6 (by omega))) (by simp) ?_
     rintro r ⟨⟨h3, w1, w2, w4, k4, rfl⟩, lo⟩
     simp (disch := omega)
     exact ⟨by omega, w1, w2, w4, k4, by simp⟩
    ·simp (disch := omega)
     have of2 := XC s 10 n nl1 gty nl2 [a, b] 1 (by simp) nlc ctx _ (Wz kb.small) (kb.tell nlc)
     simp only [GTerm.lv, GTerm.cells] at of2
     refine Qm (Qe.low of2) (by simp) ?_
     rintro r ⟨hr, lo⟩
     cases hB : Qo s (ctx.map Prod.snd) b with
     | bad f p =>
      rw [hB] at hr
      simp only [ofR] at hr
      obtain ⟨hf, v1, v2, v4, m4', rfl⟩ := hr
      have hf0 : eqB f 0 = false := by rw [Qb]; exact hf
      simp (disch := omega) [Qw, Qu, hf0]
      exact ⟨hf, false, false, false, m4', by simp⟩
     | ok y =>
      have hyg := kb.good y hB
      rw [hB] at hr
      simp only [ofR] at hr
      obtain ⟨v1, v2, v4, m4', rfl⟩ := hr
      have ly := QM hyg.1
      have s1 := YS t false false x.needs 1 (GSys.G1 t) y.needs (by rw [hxg.2.1]; omega) (by rw [hxg.2.1, hyg.2.1]) hxg.2.2 hyg.2.2
      rw [VW hsy _ _ hyg.2.2] at s1
      have hk := Zau q
      have p0 := Jb hxg.1 0 (.inr hk)
      have p1 := Jb hxg.1 1 (.inr hk)
      have hsg : (Qz (hd x.ty)).2 = Wp (hd x.ty) := (ZB hx.2.1 hx.2.2.1).2.2.2.2.2 (.inl q)
      have hgG : s.G (Wp (hd x.ty)) := J1 hx.1 (.inl q)
      simp (disch := omega) [Qw, Qu, hz, Qn]
      refine Qa p0 (by simp) ?_
      simp (disch := omega)
      refine Qa (ZfR false false y.ty (QQ x.ty) (by omega)) (by simp) ?_
      cases he : (y.ty == QQ x.ty)
      ·have he' : y.ty ≠ QQ x.ty := by simpa using he
       simp (disch := omega)
       refine Qm (Qe.low (Xa 3 (by omega))) (by simp) ?_
       rintro r ⟨⟨h3, w1, w2, w4, k4, rfl⟩, lo⟩
       simp (disch := omega) [he']
       exact ⟨by omega, w1, w2, w4, k4, by simp⟩
      ·have he' : y.ty = QQ x.ty := by simpa using he
       simp (disch := omega)
       refine Qa p1 (by simp) ?_
       simp (disch := omega) [hxi]
       refine Qa (ZbY (hd x.ty) (by unfold I64; omega) hx.2.1) (by simp) ?_
       simp (disch := omega)
       have s3 := YS t false false x.needs (Wp (hd x.ty)) hgG y.needs (by rw [hxg.2.1]; omega) (by rw [hxg.2.1, hyg.2.1]) hxg.2.2 hyg.2.2
       rw [Zhi] at s3
       refine Qa s3 (by simp) ?_
       simp (disch := omega) [he', hsg]
       exact ⟨true, true, true, true, by simp⟩
  ·obtain ⟨a, rfl⟩ := kids1 (by omega)
   have ka := kid 0 (by simp) [] (by simp [Qq]) (by simp) (by simp)
   simp only [List.nil_append, List.getElem_cons_zero] at ka
   have E : ∀ k : Int, k ≠ 11 → eqB 11 k = false := fun k h => by rw [Qb]; omega
   have E2 : eqB 11 11 = true := by rw [Qc]
   have a0 : Qt 11 gty 0 [] ++ ctx.map Prod.snd = ctx.map Prod.snd := by simp [Qt, Qq]
   have of := XC s 11 n nl1 gty nl2 [a] 0 (by simp) nlc ctx _ (Wz ka.small) (ka.tell nlc)
   simp only [GTerm.lv, GTerm.cells] at of
   simp (disch := omega) [WA, Qw, Qu, GTerm.cells, E, E2]
   refine Qm (Qe.low of) (by simp) ?_
   rintro r ⟨hr, lo⟩
   cases hA : Qo s (ctx.map Prod.snd) a with
   | bad f p =>
    rw [hA] at hr
    simp only [ofR] at hr
    obtain ⟨hf, u1, u2, u4, n4', rfl⟩ := hr
    have hf0 : eqB f 0 = false := by rw [Qb]; exact hf
    rw [Yw (by rw [a0]; exact hA)]
    simp (disch := omega) [Qw, Qu, hf0]
    exact ⟨hf, false, false, false, n4', by simp⟩
   | ok x =>
    have hxg := ka.good x hA
    rw [hA] at hr
    simp only [ofR] at hr
    obtain ⟨u1, u2, u4, n4', rfl⟩ := hr
    have hx := X6 hxg.1
    have lx := QM hxg.1
    have hxi : QF 1 (L false x.ty) 0 = some (.rp [N (hd x.ty)]) := ZH hx.2.2.2.1
    have hgn := hgr (by simp [Jo, Qc])
    rw [tell_box hA]
    obtain ⟨z, hzz⟩ : ∃ z, z = (19 + n) :: x.ty := ⟨_, rfl⟩
    have gl := Zpe (19 + n) false false x.ty (by omega)
    rw [← hzz] at gl ⊢
    have zr := Ve ctx.length (by omega)
    have sc := YS t false false (WB ctx.length) n hgn x.needs (by simp [WB]; omega) (by rw [hxg.2.1]; simp [WB]) (Zaj t _).2 hxg.2.2
    have e1 := ZcC hsy n x.needs
    rw [hxg.2.1] at e1
    rw [e1] at sc
    have wr : IntKind.i64.wrap (19 + n) = 19 + n := Qh (by have := hgn.1; have := hgn.2; omega)
    simp (disch := omega) [Qw, Qu, hz, hxi, E, E2, Qn, wr]
    refine Qa gl (by simp) ?_
    simp (disch := omega)
    refine Qa zr (by simp) ?_
    simp (disch := omega)
    refine Qa sc (by simp) ?_
    simp (disch := omega)
    have dn := ZaA z (WO s n x.needs)
    refine Qm (Qe.low dn) (by simp) ?_
    rintro r ⟨hr, lo⟩
    have hl := Zaw (ks := [x]) hr
    unfold ZF at hl ⊢
    by_cases q9 : z.length ≤ 40
    ·rw [if_pos q9] at hl ⊢
     obtain ⟨v1, v2, v4, m4, rfl⟩ := hl
     simp (disch := omega)
     exact ⟨v1, v2, v4, m4, by simp⟩
    ·rw [if_neg q9] at hl ⊢
     obtain ⟨hf, v1, v2, v4, m4, rfl⟩ := hl
     simp (disch := omega)
     exact ⟨hf, v1, v2, v4, m4, by simp⟩
  ·obtain ⟨a, b, rfl⟩ := Zm6 (by omega)
   have ka := kid 0 (by simp) [] (by simp [Qq]) (by simp) (by simp)
   simp only [List.nil_append, List.getElem_cons_zero] at ka
   have E : ∀ k : Int, k ≠ 12 → eqB 12 k = false := fun k h => by rw [Qb]; omega
   have E2 : eqB 12 12 = true := by rw [Qc]
   have a0 : Qt 12 gty 0 [] ++ ctx.map Prod.snd = ctx.map Prod.snd := by simp [Qt, Qq]
   have of := XC s 12 n nl1 gty nl2 [a, b] 0 (by simp) nlc ctx _ (Wz ka.small) (ka.tell nlc)
   simp only [GTerm.lv, GTerm.cells] at of
   simp (disch := omega) [WA, Qw, Qu, GTerm.cells, E, E2]
   refine Qm (Qe.low of) (by simp) ?_
   rintro r ⟨hr, lo⟩
   cases hA : Qo s (ctx.map Prod.snd) a with
   | bad f p =>
    rw [hA] at hr
    simp only [ofR] at hr
    obtain ⟨hf, u1, u2, u4, n4', rfl⟩ := hr
    have hf0 : eqB f 0 = false := by rw [Qb]; exact hf
    rw [Yw (by rw [a0]; exact hA)]
    simp (disch := omega) [Qw, Qu, hf0]
    exact ⟨hf, false, false, false, n4', by simp⟩
   | ok x =>
    have hxg := ka.good x hA
    rw [hA] at hr
    simp only [ofR] at hr
    obtain ⟨u1, u2, u4, n4', rfl⟩ := hr
    have hx := X6 hxg.1
    have lx := QM hxg.1
    have hxi : QF 1 (L false x.ty) 0 = some (.rp [N (hd x.ty)]) := ZH hx.2.2.2.1
    have kb : W6 (hd x.ty) = true → KidT s ([(false, QQ x.ty)] ++ ctx) b := fun q => by
     have two := ZlM hxg.1 (ZcK q)
     have := kid 1 (by simp) [(false, QQ x.ty)] (by simp [Qq]) (by simp [two.2.2]) (by simp)
     simpa using this
    have hgn := hgr (by simp [Jo, Qc])
    simp (disch := omega) [Qw, Qu, hz, hxi, E, E2]
    have tk := Zmu hsy nlc ctx hm n nl1 gty nl2 a b x n4' hgn hxg hA (by have := WP (ks := [a, b]) (i := 1) (by simp); simp at this; omega) (fun q => (kb q).tell false) (fun q y hy => (kb q).good y hy)
    simp only [GTerm.lv, GTerm.cells] at tk
    refine Qm (Qe.low tk) (by simp) ?_
    rintro r ⟨hr, lo⟩
    cases hT : Qo s (ctx.map Prod.snd) (GTerm.mk 12 n nl1 gty nl2 [a, b]) with
    | ok z =>
     rw [hT] at hr
     obtain ⟨v1, v2, v4, m4, rfl⟩ := hr
     simp (disch := omega)
     exact ⟨v1, v2, v4, m4, by simp⟩
    | bad f p =>
     rw [hT] at hr
     obtain ⟨hf, v1, v2, v4, m4, rfl⟩ := hr
     simp (disch := omega)
     exact ⟨hf, v1, v2, v4, m4, by simp⟩
end Go.Proofs.YtclfngbealdbgaaGreat
namespace Go.Proofs.YtclfngbealdbgaaGreat
open Go Go.TL
open Go.Proofs.YtclfngbealdbgaaGreat.Ty
set_option linter.unusedSimpArgs false
set_option linter.unusedVariables false
set_option maxRecDepth 20000
set_option maxHeartbeats 4000000
theorem Zj7 {s : GSys} (hsw : s.wf) (g : GTerm) (hw : g.wf) (n : Int) (hn : I64 n) : Qe Tryz.prog V8 [s.lv, g.lv, N n] (· = B (s.sys && g.termB s.size n)) := by
 refine Qe.of_codeOf ZjW Qy (by simp) ⟨_, rfl, by simp⟩ ?_
 simp (disch := omega) [ZdB, Qw, Qu]
 refine Qa (Zbp s hsw) (by simp) ?_
 cases hs : s.sys
 ·simp (disch := omega)
 ·have t := GSys.sys_of hs
  have h2 := t.lo; have h16 := t.hi
  simp (disch := omega)
  refine Qa (Zht n 0 8) (by simp) ?_
  cases hr : Wb n 0 8
  ·simp (disch := omega) [GTerm.termB, hr]
  ·rw [Q7] at hr
   have hr' : Wb n 0 8 = true := by rw [Q7]; exact hr
   have hl := Zk2 g.size g (by omega) hw 400 (by omega) (by omega)
   have h2' : leB 0 (WS g.size 400) = decide (g.size ≤ 400) := by
    rw [Bool.eq_iff_iff]
    simp only [Qf, Qd, Qi, Qg, Qc, Qb, Bool.not_true, Bool.not_false, WS, decide_eq_true_eq]
    split <;> omega
   simp (disch := omega)
   refine Qa hl (by simp) ?_
   by_cases hsz : g.size ≤ 400
   ·have hI : I64 s.size := ⟨by omega, by omega⟩
    have hf := Zqy s.size true hI g.size g (by omega) hw n (by omega) (by omega)
    simp (disch := omega) [h2', hsz]
    refine Qa hf (by simp) ?_
    simp (disch := omega) [GTerm.termB, hr', hsz]
   ·simp (disch := omega) [h2', hsz, GTerm.termB]
theorem ZoH {s : GSys} {ctx : Wf} {g : GTerm} (a : Arg s ctx g) (nlc : Bool) : Qe Tryz.prog VC [s.lv, LC nlc ctx, g.lv] (· = B (inB s ctx g)) := by
 refine Qe.of_codeOf Ziv Qy (by simp) ⟨_, rfl, by simp⟩ ?_
 simp (disch := omega) [Zcq, Qw, Qu]
 refine Qa (Zbp s a.sw) (by simp) ?_
 cases hs : s.sys
 ·simp (disch := omega) [inB, hs]
 ·have t := GSys.sys_of hs
  simp (disch := omega)
  refine Qa (Zms s t nlc ctx a.cw) (by simp) ?_
  cases hc : Zfy s.size ctx
  ·simp (disch := omega) [inB, hs, hc]
  ·simp (disch := omega)
   have it := Zj7 a.sw g a.gw ctx.length (Zfk a.cw)
   rw [hs] at it
   refine Qa it (by simp) ?_
   simp (disch := omega) [inB, hs, hc]
def Zlm (x : Option TT) (r : LV) : Prop := match x with
 | some x => ∃ u1 u2, r = .tup [OU u1 false x.ty, OU u2 false x.needs, B true]
 | none => ∃ u1 u2, r = .tup [.sl u1 true 1 [], .sl u2 true 1 [], B false]
theorem ZjD {s : GSys} {ctx : Wf} {g : GTerm} (a : Arg s ctx g) (nlc : Bool) : Qe Tryz.prog V6 [s.lv, LC nlc ctx, g.lv] (Zlm (Jh s ctx g)) := by
 refine Qe.of_codeOf Zkz Qy (by simp) ?_ ?_
 ·cases h : Jh s ctx g with
  | some x => exact ⟨.tup [OU true false x.ty, OU true false x.needs, B true], ⟨true, true, rfl⟩, by simp⟩
  | none => exact ⟨.tup [.sl false true 1 [], .sl false true 1 [], B false], ⟨false, false, rfl⟩, by simp⟩
 simp (disch := omega) [ZdC, Qw, Qu]
 refine Qa (ZoH a nlc) (by simp) ?_
 cases hin : inB s ctx g
 ·have hx : Jh s ctx g = none := by simp [Jh, hin]
  rw [hx]
  simp (disch := omega) [Zlm]
 ·have hin' := hin
  unfold inB at hin'
  simp only [Bool.and_eq_true] at hin'
  obtain ⟨hs, hc, ht⟩ := hin'
  obtain ⟨f1, f2, f3⟩ := a.flags hc
  unfold GTerm.termB at ht
  simp only [Bool.and_eq_true, decide_eq_true_eq] at ht
  have tl := Zff hs g.size g nlc ctx (Nat.le_refl _) a.gw a.gf f1 f2 (by omega) ht.2.2
  simp (disch := omega)
  refine Qm (Qe.low tl) (by simp) ?_
  rintro r ⟨hr, lo⟩
  cases hT : Qo s (ctx.map Prod.snd) g with
  | ok x =>
   have hx : Jh s ctx g = some x := by simp [Jh, hin, hT]
   rw [hT] at hr
   obtain ⟨u1, u2, u4, n4, rfl⟩ := hr
   have hz : eqB 0 0 = true := by rw [Qc]
   rw [hx]
   simp (disch := omega) [Qw, Qu, hz, Zlm]
  | bad f p =>
   have hx : Jh s ctx g = none := by simp [Jh, hin, hT]
   rw [hT] at hr
   obtain ⟨hf, u1, u2, u4, n4, rfl⟩ := hr
   have hf0 : eqB f 0 = false := by rw [Qb]; exact hf
   rw [hx]
   simp (disch := omega) [Qw, Qu, hf0, Zlm]
end Go.Proofs.YtclfngbealdbgaaGreat
namespace Go.Proofs.YtclfngbealdbgaaGreat
open Go Go.TL
open Go.Proofs.YtclfngbealdbgaaGreat.Ty
set_option linter.unusedSimpArgs false
set_option linter.unusedVariables false
set_option maxRecDepth 20000
set_option maxHeartbeats 4000000
end Go.Proofs.YtclfngbealdbgaaGreat
namespace Go.Proofs.YtclfngbealdbgaaGreat
open Go Go.TL
open Go.Proofs.YtclfngbealdbgaaGreat.Ty
set_option linter.unusedSimpArgs false
set_option linter.unusedVariables false
set_option maxRecDepth 20000
set_option maxHeartbeats 4000000
end Go.Proofs.YtclfngbealdbgaaGreat
namespace Go.Proofs.YtclfngbealdbgaaGreat
open Go Go.TL
open Go.Proofs.YtclfngbealdbgaaGreat.Ty
set_option linter.unusedSimpArgs false
def codeI (a : Bool) (g : Int) : Int := if g < 0 then (if a = true then 35 else 36) else (if a = true then g + 3 else g + 19)
theorem code_ok (a : Bool) (g : Int) (h : I64 g) (hg : g ≤ 1000) : Qe Tryz.prog V3 [B a, N g] (· = N (codeI a g)) := by
 refine Qe.of_codeOf ZjQ Qy (by simp) ⟨_, rfl, by simp⟩ ?_
 unfold I64 at h
 cases a
 all_goals
  simp (disch := omega) [Zds]
  repeat' (first
  | (with_reducible (first | refine Ql (fun hb_ => ?_) (fun hb_ => ?_) | refine Qk (fun hb_ => ?_) (fun hb_ => ?_)) <;> simp (disch := omega) [hb_])
  | simp (disch := omega))
 all_goals (try simp only [Qf, Qd, Qi, Qg, Qc, Qb, Bool.not_true, Bool.not_false] at *)
 all_goals simp_all [codeI, Qf, Qd]
 all_goals (try (rw [Qh (by omega)]))
 all_goals omega
attribute [local simp low] W9
attribute [local simp] ZdU Zed ZdX ZdR Zd5 Zee
theorem ZoK (nl : Bool) (l : List Int) (hl : l.length ≤ 1048576) (hw : ∀ n ∈ l, I64 n) : Qe Tryz.prog YX [L nl l] (· = B (wty l)) := Zfm nl l ⟨by omega, hw⟩
theorem ZmU {c : Int} (h : QJ c = true) : codeI false (Wp c) = if c = 35 then 36 else c + 16 := by
 rw [XL] at h
 unfold codeI Wp
 by_cases h3 : c = 35
 ·subst h3; simp
 ·rw [if_neg (show ¬ 35 ≤ c by omega), if_neg (show ¬ 19 ≤ c by omega), if_neg (show ¬ c - 3 < 0 by omega), if_neg h3]
  simp; omega
theorem ZpW (nl : Bool) (l : List Int) (hl : l.length ≤ 1048576) (hw : ∀ n ∈ l, I64 n) (d : Nat) : ∀ (t : RT) (pre post : List Int), t.flat.length ≤ d → t.ok → l = pre ++ t.flat ++ post →
  Qe Tryz.prog Kn [L nl l, N pre.length] (· = .tup [.sl true false 1 (t.boxed.map fun n => [N n]), N (pre.length + t.flat.length)]) := by
 induction d with
 | zero => intro t _ _ h; have := t.flat_pos; omega
 | succ d ih =>
  rintro ⟨c, ks⟩ pre post hd hok hL
  refine Qe.of_codeOf Zjw Qy (by simp) ⟨_, rfl, by simp⟩ ?_
  have hf : (RT.nd c ks).flat = c :: QS ks := by simp [RT.flat]
  have hc : I64 c := hw c (by rw [hL, hf]; simp)
  have hi : QF 1 (L nl l) (pre.length : Int) = some (.rp [N c]) := by
   have h7 := ZaW (fun n => [N n]) pre (QS ks ++ post) c false nl 1
   rw [show shareAll [N c] = [N c] by simp] at h7
   rw [hL, hf, show pre ++ (c :: QS ks) ++ post = pre ++ c :: (QS ks ++ post) by simp]
   exact h7
  have hlen : l.length = pre.length + (1 + (QS ks).length) + post.length := by rw [hL, hf]; simp; omega
  simp (contextual := true) (disch := omega) [Zdi, hi, Qh]
  have hkN : WC c = some ks.length := by simp only [RT.ok] at hok; exact hok.1
  have hkI : Zdn c = ks.length := by simp [Zdn, hkN]
  have hk2 := Zje hkN
  have hoks : oks ks := by simp only [RT.ok] at hok; exact hok.2
  have hbl := (RT.nd c ks).boxed_length
  rw [hf] at hbl
  simp only [List.length_cons] at hbl
  generalize hfr : (if QJ c = true then [4, if c = 35 then 36 else c + 16] else [c]) = front at *
  have hbx : (RT.nd c ks).boxed = front ++ Wa ks := by simp only [RT.boxed]; rw [hfr]
  have hfl : front.length ≤ 2 := by rw [← hfr]; split <;> simp
  refine Qa (Zh4 c) (by simp) ?_
  simp (contextual := true) (disch := omega)
  refine ⟨fun ha => ?_, fun ha => ?_⟩
  ·rw [if_pos ha] at hfr
   have hc0 : 0 ≤ c := by rw [XL] at ha; omega
   have hg : I64 (Wp c) ∧ Wp c ≤ 1000 := by
    rw [XL] at ha
    unfold Wp I64
    repeat' split
    all_goals omega
   refine Qa (ZbY c hc hc0) (by simp) ?_
   simp (contextual := true) (disch := omega)
   refine Qa (code_ok false (Wp c) hg.1 hg.2) (by simp) ?_
   rw [ZmU ha]
   simp (contextual := true) (disch := omega)
   refine Vd (fun k s => ∃ dn rest, ks = dn ++ rest ∧ k = rest.length ∧ s.h = [] ∧ s.t 0 = L nl l ∧ s.t 1 = N (pre.length + 1 + (QS dn).length) ∧ s.t 6 = N c ∧ s.t 8 = N dn.length ∧
    s.t 7 = .sl true false 1 ((front ++ Wa dn).map fun n => [N n])) ks.length ?_ ?_
   ·refine ⟨[], ks, rfl, rfl, ?_⟩
    simp [QS, Wa, ← hfr]
   ·rintro k s ⟨dn, rest, hks, hk, g1, g2, g3, g4, g5, g6⟩
    simp (contextual := true) (disch := omega) [g1, g2, g3, g4, g5, g6]
    refine Qa (Zhd c) (by simp) ?_
    rw [hkI]
    simp (contextual := true) (disch := omega) [g1, g2, g3, g4, g5, g6]
    refine ⟨fun _ h8 => ?_, fun _ h8 => ?_⟩
    ·match rest with
     | [] => exfalso; rw [hks] at h8; simp at h8
     | t :: rest =>
      have ht : t.flat.length ≤ d := by
       have := ZcL (ts := ks) (t := t) (by rw [hks]; simp)
       rw [hf] at hd
       simp at hd; omega
      have hsplit : l = (pre ++ [c] ++ QS dn) ++ t.flat ++ (QS rest ++ post) := by
       rw [hL, hf, hks, Yx]; simp [QS]
      have := ih t (pre ++ [c] ++ QS dn) (QS rest ++ post) ht (ZaZ.1 hoks t (by rw [hks]; simp)) hsplit
      rw [show ((pre ++ [c] ++ QS dn).length : Int) = pre.length + 1 + (QS dn).length by simp; omega] at this
      refine Qa this (by simp) ?_
      have hb2 : front.length + (Wa dn).length + t.boxed.length ≤ 2 * l.length := by
       rw [hbx, hks, YJ] at hbl
       simp [Wa] at hbl
       rw [hks] at hlen
       omega
      have hfl2 : (QS dn).length + t.flat.length ≤ l.length := by
       rw [hsplit]; simp; omega
      simp (contextual := true) (disch := omega) [g1, g2, g3, g4, g5, g6, Wt, Qh]
      refine ⟨by unfold WQ; omega, rest.length, by simp [hk], dn ++ [t], rest, by simp [hks], rfl, by simp [Yx, QS]; omega, by simp, by simp [YJ, Wa]⟩
    ·have : rest = [] := by
      cases rest with
      | nil => rfl
      | cons a r => exfalso; rw [hks] at h8; simp at h8; omega
     subst this
     simp at hks
     subst hks
     simp (contextual := true) (disch := omega) [g3, g6, hbx, hf]
     try omega
  ·rw [if_neg (by simp [ha])] at hfr
   refine Vd (fun k s => ∃ dn rest, ks = dn ++ rest ∧ k = rest.length ∧ s.h = [] ∧ s.t 0 = L nl l ∧ s.t 1 = N (pre.length + 1 + (QS dn).length) ∧ s.t 6 = N c ∧ s.t 8 = N dn.length ∧
    s.t 7 = .sl true false 1 ((front ++ Wa dn).map fun n => [N n])) ks.length ?_ ?_
   ·refine ⟨[], ks, rfl, rfl, ?_⟩
    simp [QS, Wa, ← hfr]
   ·rintro k s ⟨dn, rest, hks, hk, g1, g2, g3, g4, g5, g6⟩
    simp (contextual := true) (disch := omega) [g1, g2, g3, g4, g5, g6]
    refine Qa (Zhd c) (by simp) ?_
    rw [hkI]
    simp (contextual := true) (disch := omega) [g1, g2, g3, g4, g5, g6]
    refine ⟨fun _ h8 => ?_, fun _ h8 => ?_⟩
    ·match rest with
     | [] => exfalso; rw [hks] at h8; simp at h8
     | t :: rest =>
      have ht : t.flat.length ≤ d := by
       have := ZcL (ts := ks) (t := t) (by rw [hks]; simp)
       rw [hf] at hd
       simp at hd; omega
      have hsplit : l = (pre ++ [c] ++ QS dn) ++ t.flat ++ (QS rest ++ post) := by
       rw [hL, hf, hks, Yx]; simp [QS]
      have := ih t (pre ++ [c] ++ QS dn) (QS rest ++ post) ht (ZaZ.1 hoks t (by rw [hks]; simp)) hsplit
      rw [show ((pre ++ [c] ++ QS dn).length : Int) = pre.length + 1 + (QS dn).length by simp; omega] at this
      refine Qa this (by simp) ?_
      have hb2 : front.length + (Wa dn).length + t.boxed.length ≤ 2 * l.length := by
       rw [hbx, hks, YJ] at hbl
       simp [Wa] at hbl
       rw [hks] at hlen
       omega
      have hfl2 : (QS dn).length + t.flat.length ≤ l.length := by
       rw [hsplit]; simp; omega
      simp (contextual := true) (disch := omega) [g1, g2, g3, g4, g5, g6, Wt, Qh]
      refine ⟨by unfold WQ; omega, rest.length, by simp [hk], dn ++ [t], rest, by simp [hks], rfl, by simp [Yx, QS]; omega, by simp, by simp [YJ, Wa]⟩
    ·have : rest = [] := by
      cases rest with
      | nil => rfl
      | cons a r => exfalso; rw [hks] at h8; simp at h8; omega
     subst this
     simp at hks
     subst hks
     simp (contextual := true) (disch := omega) [g3, g6, hbx, hf]
     try omega
theorem Zgz (t : RT) (hok : t.ok) (hl : t.flat.length ≤ 40) (hw : ∀ n ∈ t.flat, I64 n) : Qe Tryz.prog Jz [L false t.flat] (· = if t.boxed.length ≤ 40 then .sl true false 1 (t.boxed.map fun n => [N n]) else .sl false true 1 []) := by
 refine Qe.of_codeOf ZiC Qy (by simp) ⟨_, rfl, by split <;> simp⟩ ?_
 simp (contextual := true) (disch := omega) [Zck]
 refine Qa (ZoK false t.flat (by omega) hw) (by simp) ?_
 simp (contextual := true) [Zm4 hok hl]
 have := ZpW false t.flat (by omega) hw _ t [] [] (Nat.le_refl _) hok (by simp)
 simp only [List.length_nil, Int.natCast_zero, Int.zero_add] at this
 refine Qa this (by simp) ?_
 simp (contextual := true) (disch := omega)
 exact ⟨fun _ _ => by omega, fun _ _ => by omega⟩
end Go.Proofs.YtclfngbealdbgaaGreat
namespace Go.Proofs.YtclfngbealdbgaaGreat
open Go Go.TL
open Go.Proofs.YtclfngbealdbgaaGreat.Ty
set_option linter.unusedSimpArgs false
set_option linter.unusedVariables false
set_option linter.unusedSectionVars false
set_option maxRecDepth 20000
set_option maxHeartbeats 4000000
abbrev OF (l : List Int) : LV := .sl (!l.isEmpty) l.isEmpty 1 (l.map fun n => [N n])
theorem Zqi {c : Int} (h : QJ c = true) : W6 (if c = 35 then 36 else c + 16) = true ∧ QJ (if c = 35 then 36 else c + 16) = false ∧ W6 c = false := by
 rw [XL] at h
 rcases h with h | h
 ·rw [if_neg (by omega)]
  simp [W6, QJ]; omega
 ·subst h; decide
theorem b4 : W6 4 = false ∧ QJ 4 = true := by decide
theorem Zph {c : Int} (h : QJ c = true) : WC c = some 2 := by
 unfold WC
 rw [XL] at h
 rw [if_neg (by omega), if_pos]
 right; right; rw [XL]; exact h
theorem kids_box {c : Int} (h : W6 c = true) : WC c = some 1 := by
 have h' := h
 rw [Zb3] at h
 unfold WC
 rw [if_neg (by omega), if_neg (by rw [XL]; omega), if_pos h']
mutual
theorem RT.boxed_tree : ∀ (t : RT), t.ok → ∃ u : RT, u.ok ∧ u.flat = t.boxed
 | .nd c ks, h => by
  simp only [RT.ok] at h
  obtain ⟨us, h1, h2, h3⟩ := Zdy ks h.2
  by_cases ha : QJ c = true
  ·have hk := Zph ha
   rw [hk] at h
   have h4 : ks.length = 2 := by have := h.1; simp at this; omega
   obtain ⟨u1, u2, rfl⟩ : ∃ u1 u2, us = [u1, u2] := by
    match us, h1 with
    | [a, b], _ => exact ⟨a, b, rfl⟩
    | [], h1 => simp at h1; omega
    | [_], h1 => simp at h1; omega
    | _ :: _ :: _ :: _, h1 => simp at h1; omega
   simp only [oks] at h2
   refine ⟨.nd 4 [.nd (if c = 35 then 36 else c + 16) [u1], u2], ?_, ?_⟩
   ·simp only [RT.ok, oks]
    exact ⟨by show WC 4 = some 2; decide, ⟨kids_box (Zqi ha).1, h2.1, trivial⟩, h2.2.1, trivial⟩
   ·simp only [RT.boxed, ha, if_true, ← h3, RT.flat, QS]; simp
  ·refine ⟨.nd c us, ?_, ?_⟩
   ·simp only [RT.ok]; exact ⟨by rw [h1]; exact h.1, h2⟩
   ·simp only [RT.boxed, RT.flat]; rw [if_neg ha, h3]; rfl
theorem Zdy : ∀ (ts : List RT), oks ts → ∃ us : List RT, us.length = ts.length ∧ oks us ∧ QS us = Wa ts
 | [], _ => ⟨[], rfl, by simp [oks], by simp [QS, Wa]⟩
 | t :: ts, h => by
  simp only [oks] at h
  obtain ⟨u, h1, h2⟩ := RT.boxed_tree t h.1
  obtain ⟨us, h3, h4, h5⟩ := Zdy ts h.2
  exact ⟨u :: us, by simp [h3], by simp only [oks]; exact ⟨h1, h4⟩, by simp only [QS, Wa]; rw [h2, h5]⟩
end
end Go.Proofs.YtclfngbealdbgaaGreat
namespace Go.Proofs.YtclfngbealdbgaaGreat
open Go Go.TL
open Go.Proofs.YtclfngbealdbgaaGreat.Ty
set_option linter.unusedSimpArgs false
set_option linter.unusedVariables false
set_option linter.unusedSectionVars false
set_option maxRecDepth 20000
set_option maxHeartbeats 4000000
mutual
def GTerm.ownC : GTerm → List LV
 | .mk op n _ ty _ ks => [N op, N n, OF ty, .sl (!ks.isEmpty) ks.isEmpty 4 (XK ks)]
def XK : List GTerm → List (List LV)
 | [] => []
 | k :: ks => k.ownC :: XK ks
end
mutual
def GTerm.nm : GTerm → GTerm
 | .mk op n _ ty _ ks => .mk op n ty.isEmpty ty ks.isEmpty (nms ks)
def nms : List GTerm → List GTerm
 | [] => []
 | k :: ks => k.nm :: nms ks
end
theorem Zcg : ∀ ks : List GTerm, XK ks = ks.map GTerm.ownC
 | [] => by simp [XK]
 | k :: ks => by simp [XK, Zcg ks]
theorem Zl1 : ∀ ks : List GTerm, nms ks = ks.map GTerm.nm
 | [] => by simp [nms]
 | k :: ks => by simp [nms, Zl1 ks]
@[simp] theorem ownCs_length (ks : List GTerm) : (XK ks).length = ks.length := by simp [Zcg]
@[simp] theorem ZoE (ks : List GTerm) : (nms ks).length = ks.length := by simp [Zl1]
theorem Zav (ks : List GTerm) : (nms ks).isEmpty = ks.isEmpty := by cases ks <;> simp [nms]
@[simp] theorem Zf4 (t : GTerm) : t.ownC.length = 4 := by cases t; simp [GTerm.ownC]
@[simp] theorem take_ownC (t : GTerm) : t.ownC.take 4 = t.ownC := List.take_of_length_le (by simp)
@[simp] theorem Zpd (t : GTerm) : WI t.ownC = true := by cases t; simp [GTerm.ownC]
mutual
theorem ZiL : ∀ t : GTerm, shareAll t.ownC = t.nm.cells
 | .mk op n nl1 ty nl2 ks => by
  simp only [GTerm.ownC, GTerm.nm, GTerm.cells, shareAll, share, ZbZ ks]
  congr 3
  simp
theorem ZbZ : ∀ ks : List GTerm, Qr (XK ks) = QV (nms ks)
 | [] => by simp [XK, nms, QV, Qr]
 | k :: ks => by simp only [XK, nms, QV, Qr, ZiL k, ZbZ ks]
end
attribute [simp] ZiL ZbZ
mutual
theorem Zhu (k : Nat) : ∀ t : GTerm, QD k t.ownC
 | .mk op n nl1 ty nl2 ks => by
  have := Zfn k ks
  simp [GTerm.ownC, this]
theorem Zfn (k : Nat) : ∀ ks : List GTerm, Wo k (XK ks)
 | [] => by simp [XK]
 | t :: ks => by simp [XK, Zhu k t, Zfn k ks]
end
attribute [simp] Zhu Zfn
mutual
theorem JY : ∀ t : GTerm, We t.ownC
 | .mk op n nl1 ty nl2 ks => by
  have h := Zgi ks
  have w := Jw (fun n : Int => Value.int .i64 n) (!ty.isEmpty) ty.isEmpty ty (by cases ty <;> simp)
  simp only [GTerm.ownC, We, QG] at w ⊢
  refine ⟨trivial, trivial, w, ⟨?_, h⟩, trivial⟩
  cases ks with
  | nil => simp [XK]
  | cons k ks => exact .inr ⟨by simp, by simp, fun r hr => by rw [Zcg] at hr; obtain ⟨g, _, rfl⟩ := List.mem_map.1 hr; simp⟩
theorem Zgi : ∀ ks : List GTerm, QX (XK ks)
 | [] => by simp [XK, QX]
 | t :: ks => by simp only [XK, QX]; exact ⟨JY t, Zgi ks⟩
end
mutual
theorem ZaH : ∀ a : GTerm, a.nm.size = a.size
 | .mk op n nl1 ty nl2 ks => by simp [GTerm.nm, GTerm.size, ZkM ks]
theorem ZkM : ∀ a : List GTerm, Wl (nms a) = Wl a
 | [] => by simp [nms, Wl]
 | a :: a' => by simp [nms, Wl, ZaH a, ZkM a']
end
mutual
theorem wf_nm : ∀ a : GTerm, a.wf → a.nm.wf
 | .mk op n nl1 ty nl2 ks, h => by
  simp only [GTerm.wf, GTerm.nm] at *
  exact ⟨h.1, h.2.1, h.2.2.1, by rw [ZoE]; exact h.2.2.2.1, Zpo ks h.2.2.2.2⟩
theorem Zpo : ∀ a : List GTerm, wfs a → wfs (nms a)
 | [], _ => by simp [nms, wfs]
 | a :: a', h => by
  simp only [wfs, nms] at *
  exact ⟨wf_nm a h.1, Zpo a' h.2⟩
end
mutual
theorem ZpV {nv size : Int} {closed : Bool} : ∀ a : GTerm, W1 nv size closed a.nm = W1 nv size closed a
 | .mk op n nl1 ty nl2 ks => by simp [GTerm.nm, W1, Zne ks]
theorem Zne {nv size : Int} {closed : Bool} {op : Int} {k : Nat} : ∀ a : List GTerm, Xq nv size closed op k (nms a) = Xq nv size closed op k a
 | [] => by simp [nms, Xq]
 | a :: a' => by simp [nms, Xq, ZpV a, Zne a']
end
theorem termB_nm (size n : Int) (a : GTerm) : a.nm.termB size n = a.termB size n := by simp [GTerm.termB, ZaH, ZpV]
theorem Zn2 (op : Int) (ty f f' : List Int) : Qt op ty 0 f = Qt op ty 0 f' := by
 unfold Qt
 split
 ·rfl
 ·rename_i h9
  have : Qq op ((0 : Nat) : Int) = 0 := by unfold Qq; rw [if_neg (by omega), if_neg (by omega)]
  rw [if_pos this, if_pos this]
theorem Zqp {ds : List TT} (h : ds ≠ []) (xs : List TT) : first (ds ++ xs) = first ds := by
 cases ds with
 | nil => exact absurd rfl h
 | cons a l => simp [first, tyP]
theorem ZiV {s : GSys} {ctx : List (List Int)} {op n : Int} {ty : List Int} : ∀ (ks : List GTerm) (ds ds' : List TT), Wd s ctx op n ty ds ks = .ok ds' →
  (∃ xs, ds' = ds ++ xs ∧ xs.length = ks.length) ∧ ∀ (i : Nat) (h : i < ks.length), ∃ x, ds'[ds.length + i]? = some x ∧ Qo s (Qt op ty (ds.length + i) (first ds') ++ ctx) ks[i] = .ok x
 | [], ds, ds', h => by
  simp only [Wd, KRes.ok.injEq] at h
  subst h
  exact ⟨⟨[], by simp, rfl⟩, fun i h => by simp at h⟩
 | k :: ks, ds, ds', h => by
  rw [Wd] at h
  split at h
  ·simp at h
  ·rename_i x hx
   split at h
   ·simp at h
   ·split at h
    ·simp at h
    ·obtain ⟨⟨xs, rfl, hl⟩, hi⟩ := ZiV ks _ ds' h
     refine ⟨⟨x :: xs, by simp, by simp [hl]⟩, fun i hik => ?_⟩
     cases i with
     | zero =>
      refine ⟨x, by simp, ?_⟩
      have e : Qt op ty (ds.length + 0) (first (ds ++ [x] ++ xs)) = Qt op ty ds.length (first ds) := by
       by_cases hd : ds = []
       ·subst hd; exact Zn2 _ _ _ _
       ·rw [List.append_assoc, Zqp hd]; rfl
      rw [e]; exact hx
     | succ i =>
      obtain ⟨y, h1, h2⟩ := hi i (by simpa using hik)
      refine ⟨y, by rw [← h1]; congr 1; simp; omega, ?_⟩
      rw [show ds.length + (i + 1) = (ds ++ [x]).length + i by simp; omega]
      exact h2
structure Told (s : GSys) (ctx : List (List Int)) (op n : Int) (ty : List Int) (ks : List GTerm) (ds : List TT) : Prop where
 node : NodeOk s ctx.length op n ty ks.length
 len : ds.length = ks.length
 kids : KidsOk s ctx.length op n ds
 fin : (Wv s ctx op n ty ds).1 = 0
 each : ∀ (i : Nat) (h : i < ks.length), ∃ y, ds[i]? = some y ∧ Qo s (Qt op ty i (first ds) ++ ctx) ks[i] = .ok y ∧ (∀ l ∈ Qt op ty i (first ds) ++ ctx, okL s.size l = true) ∧
  W1 (((Qt op ty i (first ds) ++ ctx).length : Nat) : Int) s.size true ks[i] = true ∧ (Qt op ty i (first ds) ++ ctx).length ≤ ctx.length + 2
theorem Zeh {s : GSys} (t : s.Tab) {ctx : List (List Int)} {op n : Int} {nl1 nl2 : Bool} {ty : List Int} {ks : List GTerm} {x : TT} (hc : ∀ l ∈ ctx, okL s.size l = true)
  (hf : W1 ctx.length s.size true (.mk op n nl1 ty nl2 ks) = true) (h : Qo s ctx (.mk op n nl1 ty nl2 ks) = .ok x) :
  Told s ctx op n ty ks x.kids ∧ x.ty = (Wv s ctx op n ty x.kids).2.1 ∧ x.needs = (Wv s ctx op n ty x.kids).2.2 := by
 simp only [W1, Bool.and_eq_true] at hf
 have nd := ZcV hf.1
 rw [Qo] at h
 split at h
 ·simp at h
 ·rename_i ds hd
  split at h
  ·rename_i h0
   simp only [Res.ok.injEq] at h
   subst h
   obtain ⟨k, hl⟩ := Zd2 t ks ctx op n ty [] ds hc (fun h9 => nd.typed (by subst h9; simp [WD, Qc])) (by simpa using hf.2) ⟨fun i x h => by simp at h, fun _ x h => by simp at h⟩ hd
   obtain ⟨⟨xs, hxs, hxl⟩, hi⟩ := ZiV ks [] ds hd
   simp only [List.nil_append] at hxs
   subst hxs
   show Told s ctx op n ty ks ds ∧ _
   refine ⟨⟨nd, hxl, k, h0, fun i hik => ?_⟩, rfl, rfl⟩
   obtain ⟨y, h1, h2⟩ := hi i hik
   simp only [List.length_nil, Nat.zero_add] at h1 h2
   have hlen : (Qt op ty i (first ds) ++ ctx).length = ctx.length + (Qq op i).toNat := by
    rw [List.length_append, Ka]; omega
   have := Xy op i
   refine ⟨y, h1, h2, fun l hl => ?_, ?_, by omega⟩
   ·rcases List.mem_append.1 hl with hl | hl
    ·exact Zhz (fun h9 => nd.typed (by subst h9; simp [WD, Qc])) (fun hi0 => by
      have := k.first (by rintro rfl; simp at hxl; omega)
      exact ⟨this.1, this.2.1⟩) l hl
    ·exact hc l hl
   ·have hf2 := Zer hf.2 i hik
    rw [hlen, show ((ctx.length + (Qq op i).toNat : Nat) : Int) = ctx.length + Qq op i by omega]
    simpa using hf2
  ·simp at h
end Go.Proofs.YtclfngbealdbgaaGreat
namespace Go.TL
mutual
def nz : LV → LV
 | .sc v => .sc v
 | .sl u nl sz xs => if nl && xs.isEmpty then .sl false true 0 [] else .sl u nl sz (Zaf xs)
 | .ha l sz off n cap => .ha l sz off n cap
 | .raw sz => .raw sz
 | .ptr l o => .ptr l o
 | .rp xs => .rp (X3 xs)
 | .fn f caps => .fn f (X3 caps)
 | .fnm f first => .fnm f (X3 first)
 | .agg xs => .agg (X3 xs)
 | .tup xs => .tup (X3 xs)
 | .dead => .dead
 | .both u t => .both u (nz t)
def X3 : List LV → List LV
 | [] => []
 | x :: xs => nz x :: X3 xs
def Zaf : List (List LV) → List (List LV)
 | [] => []
 | x :: xs => X3 x :: Zaf xs
end
theorem Zet : ∀ xs : List LV, (X3 xs).length = xs.length
 | [] => rfl
 | _ :: xs => by simp only [X3, List.length_cons, Zet xs]
theorem ZeC : ∀ xs : List (List LV), (Zaf xs).length = xs.length
 | [] => rfl
 | _ :: xs => by simp only [Zaf, List.length_cons, ZeC xs]
theorem ZqF : ∀ xs : List (List LV), Zaf xs = [] ↔ xs = []
 | [] => by simp [Zaf]
 | _ :: xs => by simp [Zaf]
mutual
theorem Zhl (A : GM) (μ : List Nat) : ∀ (x : LV) (v : Value) (O : List Own), Rep A μ (nz x) v O ↔ Rep A μ x v O
 | .sc u, v, O => by simp only [nz]
 | .sl u nl sz xs, v, O => by
  by_cases h : (nl && xs.isEmpty) = true
  ·have h' := h
   simp only [Bool.and_eq_true, List.isEmpty_iff] at h'
   obtain ⟨rfl, rfl⟩ := h'
   simp only [nz, h, if_true, Rep, Bool.true_eq_false, false_and, or_false]
  ·simp only [nz, if_neg h, Rep, ZeC, ZqF, Zlb A μ xs]
 | .ha l sz off n cap, v, O => by simp only [nz]
 | .raw sz, v, O => by simp only [nz]
 | .ptr l o, v, O => by simp only [nz]
 | .rp xs, v, O => by simp only [nz, Rep, ZbO A μ xs]
 | .fn f caps, v, O => by simp only [nz, Rep, Z8 A μ caps]
 | .fnm f first, v, O => by simp only [nz, Rep, Z8 A μ first]
 | .agg xs, v, O => by simp only [nz, Rep, Z8 A μ xs]
 | .tup xs, v, O => by simp only [nz, Rep, Z8 A μ xs]
 | .dead, v, O => by simp only [nz]
 | .both u t, v, O => by simp only [nz, Rep, Zhl A μ t]
theorem Zlb (A : GM) (μ : List Nat) : ∀ (xs : List (List LV)) (sz b off : Nat) (O : List Own), Qv A μ (Zaf xs) sz b off O ↔ Qv A μ xs sz b off O
 | [], sz, b, off, O => by simp only [Zaf]
 | x :: xs, sz, b, off, O => by simp only [Zaf, Qv, Zet, ZbO A μ x, Zlb A μ xs]
theorem ZbO (A : GM) (μ : List Nat) : ∀ (xs : List LV) (b off : Nat) (O : List Own), Qs A μ (X3 xs) b off O ↔ Qs A μ xs b off O
 | [], b, off, O => by simp only [X3]
 | x :: xs, b, off, O => by simp only [X3, Qs, Zhl A μ x, ZbO A μ xs]
theorem Z8 (A : GM) (μ : List Nat) : ∀ (xs : List LV) (vs : List Value) (O : List Own), RepVals A μ (X3 xs) vs O ↔ RepVals A μ xs vs O
 | [], vs, O => by simp only [X3]
 | x :: xs, vs, O => by simp only [X3, RepVals, Zhl A μ x, Z8 A μ xs]
end
theorem QK.nz {P : Program} {f : FuncId} {args args' : List LV} {h : List Box} {R : LV → List Box → Prop} (c : QK P f args' h R) (e : X3 args = X3 args') : QK P f args h R := by
 obtain ⟨h1, h2, h3⟩ := c
 refine ⟨h1, h2, fun w A μ OH vals Oa hv hi => h3 w A μ OH vals Oa ?_ hi⟩
 rw [← Z8, ← e, Z8]
 exact hv
theorem Qe.nz {P : Program} {f : FuncId} {args args' : List LV} {R : LV → Prop} (c : Qe P f args' R) (e : X3 args = X3 args') : Qe P f args R := QK.nz c e
theorem QK.nzR {P : Program} {f : FuncId} {args : List LV} {h : List Box} {R R' : LV → List Box → Prop} (c : QK P f args h R) (hr : ∀ r h', R r h' → ∃ r', Go.TL.nz r' = Go.TL.nz r ∧ R' r' h') : QK P f args h R' := by
 obtain ⟨h1, ⟨r, h', hR⟩, h2⟩ := c
 obtain ⟨r', _, hR'⟩ := hr r h' hR
 refine ⟨h1, ⟨r', h', hR'⟩, fun w A μ OH vals Oa hv hi => (h2 w A μ OH vals Oa hv hi).mono fun e w' he => ?_⟩
 obtain ⟨v, r, h', B, ν, OH', O', g1, g2, g3, g4⟩ := he
 obtain ⟨r', he', hR'⟩ := hr r h' g2
 exact ⟨v, r', h', B, ν, OH', O', g1, hR', (by rw [← Zhl, he', Zhl]; exact g3), g4⟩
def idxT (sz : Nat) (v : LV) (i : Int) : Option LV :=
 match v with
 | .sl _ _ sz' xs => if sz' = sz ∧ 0 ≤ i ∧ i < xs.length then some (.rp (xs.getD i.toNat [])) else none
 | _ => none
@[simp] theorem step_indexT {s : St} {d sz : Nat} {x i : X} : step (.indexT d sz x i) s = ((intOf (get s.t i)).bind (idxT sz (get s.t x))).map ((s.give x).put d) := by
 simp only [step]
 cases hi : intOf (get s.t i) with
 | none => cases get s.t x <;> simp
 | some i => cases get s.t x <;> simp [idxT] <;> (try split) <;> simp_all
@[simp] theorem step_loadT {s : St} {d sz : Nat} {ag : Bool} {x : X} : step (.loadT d ag sz x) s = (rdLV ag sz (get s.t x)).map ((s.give x).put d) := by
 simp only [step, rdLV]
 cases get s.t x <;> simp
 split
 ·split <;> simp_all
 ·simp_all
@[simp] theorem idxT_sl {u nl : Bool} {sz : Nat} {xs : List (List LV)} {i : Int} (h : 0 ≤ i ∧ i < xs.length) : idxT sz (.sl u nl sz xs) i = some (.rp (xs.getD i.toNat [])) := by
 simp [idxT, h.1, h.2]
end Go.TL
namespace Go.Proofs.YtclfngbealdbgaaGreat
open Go Go.TL
open Go.Proofs.YtclfngbealdbgaaGreat.Ty
set_option linter.unusedSimpArgs false
set_option linter.unusedVariables false
set_option linter.unusedSectionVars false
set_option maxRecDepth 20000
set_option maxHeartbeats 4000000
def KS (ks : List GTerm) : LV := if ks.isEmpty = true then .sl true true 1 [] else .sl true false 4 (XK ks)
theorem KS_app {ks : List GTerm} {k : GTerm} (h : ks.length < 1099511627776) : Wt 4 (KS ks) (.sl true false 4 [k.ownC]) = some (KS (ks ++ [k])) := by
 cases ks with
 | nil => simp [KS, Wt, XK, WQ]
 | cons a l =>
  simp only [KS, List.isEmpty_cons, Bool.false_eq_true, if_false, List.cons_append, Wt]
  rw [if_pos ⟨.inl trivial, .inl trivial, .inl trivial, by simp [WQ] at h ⊢; omega⟩]
  simp [Zcg]
theorem KS_flat (ks : List GTerm) : (KS ks).flat = true := by unfold KS; split <;> rfl
theorem KS_cells (ks : List GTerm) : (KS ks).cells = [KS ks] := by unfold KS; split <;> rfl
theorem Zm2 (ks : List GTerm) : (KS ks).alive = true := by unfold KS; split <;> rfl
theorem KS_nz (ks : List GTerm) : nz (KS ks) = nz (.sl (!ks.isEmpty) ks.isEmpty 4 (XK ks)) := by
 cases ks with
 | nil => simp [KS, nz, XK]
 | cons a l => simp [KS]
theorem KS_low (ks : List GTerm) : Low 0 (KS ks) := by unfold KS; split <;> simp
theorem Qe.nzR {P : Program} {f : FuncId} {args : List LV} {R R' : LV → Prop} (c : Qe P f args R) (hr : ∀ r, R r → ∃ r', Go.TL.nz r' = Go.TL.nz r ∧ R' r' ∧ Low 0 r') : Qe P f args R' :=
 QK.nzR c fun r h' h => by obtain ⟨r', h1, h2, h3⟩ := hr r h.1; exact ⟨r', h1, h2, h3⟩
theorem ZcM {P : Program} {a b c : C} {Q : Exit → St → Prop} {s : St} : wpC P (.seq a (.seq b c)) Q s ↔ wpC P (.seq (.seq a b) c) Q s := by
 have e : YC (wpC P b (YC (wpC P c Q) Q)) Q = YC (wpC P b (YC (wpC P c Q) Q)) (YC (wpC P c Q) Q) := by
  funext e s; cases e <;> rfl
 show wpC P a (YC (wpC P b (YC (wpC P c Q) Q)) Q) s ↔ wpC P a (YC (wpC P b (YC (wpC P c Q) Q)) (YC (wpC P c Q) Q)) s
 rw [e]
end Go.Proofs.YtclfngbealdbgaaGreat
namespace Go.Proofs.YtclfngbealdbgaaGreat
open Go Go.TL
open Go.Proofs.YtclfngbealdbgaaGreat.Ty
set_option linter.unusedSimpArgs false
set_option linter.unusedVariables false
set_option linter.unusedSectionVars false
set_option maxRecDepth 20000
set_option maxHeartbeats 4000000
def isCx (cx : List (List Int)) (r : LV) : Prop := ∃ (nl : Bool) (c : Wf), share r = LC nl c ∧ c.map Prod.snd = cx ∧ ∀ x ∈ c, x.1 = false
theorem isCx_LC {nl : Bool} {ctx : Wf} (h : ∀ x ∈ ctx, x.1 = false) : isCx (ctx.map Prod.snd) (LC nl ctx) := ⟨nl, ctx, by simp, rfl, h⟩
theorem Zix {f ctx : Wf} (h : ∀ x ∈ ctx, x.1 = false) (hf : ∀ x ∈ f, x.1 = false) {cx : List (List Int)} (e : cx = f.map Prod.snd ++ ctx.map Prod.snd) : isCx cx (.sl true false 1 ((f ++ ctx).map fun x => [eC x])) :=
 ⟨false, f ++ ctx, by simp, by rw [e, List.map_append], fun x hx => (List.mem_append.1 hx).elim (hf x) (h x)⟩
theorem Zog {s : GSys} (hsy : s.sys = true) (op n : Int) (nl1 : Bool) (gty : List Int) (nl2 : Bool) (ks : List GTerm) (nlc : Bool) (ctx : Wf) (ds : List TT) (i : Nat) (hi : i < ks.length) (hw : (GTerm.mk op n nl1 gty nl2 ks).wf) (hfl : (GTerm.mk op n nl1 gty nl2 ks).fl)
  (hc : ∀ c ∈ ctx, okL s.size c.2 = true) (hcf : ∀ c ∈ ctx, c.1 = false) (hlen : ctx.length + 2 * (Wl ks + 1) ≤ 100000) (T : Told s (ctx.map Prod.snd) op n gty ks ds) :
  Qe Tryz.prog Vx [s.lv, LC nlc ctx, (GTerm.mk op n nl1 gty nl2 ks).lv, N i] (fun r => isCx (Qt op gty i (first ds) ++ ctx.map Prod.snd) r) := by
 have t := GSys.sys_of hsy
 simp only [GTerm.wf] at hw
 obtain ⟨hop, hn, hty, hk, hks⟩ := hw
 simp only [GTerm.fl] at hfl
 obtain ⟨hf1, hfk⟩ := hfl
 refine Qe.of_codeOf Zih Qy (by simp) ⟨LC false ((Qt op gty i (first ds)).map (fun l => (false, l)) ++ ctx), ⟨false, (Qt op gty i (first ds)).map (fun l => (false, l)) ++ ctx, by simp, by simp [Function.comp_def], fun x hx => ?_⟩, by simp⟩ ?_
 ·rcases List.mem_append.1 hx with hx | hx
  ·obtain ⟨l, _, rfl⟩ := List.mem_map.1 hx; rfl
  ·exact hcf x hx
 simp (disch := omega) [Zco, Qw, Qu, GTerm.cells]
 refine Qa (ZfM op i) (by simp) ?_
 simp (disch := omega)
 by_cases h0 : Qq op i = 0
 ·have e0 : eqB (Qq op i) 0 = true := by rw [Qc]; exact h0
  have h9 : op ≠ 9 := by rintro rfl; simp [Qq] at h0
  have ea : Qt op gty i (first ds) = [] := by simp [Qt, h9, h0]
  have := isCx_LC (nl := nlc) hcf
  simp (disch := omega) [e0, ea, this]
 ·have e0 : eqB (Qq op i) 0 = false := by rw [Qb]; exact h0
  simp (disch := omega) [e0]
  by_cases h9 : op = 9
  ·subst h9
   have ea : Qt 9 gty i (first ds) = [gty] := by simp [Qt]
   have e9 : eqB 9 9 = true := by rw [Qc]
   have hok := T.node.typed (by simp [WD, Qc])
   have hnl : nl1 = false := by
    cases h : nl1 with
    | false => rfl
    | true => have := hf1 h; have := QM hok; simp_all
   subst hnl
   have LW := Jn nlc false ctx [(false, gty)] (by omega) (by simp)
   have := Zix (f := [(false, gty)]) hcf (by simp) (cx := Qt 9 gty i (first ds) ++ ctx.map Prod.snd) (by simp [ea])
   simp (disch := omega) [e9, Qn]
   refine Qa LW (by simp) ?_
   simp (disch := omega) [this]
   exact this
  ·have e9 : eqB op 9 = false := by rw [Qb]; exact h9
   have hi0 : i ≠ 0 := by rintro rfl; apply h0; unfold Qq; rw [if_neg (by omega), if_neg (by omega)]
   have hxl := T.len
   obtain ⟨y0, hy0, hy2, hy3, hy4, _⟩ := T.each 0 (by omega)
   have ea0 : Qt op gty 0 (first ds) = [] := by
    have : Qq op ((0 : Nat) : Int) = 0 := by unfold Qq; rw [if_neg (by omega), if_neg (by omega)]
    simp only [Qt]; rw [if_neg h9, if_pos this]
   rw [ea0, List.nil_append] at hy2 hy4
   have hk0 := T.kids.first (by rintro rfl; simp at hy0)
   have hfirst : first ds = y0.ty := by simp [first, tyP, List.getD_eq_getElem?_getD, hy0]
   rw [hfirst] at hk0 ⊢
   have hsk := WP (ks := ks) (i := 0) (by omega)
   have tl := Zff hsy (ks[0]'(by omega)).size (ks[0]'(by omega)) nlc ctx (Nat.le_refl _) ((Z5.1 hks) _ (List.getElem_mem _)) ((Zbb.1 hfk) _ (List.getElem_mem _)) hc hcf (by omega) (by rw [List.length_map] at hy4; exact hy4)
   rw [hy2] at tl
   have hix : QF 4 (.sl false nl2 4 (QV ks)) 0 = some (.rp (ks[0]'(by omega)).cells) := by
    have := ZG ks false nl2 0 (by omega); simpa using this
   simp (disch := omega) [e9, hix]
   refine Qm (Qe.low tl) (by simp) ?_
   rintro r ⟨⟨u1, u2, u4, n4, rfl⟩, lo⟩
   obtain ⟨hk1, ⟨_, q5, q8, _, q12⟩, _⟩ := hk0
   have hpart := fun (k : Int) hk => Jb hk1 k hk
   generalize y0.ty = yt at *
   by_cases h5 : op = 5
   ·subst h5
    have e5 : eqB 5 5 = true := by rw [Qc]
    have hk2 : WC (hd yt) = some 2 := by rw [q5 rfl]; exact XB.1
    have hP1 := hpart 1 (.inr hk2)
    have hP0 := hpart 0 (.inr hk2)
    rw [if_neg (by omega)] at hP1
    rw [if_pos rfl] at hP0
    have ea : Qt 5 gty i yt = [WG yt, QQ yt] := by simp [Qt, h0]
    have LW := Jn nlc false ctx [(false, WG yt), (false, QQ yt)] (by omega) (by simp)
    have := Zix (f := [(false, WG yt), (false, QQ yt)]) hcf (by simp) (cx := Qt 5 gty i yt ++ ctx.map Prod.snd) (by simp [ea])
    simp (disch := omega) [e5, ZmP, Wi]
    refine Qa hP1 (by simp) ?_
    simp (disch := omega)
    refine Qa hP0 (by simp) ?_
    simp (disch := omega) [Qn]
    refine Qa LW (by simp) ?_
    simp (disch := omega)
    exact this
   ·have e5 : eqB op 5 = false := by rw [Qb]; exact h5
    have hk12 : WC (hd yt) = some 1 ∨ WC (hd yt) = some 2 := by
     by_cases h8 : op = 8
     ·rw [q8 h8]; exact .inr XB.2
     ·have : op = 12 := by
       unfold Qq at h0
       rw [if_neg (by omega)] at h0
       by_cases g : (op = 8 ∧ 0 < (i : Int)) ∨ op = 9 ∨ (op = 12 ∧ (i : Int) = 1)
       ·omega
       ·rw [if_neg g] at h0; simp at h0
      exact .inl (ZcK (q12 this))
    have hP := hpart ((i : Int) - 1) hk12
    have ea : Qt op gty i yt = [if (i : Int) - 1 = 0 then QQ yt else WG yt] := by
     unfold Qt
     rw [if_neg h9, if_neg h0, if_neg h5]
     by_cases h8 : op = 8
     ·rw [if_pos h8]
      by_cases h1 : i = 1
      ·rw [if_pos h1, if_pos (by omega)]
      ·rw [if_neg h1, if_neg (by omega)]
     ·rw [if_neg h8, if_pos]
      unfold Qq at h0
      rw [if_neg (by omega)] at h0
      by_cases g : (op = 8 ∧ 0 < (i : Int)) ∨ op = 9 ∨ (op = 12 ∧ (i : Int) = 1)
      ·omega
      ·rw [if_neg g] at h0; simp at h0
    rw [ea]
    generalize (if (i : Int) - 1 = 0 then QQ yt else WG yt) = pt at *
    have LW := Jn nlc false ctx [(false, pt)] (by omega) (by simp)
    have := Zix (f := [(false, pt)]) hcf (by simp) (cx := [pt] ++ ctx.map Prod.snd) (by simp)
    simp (disch := omega) [e5, Qh, ZmP, Wi]
    refine Qa hP (by simp) ?_
    simp (disch := omega) [Qn]
    refine Qa LW (by simp) ?_
    simp (disch := omega)
    exact this
end Go.Proofs.YtclfngbealdbgaaGreat
namespace Go.Proofs.YtclfngbealdbgaaGreat
open Go Go.TL
open Go.Proofs.YtclfngbealdbgaaGreat.Ty
set_option linter.unusedSimpArgs false
set_option linter.unusedVariables false
set_option linter.unusedSectionVars false
set_option maxRecDepth 20000
set_option maxHeartbeats 4000000
def isT (g : GTerm) (r : LV) : Prop := ∃ (w : GTerm) (cs : List LV), r = .agg cs ∧ shareAll cs = w.cells ∧ w.nm = g.nm
theorem len4 {cs : List LV} (h : cs.length = 4) : ∃ a b c d, cs = [a, b, c, d] := by
 match cs, h with
 | [a, b, c, d], _ => exact ⟨a, b, c, d, rfl⟩
theorem Zp6 {Qj : List (List LV)} {ws : List GTerm} (h : Qr Qj = QV ws) (u nl : Bool) (i : Nat) (hi : i < ws.length) : QF 4 (.sl u nl 4 Qj) (i : Int) = some (.rp (ws[i]'hi).cells) := by
 have hl : Qj.length = ws.length := by rw [← Wn, h, Kl]
 have e : shareAll (Qj[i]'(by omega)) = (ws[i]).cells := by
  have := congrArg (fun l => l[i]?) h
  simp only [Ya, Vc, List.getElem?_map, List.getElem?_eq_getElem hi, List.getElem?_eq_getElem (show i < Qj.length by omega), Option.map_some, Option.some.injEq] at this
  rw [XI]; exact this
 simp only [QF]
 rw [if_pos ⟨trivial, by omega, by omega⟩]
 have : Qj.getD (i : Int).toNat [] = Qj[i]'(by omega) := by simp [List.getD_eq_getElem?_getD, show i < Qj.length by omega]
 rw [this, share, e]
mutual
theorem ZhE : ∀ a b : GTerm, a.nm = b.nm → a.same b = true
 | .mk op n nl1 ty nl2 ks, .mk op' n' nl1' ty' nl2' ks', h => by
  simp only [GTerm.nm, GTerm.mk.injEq] at h
  obtain ⟨rfl, rfl, _, rfl, _, h⟩ := h
  simp [GTerm.same, Zgl ks ks' h]
theorem Zgl : ∀ a b : List GTerm, nms a = nms b → JB a b = true
 | [], [], _ => by simp [JB]
 | [], _ :: _, h => by simp [nms] at h
 | _ :: _, [], h => by simp [nms] at h
 | a :: a', b :: b', h => by
  simp only [nms, List.cons.injEq] at h
  simp [JB, ZhE a b h.1, Zgl a' b' h.2]
end
end Go.Proofs.YtclfngbealdbgaaGreat
namespace Go.Proofs.YtclfngbealdbgaaGreat
open Go Go.TL
open Go.Proofs.YtclfngbealdbgaaGreat.Ty
set_option linter.unusedSimpArgs false
set_option linter.unusedVariables false
set_option linter.unusedSectionVars false
set_option maxRecDepth 20000
set_option maxHeartbeats 4000000
theorem ZeM (a : List GTerm) (k : GTerm) : nms (a ++ [k]) = nms a ++ [k.nm] := by simp [Zl1]
theorem Zb7 (a : List GTerm) (k : GTerm) : QV (a ++ [k]) = QV a ++ [k.cells] := by simp [Vc]
theorem Vb {a b : List GTerm} (h : nms a = nms b) : a.length = b.length := by
 have := congrArg List.length h
 simpa using this
end Go.Proofs.YtclfngbealdbgaaGreat
namespace Go.Proofs.YtclfngbealdbgaaGreat
open Go Go.TL
open Go.Proofs.YtclfngbealdbgaaGreat.Ty
set_option linter.unusedSimpArgs false
set_option linter.unusedVariables false
set_option linter.unusedSectionVars false
set_option maxRecDepth 20000
set_option maxHeartbeats 4000000
theorem many_le (op : Int) : Yh op ≤ 3 := by
 unfold Yh
 repeat' split
 all_goals omega
end Go.Proofs.YtclfngbealdbgaaGreat
namespace Go.Proofs.YtclfngbealdbgaaGreat
open Go Go.TL
open Go.Proofs.YtclfngbealdbgaaGreat.Ty
set_option linter.unusedSimpArgs false
set_option linter.unusedVariables false
set_option linter.unusedSectionVars false
set_option maxRecDepth 20000
set_option maxHeartbeats 4000000
def noT : GTerm := .mk 0 0 true [] true []
def Zjf (w : Option GTerm) : LV := .tup [.agg (w.getD noT).ownC, B w.isSome]
@[simp] theorem low_outI (w : Option GTerm) (k : Nat) : Low k (Zjf w) := by simp [Zjf]
theorem nz_no : nz (.tup [.agg [N 0, N 0, .sl true true 1 [], .sl true true 1 []], B false]) = nz (Zjf none) := by simp [Zjf, noT, GTerm.ownC, XK, nz, X3]
def outS (o : Option GTerm) (r : LV) : Prop := ∃ w : GTerm, r = .tup [w.lv, B o.isSome] ∧ w.nm = (o.getD noT).nm
def outZ (o : Option GTerm) (r : LV) : Prop := ∃ w : GTerm, nz r = nz (.tup [w.lv, B o.isSome]) ∧ w.nm = (o.getD noT).nm
theorem ZlU : outZ none (.tup [.agg [N 0, N 0, .sl true true 1 [], .sl true true 1 []], B false]) := ⟨noT, by simp [noT, GTerm.cells, QV, nz, X3], rfl⟩
theorem outS_ex (o : Option GTerm) : ∃ r, outS o r ∧ Low 0 r := ⟨.tup [(o.getD noT).lv, B o.isSome], ⟨_, rfl, rfl⟩, by simp⟩
mutual
theorem nm_wf : ∀ a b : GTerm, a.nm = b.nm → b.wf → a.wf
 | .mk op n nl1 ty nl2 ks, .mk op' n' nl1' ty' nl2' ks', h, hw => by
  simp only [GTerm.nm, GTerm.mk.injEq] at h
  obtain ⟨rfl, rfl, _, rfl, _, h⟩ := h
  simp only [GTerm.wf] at hw ⊢
  exact ⟨hw.1, hw.2.1, hw.2.2.1, by rw [Vb h]; exact hw.2.2.2.1, nms_wf ks ks' h hw.2.2.2.2⟩
theorem nms_wf : ∀ a b : List GTerm, nms a = nms b → wfs b → wfs a
 | [], _, _, _ => by simp [wfs]
 | _ :: _, [], h, _ => by simp [nms] at h
 | a :: a', b :: b', h, hw => by
  simp only [nms, List.cons.injEq, wfs] at h hw ⊢
  exact ⟨nm_wf a b h.1 hw.1, nms_wf a' b' h.2 hw.2⟩
end
theorem Zpq {a b : GTerm} (h : a.nm = b.nm) : a.size = b.size := by rw [← ZaH a, h, ZaH]
end Go.Proofs.YtclfngbealdbgaaGreat
