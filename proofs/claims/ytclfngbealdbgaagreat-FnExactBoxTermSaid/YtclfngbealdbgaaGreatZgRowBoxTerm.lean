/- Part 7 of the proof of the row of the text YtclfngbealdbgaaGreatZRowBoxTerm: texts joined. No conditions. -/
import Derived.Test.YtclfngbealdbgaaGreatZfRowBoxTerm
set_option linter.unusedSimpArgs false
set_option linter.unusedVariables false
set_option linter.unusedSectionVars false
namespace Go.Proofs.YtclfngbealdbgaaGreat
open Go Go.TL
set_option linter.unusedSimpArgs false
set_option linter.unusedVariables false
set_option linter.unusedSectionVars false
set_option maxRecDepth 20000
set_option maxHeartbeats 4000000
theorem Zfw {sz : Nat} : ∀ {a b : List (List LV)} {n : Nat} {cells : List LV} {bs : List Box}, Xi (a ++ b) sz n cells bs ↔ ∃ c1 b1 c2 b2, cells = c1 ++ c2 ∧ bs = b1 ++ b2 ∧ Xi a sz n c1 b1 ∧ Xi b sz (n + b1.length) c2 b2
 | [], b, n, cells, bs => by
  simp only [List.nil_append, Xi]
  constructor
  ·intro h; exact ⟨[], [], cells, bs, by simp, by simp, ⟨rfl, rfl⟩, by simpa using h⟩
  ·rintro ⟨c1, b1, c2, b2, rfl, rfl, ⟨rfl, rfl⟩, h⟩; simpa using h
 | row :: a, b, n, cells, bs => by
  simp only [List.cons_append, Xi]
  constructor
  ·rintro ⟨c1, b1, c2, b2, h1, h2, h3, rfl, rfl⟩
   obtain ⟨c3, b3, c4, b4, rfl, rfl, h4, h5⟩ := Zfw.1 h3
   exact ⟨c1 ++ c3, b1 ++ b3, c4, b4, by simp, by simp, ⟨c1, b1, c3, b3, h1, h2, h4, rfl, rfl⟩, by simpa [Nat.add_assoc] using h5⟩
  ·rintro ⟨c1, b1, c2, b2, rfl, rfl, ⟨c3, b3, c4, b4, h1, h2, h3, rfl, rfl⟩, h5⟩
   exact ⟨c3, b3, c4 ++ c2, b4 ++ b2, h1, h2, Zfw.2 ⟨c4, b4, c2, b2, rfl, rfl, h3, by simpa [Nat.add_assoc] using h5⟩, by simp, by simp⟩
theorem Zfl : ∀ {xs : List LV} {n : Nat} {ys : List LV} {bs : List Box}, WK xs n ys bs → ys.length = xs.length
 | [], n, ys, bs, h => by simp only [WK] at h; simp [h.1]
 | x :: xs, n, ys, bs, h => by
  simp only [WK] at h
  obtain ⟨y, b1, ys', b2, _, h2, rfl, _⟩ := h
  simp [Zfl h2]
theorem ZkP {sz : Nat} : ∀ {Qj : List (List LV)} {n : Nat} {cells : List LV} {bs : List Box}, Xi Qj sz n cells bs → cells.length = Qj.length * sz
 | [], n, cells, bs, h => by simp only [Xi] at h; simp [h.1]
 | row :: Qj, n, cells, bs, h => by
  simp only [Xi] at h
  obtain ⟨c1, b1, c2, b2, h1, h2, h3, rfl, rfl⟩ := h
  rw [List.length_append, Zfl h2, ZkP h3, h1, List.length_cons, Nat.succ_mul]; omega
mutual
def GTerm.ownF : GTerm → List LV
 | .mk op n nl1 ty nl2 ks => [N op, N n, OU (!nl1) nl1 ty, .sl (!nl2) nl2 4 (Xf ks)]
def Xf : List GTerm → List (List LV)
 | [] => []
 | k :: ks => k.ownF :: Xf ks
end
theorem Zh : ∀ ks : List GTerm, Xf ks = ks.map GTerm.ownF
 | [] => by simp [Xf]
 | k :: ks => by simp [Xf, Zh ks]
@[simp] theorem JO (ks : List GTerm) : (Xf ks).length = ks.length := by simp [Zh]
@[simp] theorem ownF_length (t : GTerm) : t.ownF.length = 4 := by cases t; simp [GTerm.ownF]
mutual
theorem ZdN : ∀ t : GTerm, shareAll t.ownF = t.cells
 | .mk op n nl1 ty nl2 ks => by
  simp only [GTerm.ownF, GTerm.cells, shareAll, share, Zf6 ks]
  congr 3
  simp
theorem Zf6 : ∀ ks : List GTerm, Qr (Xf ks) = QV ks
 | [] => by simp [Xf, QV, Qr]
 | k :: ks => by simp only [Xf, QV, Qr, ZdN k, Zf6 ks]
end
mutual
theorem Znn : ∀ t : GTerm, t.own = t.norm.ownF
 | .mk op n nl1 ty nl2 ks => by simp [GTerm.own, GTerm.norm, GTerm.ownF, Zid ks]
theorem Zid : ∀ ks : List GTerm, ZaQ ks = Xf (ZP ks)
 | [] => by simp [ZaQ, ZP, Xf]
 | k :: ks => by simp [ZaQ, ZP, Xf, Znn k, Zid ks]
end
mutual
def GTerm.cnt : GTerm → Nat
 | .mk _ _ _ ty _ ks => 2 + ty.length + Yr ks
def Yr : List GTerm → Nat
 | [] => 0
 | k :: ks => k.cnt + Yr ks
end
mutual
def mkT (k : Int) : GTerm → GTerm
 | .mk _ _ nl1 ty nl2 ks => .mk k (k + 1) nl1 (Ws mI (k + 2) ty.length) nl2 (Jy (k + 2 + ty.length) ks)
def Jy (k : Int) : List GTerm → List GTerm
 | [] => []
 | t :: ks => mkT k t :: Jy (k + t.cnt) ks
end
theorem Zia : ∀ a b : List GTerm, Yr (a ++ b) = Yr a + Yr b
 | [], b => by simp [Yr]
 | k :: a, b => by simp [Yr, Zia a b]; omega
theorem ZkD : ∀ (a : List GTerm) (b : GTerm) (k : Int), Jy k (a ++ [b]) = Jy k a ++ [mkT (k + Yr a) b]
 | [], b, k => by simp [Jy, Yr]
 | t :: a, b, k => by
  simp only [List.cons_append, Jy, ZkD a b, Yr]
  congr 4
  push_cast; omega
@[simp] theorem Kv : ∀ (a : List GTerm) (k : Int), (Jy k a).length = a.length
 | [], k => by simp [Jy]
 | t :: a, k => by simp [Jy, Kv a]
theorem Zni : ∀ (a : List GTerm) (k : Int) (i : Nat) (h : i < a.length), (Jy k a)[i]'(by simpa using h) = mkT (k + Yr (a.take i)) a[i]
 | [], k, i, h => by simp at h
 | t :: a, k, 0, h => by simp [Jy, Yr]
 | t :: a, k, i + 1, h => by
  simp only [Jy, List.getElem_cons_succ, List.take_succ_cons, Yr]
  rw [Zni a _ i (by simpa using h)]
  congr 1
  push_cast; omega
theorem ZfB {ks : List GTerm} {i : Nat} (h : i < ks.length) : Yr (ks.take (i + 1)) = Yr (ks.take i) + (ks[i]).cnt := by
 rw [List.take_succ_eq_append_getElem h, Zia]; simp [Yr]
theorem cnts_le (ks : List GTerm) (i : Nat) : Yr (ks.take i) ≤ Yr ks := by
 have := Zia (ks.take i) (ks.drop i)
 rw [List.take_append_drop] at this; omega
theorem Zps {ks : List GTerm} {i : Nat} (h : i < ks.length) : Yr (ks.take i) + (ks[i]).cnt ≤ Yr ks := by
 rw [← ZfB h]; exact cnts_le _ _
theorem thT {op n : Int} {T K : LV} {m : Nat} {cs : List LV} {bs : List Box} : WK [N op, N n, T, K] m cs bs ↔ ∃ yT bT yK bK, cs = [N op, N n, yT, yK] ∧ bs = bT ++ bK ∧ Th T m yT bT ∧ Th K (m + bT.length) yK bK := by
 simp only [WK, Th]
 constructor
 ·rintro ⟨_, _, _, _, ⟨rfl, rfl⟩, ⟨_, _, _, _, ⟨rfl, rfl⟩, ⟨yT, bT, _, _, h1, ⟨yK, bK, _, _, h2, ⟨rfl, rfl⟩, rfl, rfl⟩, rfl, rfl⟩, rfl, rfl⟩, rfl, rfl⟩
  exact ⟨yT, bT, yK, bK, rfl, by simp, by simpa using h1, by simpa using h2⟩
 ·rintro ⟨yT, bT, yK, bK, rfl, rfl, h1, h2⟩
  exact ⟨_, [], _, _, ⟨rfl, rfl⟩, ⟨_, [], _, _, ⟨rfl, rfl⟩, ⟨yT, bT, _, _, by simpa using h1, ⟨yK, bK, _, [], by simpa using h2, ⟨rfl, rfl⟩, rfl, rfl⟩, rfl, rfl⟩, rfl, rfl⟩, rfl, by simp⟩
end Go.Proofs.YtclfngbealdbgaaGreat
namespace Go.Proofs.YtclfngbealdbgaaGreat
open Go Go.TL
set_option linter.unusedSimpArgs false
set_option linter.unusedVariables false
set_option linter.unusedSectionVars false
set_option maxRecDepth 20000
set_option maxHeartbeats 4000000
theorem Zao : ∀ ks : List GTerm, ks.length ≤ Wl ks
 | [] => by simp [Wl]
 | k :: ks => by have := Zao ks; have := k.size_pos; simp [Wl]; omega
theorem ex_i {u nl : Bool} {l : List Int} {n : Nat} {y : LV} {b : List Box} (h : Th (OU u nl l) n y b) (k : Int) : ∃ b', b'.length = b.length ∧ Th (OU u nl (Ws mI k l.length)) n y b' := by
 have hm : (Ws mI k l.length).length = l.length := ZS _ k l.length
 rcases (Zat (fun n : Int => Value.int .i64 n)).1 h with ⟨rfl, rfl, rfl⟩ | ⟨rfl, hne, slack, cap, hcap, rfl, rfl⟩
 ·exact ⟨[], rfl, (Zat (fun n : Int => Value.int .i64 n)).2 (.inl ⟨rfl, rfl, rfl⟩)⟩
 ·have hne2 : Ws mI k l.length ≠ [] := by
   intro h; rw [h] at hm; exact hne (List.eq_nil_of_length_eq_zero (by simpa using hm.symm))
  exact ⟨[some ((Ws mI k l.length).map (fun x => .sc ((fun n : Int => Value.int .i64 n) x)) ++ List.replicate slack .dead)], rfl, (Zat (fun n : Int => Value.int .i64 n)).2 (.inr ⟨rfl, hne2, slack, cap, by rw [hm]; exact hcap, by rw [hm], rfl⟩)⟩
mutual
theorem ex_t : ∀ (t : GTerm) (k : Int) (n : Nat) (c : List LV) (b : List Box), WK t.ownF n c b → ∃ c' b', b'.length = b.length ∧ c'.length = c.length ∧ WK (mkT k t).ownF n c' b'
 | .mk op m nl1 ty nl2 ks, k, n, c, b, h => by
  simp only [GTerm.ownF, mkT] at h ⊢
  obtain ⟨yT, bT, yK, bK, rfl, rfl, h1, h2⟩ := thT.1 h
  obtain ⟨bT', q1, q2⟩ := ex_i h1 (k + 2)
  simp only [Th] at h2
  rcases h2 with ⟨hn, rfl, rfl⟩ | ⟨rfl, hne, cells, bs', slack, cap, hrow, hcap, rfl, rfl⟩
  ·have hks : ks = [] := by rw [Zh] at hn; simpa using hn
   subst hks
   exact ⟨_, bT', by simp [q1], by simp, thT.2 ⟨yT, bT', .sl false nl2 4 [], [], rfl, by simp, q2, by simp [Th, Jy, Xf]⟩⟩
  ·obtain ⟨cells', bs2, q3, q4⟩ := ex_s ks (k + 2 + ty.length) _ _ _ hrow
   refine ⟨_, bT' ++ (bs2 ++ [some (cells' ++ List.replicate slack .dead)]), by simp [q1, q3], by simp, thT.2 ⟨yT, bT', .ha (n + bT.length + bs2.length) 4 0 ks.length cap, _, rfl, rfl, q2, ?_⟩⟩
   simp only [Th]
   refine .inr ⟨trivial, ?_, cells', bs2, slack, cap, by rw [q1]; exact q4, by simpa using hcap, by simp [q1], rfl⟩
   intro h
   have := congrArg List.length h
   rw [JO, Kv] at this
   exact hne (by rw [Zh, List.eq_nil_of_length_eq_zero this]; rfl)
theorem ex_s : ∀ (ks : List GTerm) (k : Int) (n : Nat) (cells : List LV) (bs : List Box), Xi (Xf ks) 4 n cells bs → ∃ cells' bs', bs'.length = bs.length ∧ Xi (Xf (Jy k ks)) 4 n cells' bs'
 | [], k, n, cells, bs, h => ⟨cells, bs, rfl, by simpa [Jy] using h⟩
 | t :: ks, k, n, cells, bs, h => by
  simp only [Xf, Jy, Xi] at h ⊢
  obtain ⟨c1, b1, c2, b2, _, h1, h2, rfl, rfl⟩ := h
  obtain ⟨c1', b1', q1, q2, q3⟩ := ex_t t k n c1 b1 h1
  obtain ⟨c2', b2', q4, q5⟩ := ex_s ks (k + t.cnt) _ c2 b2 h2
  exact ⟨_, b1' ++ b2', by simp [q1, q4], c1', b1', c2', b2', by simp, q3, by rw [q1]; exact q5, rfl, rfl⟩
end
theorem ex_sl {u nl : Bool} {ks : List GTerm} {n : Nat} {y : LV} {bs : List Box} (h : Th (.sl u nl 4 (Xf ks)) n y bs) (k : Int) : ∃ bs', bs'.length = bs.length ∧ Th (.sl u nl 4 (Xf (Jy k ks))) n y bs' := by
 simp only [Th] at h
 rcases h with ⟨hn, rfl, rfl⟩ | ⟨rfl, hne, cells, bs', slack, cap, hrow, hcap, rfl, rfl⟩
 ·have hks : ks = [] := by rw [Zh] at hn; simpa using hn
  subst hks
  exact ⟨[], rfl, by simp [Th, Jy, Xf]⟩
 ·obtain ⟨cells', bs2, q3, q4⟩ := ex_s ks k _ _ _ hrow
  refine ⟨bs2 ++ [some (cells' ++ List.replicate slack .dead)], by simp [q3], ?_⟩
  simp only [Th]
  refine .inr ⟨trivial, ?_, cells', bs2, slack, cap, q4, by simpa using hcap, by simp [q3], rfl⟩
  intro h
  have := congrArg List.length h
  rw [JO, Kv] at this
  exact hne (by rw [Zh, List.eq_nil_of_length_eq_zero this]; rfl)
theorem Yc {P : Program} {K : St → Prop} {s : St} {d : Nat} {f : FuncId} {vals : List LV} {h0 : List Box} {R : LV → List Box → Prop} (c : QK P f vals h0 R) (e : s.h = h0) (hk : ∀ r h', R r h' → K { t := upd s.t d r, h := h' }) : Z9 P .any f vals (some d) K s :=
 Wm (by rw [e]; exact c) hk
theorem Zmh (d : Nat) : ∀ (ks : List GTerm) (u nl : Bool) (k : Int) (h1 h2 : List Box) (y : LV) (bs : List Box), Wl ks ≤ d → 0 ≤ k ∧ k + Yr ks ≤ 4611686018427387904 → Wl ks ≤ 1000000000000000 → Th (.sl u nl 4 (Xf ks)) h1.length y bs →
  QK Tryz.prog Zr [y, N k] (h1 ++ bs ++ h2) (fun r h' => r = N (k + Yr ks) ∧ ∃ bs', bs'.length = bs.length ∧ Th (.sl u nl 4 (Xf (Jy k ks))) h1.length y bs' ∧ h' = h1 ++ bs' ++ h2) := by
 induction d with
 | zero =>
  intro ks u nl k h1 h2 y bs hsz hk hkl ht
  have hks : ks = [] := List.eq_nil_of_length_eq_zero (by have := Zao ks; omega)
  subst hks
  simp only [Th, Xf] at ht
  rcases ht with ⟨_, rfl, rfl⟩ | ⟨_, h, _⟩
  ·refine QK.of_codeOf Kd Qy (by simp) ⟨_, _, rfl, [], rfl, by simp [Th, Jy, Xf], rfl⟩ ?_
   simp (disch := omega) [Zv]
   refine Q9 0 0 (fun i t h => t 5 = N 0 ∧ t 1 = N k ∧ h = h1 ++ h2) (by simp) (by omega) ?_
   rintro i t1 hh hf hi ⟨e5, e1, rfl⟩
   (have e0 := hf 0 (by kernel_rfl); clear hf; simp [] at e0)
   simp (disch := omega) [e0, e1, e5]
   refine QO (.inr rfl) (by simp) ?_
   simp [Th, Jy, Xf, Yr]
  ·exact absurd rfl h
 | succ d ih =>
  intro ks u nl k h1 h2 y bs hsz hk hkl' ht
  have hkl := Nat.le_trans (Zao ks) hkl'
  have ht0 := ht
  simp only [Th] at ht
  rcases ht with ⟨hnil, rfl, rfl⟩ | ⟨rfl, hne, cells, bs', slack, cap, hrow, hcap, rfl, rfl⟩
  ·have hks : ks = [] := by rw [Zh] at hnil; simpa using hnil
   subst hks
   refine QK.of_codeOf Kd Qy (by simp) ⟨_, _, rfl, [], rfl, by simp [Th, Jy, Xf], rfl⟩ ?_
   simp (disch := omega) [Zv]
   refine Q9 0 0 (fun i t h => t 5 = N 0 ∧ t 1 = N k ∧ h = h1 ++ h2) (by simp) (by omega) ?_
   rintro i t1 hh hf hi ⟨e5, e1, rfl⟩
   (have e0 := hf 0 (by kernel_rfl); clear hf; simp [] at e0)
   simp (disch := omega) [e0, e1, e5]
   refine QO (.inr rfl) (by simp) ?_
   simp [Th, Jy, Xf, Yr]
  ·rw [JO] at hcap
   obtain ⟨A, hA⟩ : ∃ A, h1 ++ bs' = A := ⟨_, rfl⟩
   have hAl : h1.length + bs'.length = A.length := by rw [← hA]; simp
   have hh0 : h1 ++ (bs' ++ [some (cells ++ List.replicate slack .dead)]) ++ h2 = A ++ some (cells ++ List.replicate slack .dead) :: h2 := by rw [← hA]; simp
   rw [hh0, hAl]
   refine QK.of_codeOf Kd Qy (by simp) (by
    obtain ⟨bs2, q1, q2⟩ := ex_sl ht0 k
    rw [hAl] at q2
    exact ⟨_, _, rfl, bs2, q1, q2, rfl⟩) ?_
   simp (disch := omega) [Zv]
   refine Q9 ks.length 0 (fun i t h => t 5 = N i ∧ t 1 = N (k + Yr (ks.take i)) ∧ ∃ cD bD cR bR, h = h1 ++ (bD ++ bR) ++ some (cD ++ (cR ++ List.replicate slack .dead)) :: h2 ∧ bD.length + bR.length = bs'.length ∧
    Xi (Xf (Jy k (ks.take i))) 4 h1.length cD bD ∧ Xi (Xf (ks.drop i)) 4 (h1.length + bD.length) cR bR) ?_ (by omega) ?_
   ·refine ⟨by simp, by simp [Yr], [], [], cells, bs', by rw [← hA]; simp, by simp, by simp [Jy, Xf, Xi], by simpa using hrow⟩
   rintro i t1 hh hf hi ⟨e5, e1, cD, bD, cR, bR, rfl, hbl, hD, hR⟩
   (have e0 := hf 0 (by kernel_rfl); clear hf; simp [] at e0)
   by_cases h6 : i < ks.length
   ·have hb : ltB (i : Int) ks.length = true := by rw [Qf]; omega
    have hck := Zps h6
    have hct := ZfB h6
    have hcDl := ZkP hD
    have hsk := WP h6
    rw [JO, Kv, List.length_take, Nat.min_eq_left hi] at hcDl
    rw [List.drop_eq_getElem_cons h6] at hR
    obtain ⟨⟨op, n, nl1, ty, nl2, kk⟩, hki⟩ : ∃ g, ks[i] = g := ⟨_, rfl⟩
    rw [hki] at hR hck hct hsk
    simp only [Xf, Xi, GTerm.ownF] at hR
    obtain ⟨c1, b1, c2, b2, _, hT, hR2, rfl, rfl⟩ := hR
    obtain ⟨yT, bT, yK, bK, rfl, rfl, hyT, hyK⟩ := thT.1 hT
    simp only [GTerm.cnt, GTerm.size] at hck hct hsk
    obtain ⟨A1, hA1⟩ : ∃ A1, h1 ++ (bD ++ (bT ++ bK ++ b2)) = A1 := ⟨_, rfl⟩
    have hA1l : A.length = A1.length := by rw [← hA1, ← hAl]; simp at hbl ⊢; omega
    rw [hA1l] at e0
    rw [hA1]
    have htk : ∀ (j : Nat) (rest : List LV), List.take (i * 4 + j) (cD ++ rest) = cD ++ rest.take j := fun j rest => by
     rw [← hcDl, List.take_append, List.take_of_length_le (by omega)]; simp
    have hdr : ∀ (j : Nat) (rest : List LV), List.drop (i * 4 + j) (cD ++ rest) = rest.drop j := fun j rest => by
     rw [← hcDl, List.drop_append]; simp
    have hdr2 : ∀ (rest : List LV), List.drop (i * 4 + 1 + 1) (cD ++ rest) = rest.drop 2 := fun rest => hdr 2 rest
    have htk0 : ∀ (rest : List LV), List.take (i * 4) (cD ++ rest) = cD := fun rest => List.take_left' hcDl
    have sT := Th.share _ _ _ _ hyT
    have sK := Th.share _ _ _ _ hyK
    have aT := Th.alive _ _ _ _ hyT
    have aK := Th.alive _ _ _ _ hyK
    simp (disch := omega) [e0, e1, e5, hb, Y6, Qh, htk, hdr, hdr2, htk0, sT, sK]
    refine ⟨by omega, by omega, ⟨by omega, aT⟩, ?_⟩
    obtain ⟨k', hk'⟩ : ∃ k' : Int, k + Yr (ks.take i) = k' := ⟨_, rfl⟩
    rw [hk']
    rw [show k' + 1 + 1 = k' + 2 by omega]
    obtain ⟨X, hX⟩ : ∃ X, X = cD ++ N k' :: N (k' + 1) :: yT :: yK :: (c2 ++ List.replicate slack .dead) := ⟨_, rfl⟩
    rw [← hX]
    have MI := Jl (!nl1) nl1 ty (k' + 2) (by omega) (h1 ++ bD) (bK ++ b2 ++ some X :: h2) yT bT (by simpa using hyT)
    refine Yc MI (by simp [← hA1]) ?_
    rintro r h' ⟨rfl, bT', hbT, hyT2, rfl⟩
    obtain ⟨A2, hA2⟩ : ∃ A2, h1 ++ bD ++ bT' ++ (bK ++ b2) = A2 := ⟨_, rfl⟩
    have hA2l : A1.length = A2.length := by rw [← hA1, ← hA2]; simp; omega
    have hh2 : h1 ++ bD ++ bT' ++ (bK ++ b2 ++ some X :: h2) = A2 ++ some X :: h2 := by rw [← hA2]; simp
    rw [hA2l] at e0
    rw [hh2, hX]
    simp (disch := omega) [e0, e1, e5, hb, Y6, Qh, htk, hdr, hdr2, htk0, sT, sK]
    refine ⟨⟨by omega, aK⟩, ?_⟩
    rw [← hX]
    have MK := ih kk (!nl2) nl2 (k' + 2 + ty.length) (h1 ++ bD ++ bT') (b2 ++ some X :: h2) yK bK (by omega) (by omega) (by omega) (by
     have : (h1 ++ bD ++ bT').length = h1.length + bD.length + bT.length := by simp; omega
     rw [this]; exact hyK)
    refine Yc MK (by simp [← hA2]) ?_
    rintro r h' ⟨rfl, bK', hbK, hyK2, rfl⟩
    simp (disch := omega) [e0, e1, e5, Qh, h6]
    refine ⟨by omega, cD ++ [N k', N (k' + 1), yT, yK], bD ++ (bT' ++ bK'), c2, b2, by simp [hX], by simp at hbl ⊢; omega, ?_, ?_⟩
    ·rw [List.take_succ_eq_append_getElem h6, hki, ZkD, Zh, List.map_append, ← Zh, hk']
     refine Zfw.2 ⟨cD, bD, _, _, rfl, rfl, hD, ?_⟩
     simp only [List.map_cons, List.map_nil, mkT, GTerm.ownF, Xi]
     refine ⟨_, bT' ++ bK', [], [], rfl, thT.2 ⟨yT, bT', yK, bK', rfl, rfl, by simpa using hyT2, ?_⟩, ⟨rfl, rfl⟩, by simp, by simp⟩
     simpa [Nat.add_assoc] using hyK2
    ·have : h1.length + (bD ++ (bT' ++ bK')).length = h1.length + bD.length + (bT ++ bK).length := by simp; omega
     rw [this]; exact hR2
   ·have hb : ltB (i : Int) ks.length = false := by rw [Qd]; omega
    have hik : i = ks.length := by omega
    have e := List.take_of_length_le (l := ks) (i := i) (by omega)
    rw [e] at hD e1
    rw [List.drop_of_length_le (by omega)] at hR
    simp only [Xf, Xi] at hR
    obtain ⟨rfl, rfl⟩ := hR
    simp (disch := omega) [e0, e1, e5, hb]
    refine QO (.inr rfl) (by simp at hbl ⊢; rw [← hA]; simp; omega) ?_
    refine ⟨by simp, bD ++ [some (cD ++ List.replicate slack .dead)], by simp at hbl ⊢; omega, ?_, by simp⟩
    simp only [Th]
    refine .inr ⟨trivial, ?_, cD, bD, slack, cap, hD, by simpa using hcap, ?_, rfl⟩
    ·intro h
     have := congrArg List.length h
     rw [JO, Kv] at this
     exact hne (by rw [Zh, List.eq_nil_of_length_eq_zero this]; rfl)
    ·simp at hbl ⊢
     omega
end Go.Proofs.YtclfngbealdbgaaGreat
namespace Go.Proofs.YtclfngbealdbgaaGreat
open Go Go.TL
set_option linter.unusedSimpArgs false
set_option linter.unusedVariables false
set_option linter.unusedSectionVars false
set_option maxRecDepth 20000
set_option maxHeartbeats 4000000
def topT (k : Int) : GTerm → GTerm
 | .mk op n nl1 ty nl2 ks => .mk op n nl1 (Ws mI k ty.length) nl2 (Jy (k + ty.length) ks)
def GTerm.tcnt : GTerm → Nat
 | .mk _ _ _ ty _ ks => ty.length + Yr ks
theorem ZfZ (t : GTerm) (k : Int) (h1 h2 : List Box) (cs : List LV) (bs : List Box) (hk : 0 ≤ k ∧ k + t.tcnt ≤ 4611686018427387904) (hs : t.size ≤ 1000000000000000) (ht : WK t.ownF h1.length cs bs) :
  QK Tryz.prog ZX [.agg cs, N k] (h1 ++ bs ++ h2) (fun r h' => r = N (k + t.tcnt) ∧ ∃ bs' ex, bs'.length = bs.length ∧ WK (topT k t).ownF h1.length cs bs' ∧ h' = h1 ++ bs' ++ h2 ++ ex) := by
 obtain ⟨op, n, nl1, ty, nl2, ks⟩ := t
 simp only [GTerm.ownF, GTerm.tcnt, GTerm.size, topT] at *
 obtain ⟨yT, bT, yK, bK, rfl, rfl, hT, hK⟩ := thT.1 ht
 have sT := Th.share _ _ _ _ hT
 have sK := Th.share _ _ _ _ hK
 have m1 := fun X => Jl (!nl1) nl1 ty k (by omega) h1 (bK ++ X) yT bT hT
 have m2 := fun (bT' : List Box) (hl : bT'.length = bT.length) X => Zmh (Wl ks) ks (!nl2) nl2 (k + ty.length) (h1 ++ bT') X yK bK (Nat.le_refl _) (by omega) (by omega) (by rw [List.length_append, hl]; exact hK)
 refine QK.of_codeOf ZgI Qy (by simp) ?_ ?_
 ·obtain ⟨r1, _, rfl, c1, l1, g1, rfl⟩ := (m1 []).2.1
  obtain ⟨r2, _, rfl, c2, l2, g2, rfl⟩ := (m2 c1 l1 []).2.1
  exact ⟨_, _, rfl, c1 ++ c2, [], by simp [l1, l2], thT.2 ⟨yT, c1, yK, c2, rfl, rfl, g1, by rw [List.length_append] at g2; exact g2⟩, rfl⟩
 ·simp (disch := omega) [Zbf, Qw, Qu, sT, sK]
  refine Yc (m1 (h2 ++ [none])) (by simp) ?_
  rintro r h' ⟨rfl, c1, l1, g1, rfl⟩
  simp (disch := omega) [sT, sK]
  refine Yc (m2 c1 l1 (h2 ++ [none])) (by simp) ?_
  rintro r h' ⟨rfl, c2, l2, g2, rfl⟩
  simp (disch := omega) [sT, sK]
  refine QO (.inr rfl) (by simp; omega) ?_
  exact ⟨by simp; omega, c1 ++ c2, by simp [l1, l2], thT.2 ⟨yT, c1, yK, c2, rfl, rfl, g1, by rw [List.length_append] at g2; exact g2⟩, [none], by simp⟩
theorem Zma (ctx : Wf) (k : Int) (h1 h2 : List Box) (y : LV) (bs : List Box) (hk : 0 ≤ k ∧ k + cws ctx ≤ 4611686018427387904) (hkl : ctx.length ≤ 1000000000000000) (ht : Th ctx.own h1.length y bs) :
  QK Tryz.prog J0 [y, N k] (h1 ++ bs ++ h2) (fun r h' => r = N (k + cws ctx) ∧ ∃ bs', bs'.length = bs.length ∧ h' = h1 ++ bs' ++ h2) := by
 simp only [Wf.own, Th] at ht
 rcases ht with ⟨hnil, rfl, rfl⟩ | ⟨_, hne, cells, bs', slack, cap, hrow, hcap, rfl, rfl⟩
 ·have hks : ctx = [] := by simpa using hnil
  subst hks
  refine QK.of_codeOf Zam Qy (by simp) ⟨_, _, rfl, [], rfl, rfl⟩ ?_
  simp (disch := omega) [J2]
  refine Q9 0 0 (fun i t h => t 5 = N 0 ∧ t 1 = N k ∧ h = h1 ++ h2) (by simp) (by omega) ?_
  rintro i t1 hh hf hi ⟨e5, e1, rfl⟩
  (have e0 := hf 0 (by kernel_rfl); clear hf; simp [] at e0)
  simp (disch := omega) [e0, e1, e5]
  refine QO (.inr rfl) (by simp) ?_
  simp [cws]
 ·rw [List.length_map] at hcap
  obtain ⟨A, hA⟩ : ∃ A, h1 ++ bs' = A := ⟨_, rfl⟩
  have hAl : h1.length + bs'.length = A.length := by rw [← hA]; simp
  have hh0 : h1 ++ (bs' ++ [some (cells ++ List.replicate slack .dead)]) ++ h2 = A ++ some (cells ++ List.replicate slack .dead) :: h2 := by rw [← hA]; simp
  rw [hh0, hAl]
  refine QK.of_codeOf Zam Qy (by simp) ⟨_, _, rfl, bs' ++ [some (cells ++ List.replicate slack .dead)], rfl, rfl⟩ ?_
  simp (disch := omega) [J2]
  refine Q9 ctx.length 0 (fun i t h => t 5 = N i ∧ t 1 = N (k + cws (ctx.take i)) ∧ ∃ cD bD cR bR, h = h1 ++ (bD ++ bR) ++ some (cD ++ (cR ++ List.replicate slack .dead)) :: h2 ∧ bD.length + bR.length = bs'.length ∧
   cD.length = i ∧ Xi ((ctx.drop i).map fun c => [OU true false c.2]) 1 (h1.length + bD.length) cR bR) ?_ (by omega) ?_
  ·refine ⟨by simp, by simp [cws], [], [], cells, bs', by rw [← hA]; simp, by simp, by simp, by simpa using hrow⟩
  rintro i t1 hh hf hi ⟨e5, e1, cD, bD, cR, bR, rfl, hbl, hcDl, hR⟩
  (have e0 := hf 0 (by kernel_rfl); clear hf; simp [] at e0)
  have hcw : ∀ j, cws (ctx.take j) ≤ cws ctx := fun j => by
   have : ∀ a b : Wf, cws (a ++ b) = cws a + cws b := fun a b => by
    induction a with
    | nil => simp [cws]
    | cons x a ih => simp [cws, ih]; omega
   have := this (ctx.take j) (ctx.drop j)
   rw [List.take_append_drop] at this; omega
  by_cases h6 : i < ctx.length
  ·have hb : ltB (i : Int) ctx.length = true := by rw [Qf]; omega
   have hct : cws (ctx.take (i + 1)) = cws (ctx.take i) + (ctx[i]).2.length := by
    have : ∀ (a : Wf) (x : Bool × List Int), cws (a ++ [x]) = cws a + x.2.length := fun a x => by
     induction a with
     | nil => simp [cws]
     | cons y a ih => simp [cws, ih]; omega
    rw [List.take_succ_eq_append_getElem h6, this]
   have hci := hcw (i + 1)
   rw [List.drop_eq_getElem_cons h6] at hR
   simp only [List.map_cons, Xi, WK] at hR
   obtain ⟨c1, b1, c2, b2, _, ⟨yT, bT, _, _, hyT, ⟨rfl, rfl⟩, rfl, rfl⟩, hR2, rfl, rfl⟩ := hR
   simp only [List.append_nil] at hR2
   obtain ⟨A1, hA1⟩ : ∃ A1, h1 ++ (bD ++ (bT ++ [] ++ b2)) = A1 := ⟨_, rfl⟩
   have hA1l : A.length = A1.length := by rw [← hA1, ← hAl]; simp at hbl ⊢; omega
   rw [hA1l] at e0
   rw [hA1]
   have hdr0 : ∀ (rest : List LV), List.drop i (cD ++ rest) = rest := fun rest => List.drop_left' hcDl
   have sT := Th.share _ _ _ _ hyT
   have aT := Th.alive _ _ _ _ hyT
   simp (disch := omega) [e0, e1, e5, hb, Y6, Qh, hdr0, sT]
   refine ⟨⟨by omega, aT⟩, ?_⟩
   have MI := Jl true false (ctx[i]).2 (k + cws (ctx.take i)) (by omega) (h1 ++ bD) (b2 ++ some (cD ++ yT :: (c2 ++ List.replicate slack .dead)) :: h2) yT bT (by simpa using hyT)
   refine Yc MI (by simp [← hA1]) ?_
   rintro r h' ⟨rfl, bT', hbT, hyT2, rfl⟩
   simp (disch := omega) [e0, e1, e5, Qh, h6]
   refine ⟨by omega, cD ++ [yT], bD ++ bT', c2, b2, by simp, by simp at hbl ⊢; omega, by simp [hcDl], ?_⟩
   have : h1.length + (bD ++ bT').length = h1.length + bD.length + bT.length := by simp; omega
   rw [this]; simpa using hR2
  ·have hb : ltB (i : Int) ctx.length = false := by rw [Qd]; omega
   have hik : i = ctx.length := by omega
   have e := List.take_of_length_le (l := ctx) (i := i) (by omega)
   rw [e] at e1
   simp (disch := omega) [e0, e1, e5, hb]
   refine QO (.inr rfl) (by simp at hbl ⊢; rw [← hA]; simp; omega) ⟨by simp, bD ++ bR ++ [some (cD ++ (cR ++ List.replicate slack .dead))], by simp at hbl ⊢; omega, by simp⟩
theorem ZlB (d : Nat) : ∀ (ks : List GTerm) (nl : Bool) (k : Int), Wl ks ≤ d → 0 ≤ k ∧ k + Yr ks ≤ 4611686018427387904 → Wl ks ≤ 1000000000000000 →
  Qe Tryz.prog ZC [.sl false nl 4 (QV (Jy k ks)), N k] (· = N (k + Yr ks)) := by
 induction d with
 | zero =>
  intro ks nl k hsz hk _
  have hks : ks = [] := List.eq_nil_of_length_eq_zero (by have := Zao ks; omega)
  subst hks
  refine Qe.of_codeOf Zae Qy (by simp) ⟨_, rfl, by simp⟩ ?_
  simp (disch := omega) [J3]
  refine Q9 0 0 (fun i t _ => t 5 = N 0 ∧ t 1 = N k) (by simp) (by omega) ?_
  rintro i t1 hh hf hi ⟨e5, e1⟩
  (have e0 := hf 0 (by kernel_rfl); clear hf; simp [] at e0)
  simp (disch := omega) [e0, e1, e5, Jy, QV, Yr]
 | succ d ih =>
  intro ks nl k hsz hk hs
  have hkl := Zao ks
  refine Qe.of_codeOf Zae Qy (by simp) ⟨_, rfl, by simp⟩ ?_
  simp (disch := omega) [J3]
  refine Q9 ks.length 0 (fun i t _ => t 5 = N i ∧ t 1 = N (k + Yr (ks.take i))) (by simp [Yr]) (by omega) ?_
  rintro i t1 hh hf hi ⟨e5, e1⟩
  (have e0 := hf 0 (by kernel_rfl); clear hf; simp [] at e0)
  by_cases h6 : i < ks.length
  ·have hb : ltB (i : Int) ks.length = true := by rw [Qf]; omega
   have hck := Zps h6
   have hct := ZfB h6
   have hsk := WP h6
   have hix := ZG (Jy k ks) false nl i (by simpa using h6)
   rw [Zni ks k i h6] at hix
   obtain ⟨⟨op, n, nl1, ty, nl2, kk⟩, hki⟩ : ∃ g, ks[i] = g := ⟨_, rfl⟩
   rw [hki] at hix hck hct hsk
   simp only [GTerm.cnt, GTerm.size, mkT, GTerm.cells] at hix hck hct hsk
   obtain ⟨k', hk'⟩ : ∃ k' : Int, k + Yr (ks.take i) = k' := ⟨_, rfl⟩
   rw [hk'] at hix e1
   have HI := ZfY nl1 (k' + 2) ty.length (by omega)
   have HK := ih kk nl2 (k' + 2 + ty.length) (by omega) (by omega) (by omega)
   have q1 : eqB k' k' = true := by rw [Qc]
   have q2 : eqB (k' + 1) (k' + 1) = true := by rw [Qc]
   have q3 : ltB (k' + 2 + (ty.length : Int)) 0 = false := by rw [Qd]; omega
   have q4 : ltB (k' + 2 + (ty.length : Int) + (Yr kk : Int)) 0 = false := by rw [Qd]; omega
   have e12 : k' + 1 + 1 = k' + 2 := by omega
   simp (disch := omega) [e0, e1, e5, hb, hix, q1, q2, Qh, e12]
   refine Qa HI (by simp) ?_
   simp (disch := omega) [e0, e1, e5, hix, q3]
   refine Qa HK (by simp) ?_
   simp (disch := omega) [e0, e1, e5, hix, q4, Qh, h6]
   omega
  ·have hb : ltB (i : Int) ks.length = false := by rw [Qd]; omega
   have e := List.take_of_length_le (l := ks) (i := i) (by omega)
   rw [e] at e1
   simp (disch := omega) [e0, e1, e5, hb]
theorem ZnK (t : GTerm) (k : Int) (hk : 0 ≤ k ∧ k + t.tcnt ≤ 4611686018427387904) (hs : t.size ≤ 1000000000000000) : Qe Tryz.prog Z2 [(topT k t).lv, N k] (· = N (k + t.tcnt)) := by
 obtain ⟨op, n, nl1, ty, nl2, ks⟩ := t
 simp only [GTerm.tcnt, GTerm.size, topT, GTerm.lv, GTerm.cells] at *
 have HI := ZfY nl1 k ty.length (by omega)
 have HK := ZlB (Wl ks) ks nl2 (k + ty.length) (Nat.le_refl _) (by omega) (by omega)
 have q3 : ltB (k + (ty.length : Int)) 0 = false := by rw [Qd]; omega
 have q4 : ltB (k + (ty.length : Int) + (Yr ks : Int)) 0 = false := by rw [Qd]; omega
 refine Qe.of_codeOf ZgV Qy (by simp) ⟨_, rfl, by simp⟩ ?_
 simp (disch := omega) [Zbj, Qw, Qu]
 refine Qa HI (by simp) ?_
 simp (disch := omega) [q3]
 refine Qa HK (by simp) ?_
 simp (disch := omega) [q4]
 omega
end Go.Proofs.YtclfngbealdbgaaGreat
namespace Go.Proofs.YtclfngbealdbgaaGreat
open Go Go.TL
set_option linter.unusedSimpArgs false
set_option linter.unusedVariables false
set_option linter.unusedSectionVars false
set_option maxRecDepth 20000
set_option maxHeartbeats 4000000
abbrev nilS : LV := .sl true true 1 []
end Go.Proofs.YtclfngbealdbgaaGreat
namespace Go.Proofs.YtclfngbealdbgaaGreat
open Go Go.TL
set_option linter.unusedSimpArgs false
set_option linter.unusedVariables false
set_option linter.unusedSectionVars false
set_option maxRecDepth 20000
set_option maxHeartbeats 4000000
end Go.Proofs.YtclfngbealdbgaaGreat
namespace Go.Proofs.YtclfngbealdbgaaGreat
open Go Go.TL
set_option linter.unusedSimpArgs false
set_option linter.unusedVariables false
set_option linter.unusedSectionVars false
set_option maxRecDepth 20000
set_option maxHeartbeats 4000000
end Go.Proofs.YtclfngbealdbgaaGreat
namespace Go.Proofs.YtclfngbealdbgaaGreat
open Go Go.TL
set_option linter.unusedSimpArgs false
set_option linter.unusedVariables false
set_option linter.unusedSectionVars false
set_option maxRecDepth 20000
set_option maxHeartbeats 4000000
theorem ZeO {h h1 bs h2 : List Box} {t y : LV} (hw : QG t) (ht : Th t h1.length y bs) (he : h = h1 ++ bs ++ h2) : Y7 h (share t) y :=
 Th.view h _ y _ bs hw ht fun i b hi => by
  rw [he, List.append_assoc, List.getElem?_append_right (by omega), Nat.add_sub_cancel_left, List.getElem?_append_left]
  ·exact hi
  ·rcases Nat.lt_or_ge i bs.length with g | g
   ·exact g
   ·rw [List.getElem?_eq_none g] at hi; simp at hi
end Go.Proofs.YtclfngbealdbgaaGreat
namespace Go.Proofs.YtclfngbealdbgaaGreat
open Go Go.TL
open Go.Proofs.YtclfngbealdbgaaGreat.Ty
set_option linter.unusedSimpArgs false
set_option linter.unusedVariables false
set_option linter.unusedSectionVars false
set_option maxRecDepth 20000
set_option maxHeartbeats 4000000
theorem ZaB {h : List Box} {xs ys : List LV} (k : WJ h xs ys) : Y7 h (.agg xs) (.agg ys) := by simp only [Y7]; exact ⟨ys, rfl, k⟩
theorem Zgc (h : List Box) (s : GSys) : WJ h s.cells s.cells :=
 QL Zeo (QL (ZcS (by simp) (by simp)) (QL (ZcS (by simp) (by simp)) (QL (ZcS (by simp) (by simp)) W8)))
theorem ZnN (h : List Box) (nl : Bool) (c : Wf) : Y7 h (LC nl c) (LC nl c) := ZcS (by simp) (by simp)
theorem K8 (h : List Box) : ∀ g : GTerm, WJ h g.cells g.cells
 | .mk op n nl1 ty nl2 ks => by
  simp only [GTerm.cells]
  exact QL Zeo (QL Zeo (QL (ZcS (by simp) (by simp)) (QL (ZcS (by simp) (by simp)) W8)))
theorem ZkL (c : Wf) : QG c.own := by
 simp only [Wf.own, QG]
 refine ⟨?_, ?_⟩
 ·cases c with
  | nil => simp
  | cons x c => exact .inr ⟨trivial, trivial, fun r hr => by obtain ⟨y, _, rfl⟩ := List.mem_map.1 hr; rfl⟩
 ·induction c with
  | nil => simp [QX]
  | cons x c ih =>
   have w := Jw (fun n : Int => Value.int .i64 n) true false x.2 (.inr ⟨rfl, rfl⟩)
   simp only [List.map_cons, QX, We]
   exact ⟨⟨w, trivial⟩, ih⟩
theorem ZkK (s : GSys) : QG (.agg s.own) := by
 have w1 := Jw (fun n : Int => Value.int .i64 n) true false s.plus (.inr ⟨rfl, rfl⟩)
 have w2 := Jw (fun n : Int => Value.int .i64 n) true false s.times (.inr ⟨rfl, rfl⟩)
 have w3 := Jw (fun n : Bool => Value.bool n) true false s.below (.inr ⟨rfl, rfl⟩)
 simp only [GSys.own, QG, We] at w1 w2 w3 ⊢
 exact ⟨trivial, w1, w2, w3, trivial⟩
mutual
theorem ZfF : ∀ t : GTerm, We t.own
 | .mk op n nl1 ty nl2 ks => by
  have h := Zh3 ks
  have w := Jw (fun n : Int => Value.int .i64 n) true false ty (.inr ⟨rfl, rfl⟩)
  simp only [GTerm.own, We, QG] at w ⊢
  refine ⟨trivial, trivial, w, ⟨?_, h⟩, trivial⟩
  cases ks with
  | nil => simp [ZaQ]
  | cons k ks => exact .inr ⟨trivial, trivial, fun r hr => by rw [Zl5] at hr; obtain ⟨g, _, rfl⟩ := List.mem_map.1 hr; simp⟩
theorem Zh3 : ∀ ks : List GTerm, QX (ZaQ ks)
 | [] => by simp [ZaQ, QX]
 | t :: ks => by simp only [ZaQ, QX]; exact ⟨ZfF t, Zh3 ks⟩
end
theorem Zo8 (o : Option GTerm) : QG (Zjf o) := by
 have := JY (o.getD noT)
 simp only [Zjf, QG, We]
 exact ⟨this, trivial, trivial⟩
theorem Zgh : ∀ {xs : List LV} {n : Nat} {ys : List LV} {bs : List Box}, WK xs n ys bs → WI ys = true
 | [], n, ys, bs, h => by simp only [WK] at h; simp [h.1, WI]
 | x :: xs, n, ys, bs, h => by
  simp only [WK] at h
  obtain ⟨y, b1, ys', b2, h1, h2, rfl, _⟩ := h
  simp [WI, Th.alive _ _ _ _ h1, Zgh h2]
theorem th4 {xs : List LV} {n : Nat} {y : LV} {bs : List Box} (h : Th (.agg xs) n y bs) (hl : xs.length = 4) : ∃ a b c d, y = .agg [a, b, c, d] ∧ WK xs n [a, b, c, d] bs ∧ (share a = a ∧ share b = b ∧ share c = c ∧ share d = d) ∧ (a.alive = true ∧ b.alive = true ∧ c.alive = true ∧ d.alive = true) := by
 have hs := Th.share _ _ _ _ h
 simp only [Th] at h
 obtain ⟨ys, rfl, h⟩ := h
 obtain ⟨a, b, c, d, rfl⟩ := len4 ((Zfl h).trans hl)
 have ha := Zgh h
 simp only [share, shareAll, LV.agg.injEq, List.cons.injEq, and_true] at hs
 simp only [WI, Bool.and_eq_true, and_true] at ha
 exact ⟨a, b, c, d, rfl, h, hs, ha⟩
mutual
theorem ZkW : ∀ t : GTerm, t.ownC = t.nm.ownF
 | .mk op n nl1 ty nl2 ks => by simp [GTerm.ownC, GTerm.nm, GTerm.ownF, Zgk ks]
theorem Zgk : ∀ ks : List GTerm, XK ks = Xf (nms ks)
 | [] => by simp [XK, nms, Xf]
 | k :: ks => by simp [XK, nms, Xf, ZkW k, Zgk ks]
end
theorem th_outI {o : Option GTerm} {n : Nat} {y : LV} {bs : List Box} (h : Th (Zjf o) n y bs) : ∃ a b c d, y = .tup [.agg [a, b, c, d], B o.isSome] ∧ WK (o.getD noT).ownC n [a, b, c, d] bs ∧ (share a = a ∧ share b = b ∧ share c = c ∧ share d = d) ∧ (a.alive = true ∧ b.alive = true ∧ c.alive = true ∧ d.alive = true) := by
 unfold Zjf at h
 rw [Th.eq_4] at h
 obtain ⟨ys, rfl, h⟩ := h
 rw [WK.eq_2] at h
 obtain ⟨y, b1, ys', b2, h1, h2, rfl, rfl⟩ := h
 rw [WK.eq_2] at h2
 obtain ⟨y2, b3, ys2, b4, h3, h4, rfl, rfl⟩ := h2
 rw [WK.eq_1] at h4
 obtain ⟨rfl, rfl⟩ := h4
 simp only [Th] at h3
 obtain ⟨rfl, rfl⟩ := h3
 obtain ⟨a, b, c, d, rfl, q1, q2, q3⟩ := th4 h1 (by simp)
 exact ⟨a, b, c, d, rfl, by simpa using q1, q2, q3⟩
theorem Zox (s : GSys) (k : Int) (h1 h2 : List Box) (p0 p1 p2 p3 : LV) (bs : List Box) (hk : 0 ≤ k ∧ k + s.w ≤ 4611686018427387904) (ht : WK s.own h1.length [p0, p1, p2, p3] bs) :
  QK Tryz.prog Y9 [.agg [p0, p1, p2, p3], N k] (h1 ++ bs ++ h2) (fun r h' => r = N (k + s.w) ∧ ∃ bs' ex, bs'.length = bs.length ∧ h' = h1 ++ bs' ++ h2 ++ ex) := by
 simp only [GSys.own, WK] at ht
 obtain ⟨y0, c0, _, _, t0, ⟨y1, c1, _, _, t1, ⟨y2, c2, _, _, t2, ⟨y3, c3, _, _, t3, ⟨rfl, rfl⟩, rfl, rfl⟩, rfl, rfl⟩, rfl, rfl⟩, he, rfl⟩ := ht
 simp only [Th] at t0
 obtain ⟨rfl, rfl⟩ := t0
 simp only [List.cons.injEq, and_true] at he
 obtain ⟨rfl, rfl, rfl, rfl⟩ := he
 unfold GSys.w at hk
 have := Zjh true false true false true false s.size s.plus s.times s.below k (by omega) h1 h2 _ _ _ c1 c2 c3 (by simpa using t1) (by simpa using t2) (by simpa [Nat.add_assoc] using t3)
 have e : h1 ++ ([] ++ (c1 ++ (c2 ++ (c3 ++ [])))) ++ h2 = h1 ++ c1 ++ c2 ++ c3 ++ h2 := by simp
 rw [e]
 refine this.mono fun r h' hr => ?_
 obtain ⟨rfl, d1, d2, d3, l1, l2, l3, _, _, _, ex, rfl⟩ := hr
 exact ⟨by unfold GSys.w; simp only [LV.sc.injEq, Value.int.injEq, true_and]; push_cast; omega, d1 ++ d2 ++ d3, ex, by simp [l1, l2, l3], by simp⟩
mutual
theorem Zfp : ∀ (t : GTerm) (n : Nat) (c : List LV) (b : List Box), WK t.ownF n c b → We t.ownF
 | .mk op m nl1 ty nl2 ks, n, c, b, h => by
  simp only [GTerm.ownF] at h ⊢
  obtain ⟨yT, bT, yK, bK, rfl, rfl, h1, h2⟩ := thT.1 h
  have w1 : QG (OU (!nl1) nl1 ty) := Jw (fun n : Int => Value.int .i64 n) (!nl1) nl1 ty (by
   rcases (Zat (fun n : Int => Value.int .i64 n)).1 h1 with ⟨rfl, _⟩ | ⟨rfl, _⟩
   ·exact .inl rfl
   ·exact .inr ⟨rfl, rfl⟩)
  have w2 : QG (.sl (!nl2) nl2 4 (Xf ks)) := by
   simp only [Th] at h2
   simp only [QG]
   rcases h2 with ⟨hn, _⟩ | ⟨rfl, _, cells, bs', _, _, hrow, _⟩
   ·exact ⟨.inl hn, by rw [hn]; simp [QX]⟩
   ·exact ⟨.inr ⟨rfl, rfl, fun r hr => by rw [Zh] at hr; obtain ⟨g, _, rfl⟩ := List.mem_map.1 hr; simp⟩, ZkX ks _ _ _ hrow⟩
  simp only [We, QG] at w1 w2 ⊢
  exact ⟨trivial, trivial, w1, w2, trivial⟩
theorem ZkX : ∀ (ks : List GTerm) (n : Nat) (c : List LV) (b : List Box), Xi (Xf ks) 4 n c b → QX (Xf ks)
 | [], _, _, _, _ => by simp [Xf, QX]
 | t :: ks, n, c, b, h => by
  simp only [Xf, Xi, QX] at h ⊢
  obtain ⟨c1, b1, c2, b2, _, h1, h2, _⟩ := h
  exact ⟨Zfp t _ _ _ h1, ZkX ks _ _ _ h2⟩
end
mutual
theorem nm_nm : ∀ t : GTerm, t.nm.nm = t.nm
 | .mk op n nl1 ty nl2 ks => by simp only [GTerm.nm, Zpv ks, Zav]
theorem Zpv : ∀ ks : List GTerm, nms (nms ks) = nms ks
 | [] => by simp [nms]
 | k :: ks => by simp [nms, nm_nm k, Zpv ks]
end
mutual
theorem ZpC : ∀ t : GTerm, t.wf → t.cnt ≤ 1099511627779 * t.size
 | .mk op n nl1 ty nl2 ks, h => by
  simp only [GTerm.wf] at h
  have := Zi5 ks h.2.2.2.2
  have := h.2.2.1.1
  simp only [GTerm.cnt, GTerm.size]; omega
theorem Zi5 : ∀ ks : List GTerm, wfs ks → Yr ks ≤ 1099511627779 * Wl ks
 | [], _ => by simp [Yr]
 | k :: ks, h => by
  simp only [wfs] at h
  have := ZpC k h.1
  have := Zi5 ks h.2
  simp only [Yr, Wl]; omega
end
theorem ZnJ (t : GTerm) : t.tcnt ≤ t.cnt := by cases t; simp [GTerm.tcnt, GTerm.cnt]
mutual
theorem w_cnt : ∀ t : GTerm, t.norm.cnt ≤ 2 + 3 * t.w ∧ t.norm.size ≤ 1 + t.w
 | .mk op n nl1 ty nl2 ks => by
  have := ws_cnt ks
  simp only [GTerm.norm, GTerm.cnt, GTerm.size, GTerm.w]; omega
theorem ws_cnt : ∀ ks : List GTerm, Yr (ZP ks) ≤ 3 * (ks.length + tws ks) ∧ Wl (ZP ks) ≤ ks.length + tws ks
 | [] => by simp [ZP, Yr, Wl]
 | k :: ks => by
  have := w_cnt k
  have := ws_cnt ks
  simp only [ZP, Yr, Wl, tws, List.length_cons]; omega
end
mutual
theorem Zpy : ∀ (t : GTerm), t.norm.fl
 | .mk op n nl1 ty nl2 ks => by simp only [GTerm.norm, GTerm.fl]; exact ⟨fun h => by simp at h, ZmE ks⟩
theorem ZmE : ∀ (ks : List GTerm), fls (ZP ks)
 | [] => by simp [ZP, fls]
 | k :: ks => by simp only [ZP, fls]; exact ⟨Zpy k, ZmE ks⟩
end
end Go.Proofs.YtclfngbealdbgaaGreat
namespace Go.Proofs.YtclfngbealdbgaaGreat
open Go Go.TL
open Go.Proofs.YtclfngbealdbgaaGreat.Ty
set_option linter.unusedSimpArgs false
set_option linter.unusedVariables false
set_option linter.unusedSectionVars false
set_option maxRecDepth 20000
set_option maxHeartbeats 4000000
mutual
def shG (bw fr : Int) : GTerm → GTerm
 | .mk op n nl1 ty nl2 ks => .mk op (if op = 0 ∧ fr ≤ n then n + bw else n) nl1 ty nl2 (Yq bw fr op 0 ks)
def Yq (bw fr op : Int) (k : Nat) : List GTerm → List GTerm
 | [] => []
 | t :: ts => shG bw (fr + Qq op k) t :: Yq bw fr op (k + 1) ts
end
theorem Zp {bw fr op : Int} : ∀ (ks : List GTerm) (k : Nat), (Yq bw fr op k ks).length = ks.length
 | [], _ => by simp [Yq]
 | t :: ts, k => by simp [Yq, Zp ts]
theorem Znc {bw fr op : Int} : ∀ (ks : List GTerm) (k i : Nat) (h : i < ks.length), (Yq bw fr op k ks)[i]'(by rw [Zp]; exact h) = shG bw (fr + Qq op ((k + i : Nat) : Int)) ks[i]
 | [], _, i, h => by simp at h
 | t :: ts, k, 0, h => by simp [Yq]
 | t :: ts, k, i + 1, h => by
  simp only [Yq, List.getElem_cons_succ]
  rw [Znc ts (k + 1) i (by simpa using h), show k + 1 + i = k + (i + 1) by omega]
theorem ZkT {bw fr op : Int} {ks : List GTerm} {i : Nat} (h : i < ks.length) : (Yq bw fr op 0 ks).take (i + 1) = (Yq bw fr op 0 ks).take i ++ [shG bw (fr + Qq op i) ks[i]] := by
 rw [List.take_succ_eq_append_getElem (by rw [Zp]; exact h), Znc ks 0 i h]; simp
mutual
theorem ZhC (bw : Int) : ∀ (t : GTerm) (fr : Int), (shG bw fr t).size = t.size
 | .mk op n nl1 ty nl2 ks, fr => by simp [shG, GTerm.size, Zk6 bw ks fr op 0]
theorem Zk6 (bw : Int) : ∀ (ks : List GTerm) (fr op : Int) (k : Nat), Wl (Yq bw fr op k ks) = Wl ks
 | [], _, _, _ => by simp [Yq, Wl]
 | t :: ts, fr, op, k => by simp [Yq, Wl, ZhC bw t, Zk6 bw ts]
end
mutual
theorem shG_nm (bw : Int) : ∀ (t : GTerm) (fr : Int), (shG bw fr t).nm = shG bw fr t.nm
 | .mk op n nl1 ty nl2 ks, fr => by
  have e : (Yq bw fr op 0 ks).isEmpty = ks.isEmpty := by cases ks <;> simp [Yq]
  simp only [shG, GTerm.nm, ZpF bw ks, e]
theorem ZpF (bw : Int) : ∀ (ks : List GTerm) (fr op : Int) (k : Nat), nms (Yq bw fr op k ks) = Yq bw fr op k (nms ks)
 | [], _, _, _ => by simp [Yq, nms]
 | t :: ts, fr, op, k => by simp only [Yq, nms, shG_nm bw t, ZpF bw ts]
end
theorem num_sh {nv size bw fr op n : Int} (h0 : 0 ≤ fr) (h1 : fr ≤ nv) (hb : 0 ≤ bw) : Zfb (nv + bw) size true op (if op = 0 ∧ fr ≤ n then n + bw else n) = Zfb nv size true op n := by
 unfold Zfb
 by_cases h : op = 0
 ·subst h
  have e0 : eqB 0 0 = true := by rw [Qc]
  rw [if_pos e0, if_pos e0]
  rw [Bool.eq_iff_iff, Q7, Q7]
  simp only [true_and]
  split <;> omega
 ·have e0 : eqB op 0 = false := by rw [Qb]; exact h
  have e1 : (if op = 0 ∧ fr ≤ n then n + bw else n) = n := if_neg fun h' => h h'.1
  rw [e1]; simp [e0]
mutual
theorem ZpB {size bw : Int} (hb : 0 ≤ bw) : ∀ (t : GTerm) (nv fr : Int), 0 ≤ fr → fr ≤ nv → W1 (nv + bw) size true (shG bw fr t) = W1 nv size true t
 | .mk op n nl1 ty nl2 ks, nv, fr, h0, h1 => by
  simp only [shG, W1, VO, Zp, num_sh h0 h1 hb, ZnX hb ks nv fr op 0 h0 h1]
theorem ZnX {size bw : Int} (hb : 0 ≤ bw) : ∀ (ks : List GTerm) (nv fr op : Int) (k : Nat), 0 ≤ fr → fr ≤ nv → Xq (nv + bw) size true op k (Yq bw fr op k ks) = Xq nv size true op k ks
 | [], _, _, _, _, _, _ => by simp [Yq, Xq]
 | t :: ts, nv, fr, op, k, h0, h1 => by
  have := Xy op k
  have e := ZpB (size := size) hb t (nv + Qq op k) (fr + Qq op k) (by omega) (by omega)
  rw [show nv + Qq op k + bw = nv + bw + Qq op k by omega] at e
  simp only [Yq, Xq, e, ZnX hb ts nv fr op (k + 1) h0 h1]
end
def QE (l : List Int) : List Int := l.flatMap fun c => if QJ c = true then [4, if c = 35 then 36 else c + 16] else [c]
theorem Zpj (a b : List Int) : QE (a ++ b) = QE a ++ QE b := by simp [QE]
theorem Zf8 (c : Int) (l : List Int) : QE (c :: l) = (if QJ c = true then [4, if c = 35 then 36 else c + 16] else [c]) ++ QE l := by simp [QE]
mutual
theorem RT.boxed_flat : ∀ t : RT, t.boxed = QE t.flat
 | .nd c ks => by simp only [RT.boxed, RT.flat, Zf8, ZdH ks]
theorem ZdH : ∀ ts : List RT, Wa ts = QE (QS ts)
 | [] => by simp [Wa, QS, QE]
 | t :: ts => by simp only [Wa, QS, Zpj, RT.boxed_flat t, ZdH ts]
end
theorem Zlc {size : Int} (h2 : 2 ≤ size) {l : List Int} (h : ∀ c ∈ l, (0 ≤ c ∧ c ≤ 36) ∧ okC size true c = true) : ∀ c ∈ QE l, (0 ≤ c ∧ c ≤ 36) ∧ okC size true c = true := by
 intro c hc
 simp only [QE, List.mem_flatMap] at hc
 obtain ⟨d, hd, hcd⟩ := hc
 obtain ⟨hr, ho⟩ := h d hd
 split at hcd
 ·rename_i ha
  obtain ⟨g0, g1⟩ := J1 ho (.inl ha)
  have ha' := ha
  rw [XL] at ha'
  have hg : Wp d = d - 3 ∧ d ≠ 35 := by
   unfold Wp at g0 ⊢
   refine ⟨?_, ?_⟩
   ·split
    ·rename_i q; rw [if_pos q] at g0; omega
    ·split
     ·omega
     ·rfl
   ·rintro rfl
    revert g0
    decide
  simp only [List.mem_cons, List.not_mem_nil, or_false] at hcd
  rcases hcd with rfl | rfl
  ·refine ⟨by omega, ?_⟩
   have : QJ 4 = true := by decide
   simp [okC, this, Wp, Qi, Qf]; omega
  ·rw [if_neg hg.2]
   refine ⟨by omega, ?_⟩
   have hb : W6 (d + 16) = true := by rw [Zb3]; omega
   have hgr : Wp (d + 16) = d - 3 := by unfold Wp; rw [if_neg (by omega), if_pos (by omega)]; omega
   simp only [okC, hb, hgr]
   rw [hg.1] at g0 g1
   simp [Qi, Qf]; omega
 ·simp at hcd
  subst hcd; exact ⟨hr, ho⟩
theorem ZkY {size : Int} {l : List Int} (h : okL size l = true) : ∀ c ∈ l, (0 ≤ c ∧ c ≤ 36) ∧ okC size true c = true := by
 obtain ⟨t, h1, rfl, h3, h4⟩ := Xl.1 h
 exact fun c hc => ⟨ZaS (K6 h) c hc, h4 c hc⟩
theorem J4 (l : List Int) : l.length ≤ (QE l).length ∧ (QE l).length ≤ 2 * l.length := by
 induction l with
 | nil => simp [QE]
 | cons c l ih =>
  rw [Zf8, List.length_append]
  split <;> simp <;> omega
theorem ZqC {size : Int} (h2 : 2 ≤ size) {l : List Int} (h : okL size l = true) : okL size (QE l) = decide ((QE l).length ≤ 40) := by
 obtain ⟨t, h3, rfl, h5, h6⟩ := Xl.1 h
 obtain ⟨u, q1, q2⟩ := RT.boxed_tree t h3
 rw [RT.boxed_flat] at q2
 rw [Bool.eq_iff_iff, decide_eq_true_iff]
 constructor
 ·intro h; exact (QM h).2
 ·intro hl
  exact Xl.2 ⟨u, q1, q2.symm, hl, fun c hc => (Zlc h2 (ZkY h) c hc).2⟩
theorem okL_boxT {size n : Int} (h2 : 2 ≤ size) (h16 : size ≤ 16) (hn : 0 ≤ n ∧ n < size) {l : List Int} (h : okL size l = true) : okL size ((19 + n) :: QE l) = decide ((QE l).length + 1 ≤ 40) := by
 obtain ⟨t, h3, rfl, h5, h6⟩ := Xl.1 h
 obtain ⟨u, q1, q2⟩ := RT.boxed_tree t h3
 rw [RT.boxed_flat] at q2
 obtain ⟨_, _, c1, c2⟩ := ZnQ (size := size) hn.1 hn.2 h16
 rw [Bool.eq_iff_iff, decide_eq_true_iff]
 constructor
 ·intro h; have := (QM h).2; simpa using this
 ·intro hl
  refine Xl.2 ⟨.nd (19 + n) [u], by simp only [RT.ok, oks]; exact ⟨c2, q1, trivial⟩, by simp [RT.flat, QS, q2], by simpa using hl, fun c hc => ?_⟩
  rcases List.mem_cons.1 hc with rfl | hc
  ·exact c1
  ·exact (Zlc h2 (ZkY h) c hc).2
mutual
def bxG : GTerm → TT → GTerm
 | .mk op n _ ty _ ks, x =>
  if op = 9 then .mk 9 1 false ((19 + n) :: QE ty) false [.mk 12 1 true [] false [.mk 0 0 true [] true [], shG 1 1 ((bxK ks x.kids).headD (.mk 0 0 true [] true []))]]
  else if op = 10 then .mk 10 n true (QE ty) false [(bxK ks x.kids).headD (.mk 0 0 true [] true []), .mk 11 (Qz (hd (tyP x.kids 0))).2 true [] false [(bxK ks x.kids).getD 1 (.mk 0 0 true [] true [])]]
  else .mk op n true (QE ty) true (bxK ks x.kids)
def bxK : List GTerm → List TT → List GTerm
 | [], _ => []
 | k :: ks, xs => bxG k (xs.headD (.mk [] [] [])) :: bxK ks xs.tail
end
mutual
def bxB : GTerm → TT → Bool
 | .mk op n _ ty _ ks, x => ZaL ks x.kids && (if op = 9 then decide ((QE ty).length + 1 ≤ 40) else if WD op = true then decide ((QE ty).length ≤ 40) else true)
def ZaL : List GTerm → List TT → Bool
 | [], _ => true
 | k :: ks, xs => bxB k (xs.headD (.mk [] [] [])) && ZaL ks xs.tail
end
theorem Zf : ∀ (ks : List GTerm) (xs : List TT), (bxK ks xs).length = ks.length
 | [], _ => by simp [bxK]
 | k :: ks, xs => by simp [bxK, Zf ks]
theorem Zef : ∀ (ks : List GTerm) (xs : List TT) (i : Nat) (h : i < ks.length) (x : TT), xs[i]? = some x → (bxK ks xs)[i]'(by rw [Zf]; exact h) = bxG ks[i] x
 | [], _, i, h, _, _ => by simp at h
 | k :: ks, [], i, h, x, hx => by simp at hx
 | k :: ks, y :: xs, 0, h, x, hx => by simp at hx; subst hx; simp [bxK]
 | k :: ks, y :: xs, i + 1, h, x, hx => by
  simp only [bxK, List.tail_cons, List.getElem_cons_succ]
  exact Zef ks xs i (by simpa using h) x (by simpa using hx)
theorem Znh {ks : List GTerm} {xs : List TT} {i : Nat} (h : i < ks.length) {x : TT} (hx : xs[i]? = some x) : (bxK ks xs).take (i + 1) = (bxK ks xs).take i ++ [bxG ks[i] x] := by
 rw [List.take_succ_eq_append_getElem (by rw [Zf]; exact h), Zef ks xs i h x hx]
mutual
def GTerm.sk (nv : Int) : GTerm → Prop
 | .mk op n _ ty _ ks => (I64 op ∧ I64 n ∧ Lok ty ∧ ks.length ≤ 3) ∧ (op = 0 → 0 ≤ n ∧ n ≤ nv - 1 ∧ ks = [] ∧ ty = []) ∧ sks nv op 0 ks
def sks (nv op : Int) (k : Nat) : List GTerm → Prop
 | [] => True
 | t :: ts => t.sk (nv + Qq op k) ∧ sks nv op (k + 1) ts
end
theorem Zg5 {nv op : Int} : ∀ {ks : List GTerm} {k : Nat}, sks nv op k ks ↔ ∀ (i : Nat) (h : i < ks.length), (ks[i]).sk (nv + Qq op ((k + i : Nat) : Int))
 | [], k => by simp [sks]
 | t :: ts, k => by
  simp only [sks, Zg5 (ks := ts)]
  constructor
  ·rintro ⟨h1, h2⟩ i hi
   cases i with
   | zero => simpa only [Nat.add_zero, List.getElem_cons_zero] using h1
   | succ i =>
    have := h2 i (by simpa using hi)
    rw [show k + 1 + i = k + (i + 1) by omega] at this
    exact this
  ·intro h
   refine ⟨by have := h 0 (by simp); simpa only [Nat.add_zero, List.getElem_cons_zero] using this, fun i hi => ?_⟩
   have := h (i + 1) (by simpa using hi)
   rw [show k + (i + 1) = k + 1 + i by omega] at this
   exact this
mutual
theorem sk_wf : ∀ (g : GTerm) (nv : Int), g.sk nv → g.wf
 | .mk op n nl1 ty nl2 ks, nv, h => by
  simp only [GTerm.sk, GTerm.wf] at h ⊢
  exact ⟨h.1.1, h.1.2.1, h.1.2.2.1, by omega, sks_wf ks nv op 0 h.2.2⟩
theorem sks_wf : ∀ (ks : List GTerm) (nv op : Int) (k : Nat), sks nv op k ks → wfs ks
 | [], _, _, _, _ => by simp [wfs]
 | t :: ts, nv, op, k, h => by
  simp only [sks, wfs] at h ⊢
  exact ⟨sk_wf t _ h.1, sks_wf ts nv op (k + 1) h.2⟩
end
mutual
theorem sk_sh {bw : Int} (hb : 0 ≤ bw ∧ bw ≤ 1000) : ∀ (g : GTerm) (nv fr : Int), 0 ≤ fr → nv + 2 * g.size ≤ 100000000 → g.sk nv → (shG bw fr g).sk (nv + bw)
 | .mk op n nl1 ty nl2 ks, nv, fr, h0, hv, h => by
  simp only [GTerm.sk, shG, GTerm.size] at h hv ⊢
  obtain ⟨⟨q1, q2, q3, q4⟩, q5, q6⟩ := h
  have ih := sks_sh hb ks nv fr op 0 h0 (by omega) q6
  refine ⟨⟨q1, ?_, q3, by rw [Zp]; exact q4⟩, fun ho => ?_, ih⟩
  ·split
   ·rename_i hc
    have := q5 hc.1
    unfold I64; omega
   ·exact q2
  ·obtain ⟨r1, r2, r3, r4⟩ := q5 ho
   subst r3
   refine ⟨?_, ?_, by simp [Yq], r4⟩ <;> split <;> omega
theorem sks_sh {bw : Int} (hb : 0 ≤ bw ∧ bw ≤ 1000) : ∀ (ks : List GTerm) (nv fr op : Int) (k : Nat), 0 ≤ fr → nv + 2 + 2 * Wl ks ≤ 100000000 → sks nv op k ks → sks (nv + bw) op k (Yq bw fr op k ks)
 | [], _, _, _, _, _, _, _ => by simp [Yq, sks]
 | t :: ts, nv, fr, op, k, h0, hv, h => by
  simp only [sks, Yq, Wl] at h hv ⊢
  have := Xy op k
  have e := sk_sh hb t (nv + Qq op k) (fr + Qq op k) (by omega) (by omega) h.1
  rw [show nv + Qq op k + bw = nv + bw + Qq op k by omega] at e
  exact ⟨e, sks_sh hb ts nv fr op (k + 1) h0 (by omega) h.2⟩
end
theorem ZpZ {l : List Int} (h : l = [] ∨ wty l = true) : Lok (QE l) ∧ Lok l := by
 rcases h with rfl | h
 ·exact ⟨⟨by simp [QE], by simp [QE]⟩, ⟨by simp, by simp⟩⟩
 ·refine ⟨⟨by have := J4 l; have := Zg2 h; omega, fun n hn => ?_⟩, ZpO h⟩
  simp only [QE, List.mem_flatMap] at hn
  obtain ⟨c, hc, hn⟩ := hn
  have := ZaS h c hc
  unfold I64
  split at hn
  ·simp only [List.mem_cons, List.not_mem_nil, or_false] at hn
   rcases hn with rfl | rfl
   ·omega
   ·split <;> omega
  ·simp at hn; subst hn; omega
mutual
theorem bxG_size : ∀ (g : GTerm) (x : TT), (bxG g x).size ≤ 5 * g.size
 | .mk op n nl1 ty nl2 ks, x => by
  have hk := Zcm ks x.kids
  simp only [bxG]
  split
  ·cases h : bxK ks x.kids with
   | nil => simp [GTerm.size, Wl, ZhC]; omega
   | cons a l => rw [h] at hk; simp [GTerm.size, Wl, ZhC] at hk ⊢; omega
  ·split
   ·match h : bxK ks x.kids with
    | [] => simp [GTerm.size, Wl]; omega
    | [a] => rw [h] at hk; simp [GTerm.size, Wl] at hk ⊢; omega
    | a :: b :: l => rw [h] at hk; simp [GTerm.size, Wl] at hk ⊢; omega
   ·simp [GTerm.size]; omega
theorem Zcm : ∀ (ks : List GTerm) (xs : List TT), Wl (bxK ks xs) ≤ 5 * Wl ks
 | [], _ => by simp [bxK, Wl]
 | k :: ks, xs => by
  have h1 := bxG_size k (xs.headD (.mk [] [] []))
  have h2 := Zcm ks xs.tail
  simp only [bxK, Wl]; omega
end
theorem num_bd {nv size op n : Int} (h : Zfb nv size true op n = true) (hs : size ≤ 16) (hv : nv ≤ 1000000) : -1 ≤ n ∧ n ≤ 1000000 := by
 unfold Zfb at h
 split at h
 ·rw [Q7] at h; omega
 ·split at h
  ·rw [Q7] at h; omega
  ·split at h
   ·simp only [Bool.and_eq_true, Qf, Qi] at h; omega
   ·rw [Qc] at h; omega
theorem bx_sk {s : GSys} (t : s.Tab) (d : Nat) : ∀ (g : GTerm) (ctx : List (List Int)) (x : TT), g.size ≤ d → (∀ l ∈ ctx, okL s.size l = true) → W1 ctx.length s.size true g = true → Qo s ctx g = .ok x → ctx.length + 2 * g.size ≤ 100000 → (bxG g x).sk ctx.length := by
 induction d with
 | zero => intro g _ _ h; have := g.size_pos; omega
 | succ d ih =>
  rintro ⟨op, n, nl1, gty, nl2, ks⟩ ctx x hdd hc hf htl hlen
  obtain ⟨T, _, _⟩ := Zeh t hc hf htl
  obtain ⟨xty, xnd, xs⟩ := x
  simp only [TT.kids_mk, GTerm.size] at T hdd hlen
  have hkl := Zf ks xs
  have hxl := T.len
  have many := T.node.many
  have h2 := t.lo; have h16 := t.hi
  simp only [W1, VO, Bool.and_eq_true] at hf
  obtain ⟨⟨q1, q2, q3⟩, q4⟩ := hf
  have hnb := num_bd q2 h16 (by omega)
  have hop := T.node.op13
  have hml := many_le op
  have hI : ∀ m : Int, -1 ≤ m → m ≤ 1000100 → I64 m := fun m h1 h2 => by unfold I64; omega
  have hLo : Lok (QE gty) := (ZpZ (by
   unfold tyB at q3
   split at q3
   ·rw [Bool.and_eq_true] at q3; exact .inr q3.1
   ·rw [Qc] at q3; exact .inl (List.eq_nil_of_length_eq_zero (by omega)))).1
  have each : ∀ (i : Nat) (h : i < ks.length), ((bxK ks xs)[i]'(by omega)).sk ((ctx.length : Int) + Qq op i) := fun i h => by
   obtain ⟨y, h1, h2, h3, h4, h5⟩ := T.each i h
   have hsk := WP h
   rw [Zef ks xs i h y h1]
   have := ih ks[i] _ y (by omega) h3 h4 h2 (by omega)
   have hr := Xy op i
   rw [List.length_append, Ka, show (((Qq op i).toNat + ctx.length : Nat) : Int) = (ctx.length : Int) + Qq op i by omega] at this
   exact this
  by_cases h9 : op = 9
  ·subst h9
   have hkk : ks.length = 1 := by simp [Yh] at many; omega
   obtain ⟨k0, hK⟩ : ∃ k0, bxK ks xs = [k0] := by
    have : (bxK ks xs).length = 1 := by omega
    match h : bxK ks xs, this with
    | [a], _ => exact ⟨a, rfl⟩
   have hks := Zcm ks xs
   have e0 := each 0 (by omega)
   simp only [hK, List.getElem_cons_zero, Wl] at e0 hks
   simp [Qq] at e0
   have sh := sk_sh (bw := 1) (by omega) k0 _ 1 (by omega) (by omega) e0
   have hg : bxG (.mk 9 n nl1 gty nl2 ks) (.mk xty xnd xs) = .mk 9 1 false ((19 + n) :: QE gty) false [.mk 12 1 true [] false [.mk 0 0 true [] true [], shG 1 1 k0]] := by simp [bxG, hK]
   rw [hg]
   simp only [GTerm.sk, sks]
   have hwt : wty gty = true := by
    unfold tyB at q3
    rw [if_pos (by simp [WD, Qc]), Bool.and_eq_true] at q3
    exact q3.1
   have hL1 : Lok ((19 + n) :: QE gty) := by
    refine ⟨?_, fun m hm => ?_⟩
    ·have h1 := (J4 gty).2
     have h2 := Zg2 hwt
     simp; omega
    ·rcases List.mem_cons.1 hm with rfl | hm
     ·unfold I64; omega
     ·exact hLo.2 m hm
   have hL0 : Lok ([] : List Int) := ⟨by simp, by simp⟩
   simp [Qq]
   refine ⟨⟨hI 9 (by omega) (by omega), hI 1 (by omega) (by omega), hL1⟩, ⟨hI 12 (by omega) (by omega), hI 1 (by omega) (by omega), hL0⟩, ⟨hI 0 (by omega) (by omega), hL0⟩, sh⟩
  ·by_cases h10 : op = 10
   ·subst h10
    have hkk : ks.length = 2 := by simp [Yh] at many; omega
    obtain ⟨k0, k1, hK⟩ : ∃ k0 k1, bxK ks xs = [k0, k1] := by
     have : (bxK ks xs).length = 2 := by omega
     match h : bxK ks xs, this with
     | [a, b], _ => exact ⟨a, b, rfl⟩
    have e0 := each 0 (by omega)
    have e1 := each 1 (by omega)
    simp only [hK, List.getElem_cons_zero, List.getElem_cons_succ] at e0 e1
    simp [Qq] at e0 e1
    obtain ⟨y0, hy0⟩ : ∃ y0, xs[0]? = some y0 := ⟨_, List.getElem?_eq_getElem (by omega)⟩
    have hk0 := T.kids.first (by rintro rfl; simp at hy0)
    have hfirst : first xs = y0.ty := by simp [first, tyP, List.getD_eq_getElem?_getD, hy0]
    have hpt : tyP xs 0 = y0.ty := hfirst
    rw [hfirst] at hk0
    have ha := hk0.2.1.2.2.2.1 rfl
    have hhd := X6 hk0.1
    have hsg := (ZB hhd.2.1 hhd.2.2.1).2.2.2.2.2 (.inl ha)
    have hgr := J1 hhd.1 (.inl ha)
    have hg : bxG (.mk 10 n nl1 gty nl2 ks) (.mk xty xnd xs) = .mk 10 n true (QE gty) false [k0, .mk 11 (Qz (hd y0.ty)).2 true [] false [k1]] := by simp [bxG, hK, hpt]
    rw [hg]
    simp only [GTerm.sk, sks]
    have hL0 : Lok ([] : List Int) := ⟨by simp, by simp⟩
    simp [Qq]
    exact ⟨⟨hI 10 (by omega) (by omega), hI n (by omega) (by omega), hLo⟩, e0, ⟨hI 11 (by omega) (by omega), by rw [hsg]; exact hI _ (by omega) (by omega), hL0⟩, e1⟩
   ·have hg : bxG (.mk op n nl1 gty nl2 ks) (.mk xty xnd xs) = .mk op n true (QE gty) true (bxK ks xs) := by simp [bxG, h9, h10]
    rw [hg]
    simp only [GTerm.sk]
    refine ⟨⟨hI op (by omega) (by omega), hI n (by omega) (by omega), hLo, by omega⟩, fun h0 => ?_, Zg5.2 fun i hi => ?_⟩
    ·subst h0
     have hkk : ks.length = 0 := by simp [Yh] at many; simp [many]
     unfold Zfb at q2
     rw [if_pos (by rw [Qc]), Q7] at q2
     unfold tyB at q3
     rw [if_neg (by simp [WD, eqB]), Qc] at q3
     have e : gty = [] := List.eq_nil_of_length_eq_zero (by omega)
     exact ⟨by omega, by omega, List.eq_nil_of_length_eq_zero (by omega), by rw [e]; simp [QE]⟩
    ·have := each i (by omega)
     simpa using this
end Go.Proofs.YtclfngbealdbgaaGreat
namespace Go.Proofs.YtclfngbealdbgaaGreat
open Go Go.TL
open Go.Proofs.YtclfngbealdbgaaGreat.Ty
set_option linter.unusedSimpArgs false
set_option linter.unusedVariables false
set_option linter.unusedSectionVars false
set_option maxRecDepth 20000
set_option maxHeartbeats 4000000
def KZ (z : Nat) (ks : List GTerm) : LV := if ks.isEmpty = true then .sl true true z [] else .sl true false 4 (XK ks)
theorem KZ_app {z : Nat} {ks : List GTerm} {k : GTerm} (h : ks.length < 1099511627776) : Wt 4 (KZ z ks) (.sl true false 4 [k.ownC]) = some (KZ z (ks ++ [k])) := by
 cases ks with
 | nil => simp [KZ, Wt, XK, WQ]
 | cons a l =>
  simp only [KZ, List.isEmpty_cons, Bool.false_eq_true, if_false, List.cons_append, Wt]
  rw [if_pos ⟨.inl trivial, .inl trivial, .inl trivial, by simp [WQ] at h ⊢; omega⟩]
  simp [Zcg]
theorem KZ_flat (z : Nat) (ks : List GTerm) : (KZ z ks).flat = true := by unfold KZ; split <;> rfl
theorem KZ_cells (z : Nat) (ks : List GTerm) : (KZ z ks).cells = [KZ z ks] := by unfold KZ; split <;> rfl
theorem Zmy (z : Nat) (ks : List GTerm) : (KZ z ks).alive = true := by unfold KZ; split <;> rfl
theorem KZ_nz (z : Nat) (ks : List GTerm) : nz (KZ z ks) = nz (.sl (!ks.isEmpty) ks.isEmpty 4 (XK ks)) := by
 cases ks with
 | nil => simp [KZ, nz, XK]
 | cons a l => simp [KZ]
theorem KZ_low (z : Nat) (ks : List GTerm) : Low 0 (KZ z ks) := by unfold KZ; split <;> simp
theorem cl_nm (l : List Int) : cl l.isEmpty l = OF l := by cases l <;> simp [cl]
theorem ZnD (op n : Int) (nl1 nl2 : Bool) (h1 : nl1 = true) : Qe Tryz.prog ZZ [(GTerm.mk op n nl1 [] nl2 []).lv] (· = .agg (GTerm.mk op n true [] true []).ownC) := by
 subst h1
 refine Qe.nzR (R := fun r => nz r = nz (.agg (GTerm.mk op n true [] true []).ownC)) ?_ (fun r h => ⟨_, h.symm, rfl, by simp⟩)
 refine Qe.of_codeOf ZgW Qy (by simp) ⟨_, rfl, by simp⟩ ?_
 have CL := Zhg true [] (by simp)
 simp (disch := omega) [Zbl, Qw, Qu, GTerm.cells, QV]
 refine Qa CL (by simp) ?_
 simp (disch := omega) [cl]
 refine Xn 0 0 (fun i t h => t 17 = N 0 ∧ h = [none, some [N 0, N 0, .sl true true 1 [], .sl true true 1 []], some [N op, N n, .sl false true 1 [], .sl true true 0 []]])
  (fun t h => h = [none, some [N 0, N 0, .sl true true 1 [], .sl true true 1 []], some [N op, N n, .sl false true 1 [], .sl true true 0 []]]) (by simp) (by omega) ?_ ?_
 ·rintro i t1 hh hf hi ⟨e17, rfl⟩
  (have e16 := hf 16 (by kernel_rfl); clear hf; simp [] at e16)
  have hb : ltB 0 0 = false := by rw [Qd]; omega
  simp (disch := omega) [e16, e17, hb]
 ·rintro t2 hh hf rfl
  (have e2 := hf 2 (by kernel_rfl); have e3 := hf 3 (by kernel_rfl); clear hf; simp [] at e2 e3)
  simp (disch := omega) [e2, e3]
  simp [GTerm.ownC, XK, nz, X3]
def FnT (P : Program) (f : LV) (bw fr : Int) : Prop := share f = f ∧ Low 0 f ∧ ∀ (n deep : Int), (0 ≤ n ∧ n ≤ 1000000) → (0 ≤ deep ∧ deep ≤ 1000000) →
 ∃ fid vals, Zo f [(GTerm.mk 0 n true [] true []).lv, N deep] = some (fid, vals) ∧ QD 0 vals ∧ Qe P fid vals (· = .agg (GTerm.mk 0 (if fr + deep ≤ n then n + bw else n) true [] true []).ownC)
theorem onFn_T {P : Program} {f : LV} {bw fr n deep : Int} {d : Nat} {K : St → Prop} {s : St} (h : FnT P f bw fr) (hn : 0 ≤ n ∧ n ≤ 1000000) (hd : 0 ≤ deep ∧ deep ≤ 1000000)
  (hk : K { t := upd s.t d (.agg (GTerm.mk 0 (if fr + deep ≤ n then n + bw else n) true [] true []).ownC), h := s.h }) : onFn P .no f [(GTerm.mk 0 n true [] true []).lv, N deep] (some d) K s := by
 obtain ⟨fid, vals, h1, h2, h3⟩ := h.2.2 n deep hn hd
 exact ⟨fid, vals, h1, Qa (rw := .no) h3 h2 hk⟩
theorem Zlz (bw fr : Int) (hb : 0 ≤ bw ∧ bw ≤ 1000000) (hfr : 0 ≤ fr ∧ fr ≤ 1000000) : FnT Tryz.prog (.fn Zx [.rp [N fr], .rp [N bw]]) bw fr := by
 refine ⟨by simp, by simp, fun n deep hn hd => ⟨Zx, [(GTerm.mk 0 n true [] true []).lv, N deep, .rp [N fr], .rp [N bw]], by simp [Zo], by simp, ?_⟩⟩
 refine Qe.of_codeOf ZfS Qy (by simp) ⟨_, rfl, by simp⟩ ?_
 have CT := fun m => ZnD 0 m true true rfl
 have hle : leB fr (n - deep) = decide (fr + deep ≤ n) := by rw [Bool.eq_iff_iff, Qi, decide_eq_true_iff]; omega
 simp (disch := omega) [Zab, Qw, Qu, GTerm.cells, Qh, QV]
 by_cases h : fr + deep ≤ n
 ·have hle : leB fr (n - deep) = true := by rw [hle]; simp [h]
  have CT1 := CT (n + bw)
  simp only [GTerm.lv, GTerm.cells, QV] at CT1
  simp (disch := omega) [hle, Qh, h]
  refine Qa CT1 (by simp) ?_
  simp (disch := omega)
 ·have hle : leB fr (n - deep) = false := by rw [hle]; simp [h]
  have CT1 := CT n
  simp only [GTerm.lv, GTerm.cells, QV] at CT1
  simp (disch := omega) [hle, h]
  refine Qa CT1 (by simp) ?_
  simp (disch := omega)
end Go.Proofs.YtclfngbealdbgaaGreat
namespace Go.Proofs.YtclfngbealdbgaaGreat
open Go Go.TL
open Go.Proofs.YtclfngbealdbgaaGreat.Ty
set_option linter.unusedSimpArgs false
set_option linter.unusedVariables false
set_option linter.unusedSectionVars false
set_option maxRecDepth 20000
set_option maxHeartbeats 4000000
theorem nms_at {ks : List GTerm} {i : Nat} (h : i < ks.length) : (nms ks)[i]'(by simpa using h) = (ks[i]).nm := by simp [Zl1]
theorem Zoz {f : LV} {bw fr : Int} (hf : FnT Tryz.prog f bw fr) (hfr : 0 ≤ fr ∧ fr ≤ 100000) (d : Nat) : ∀ (g : GTerm) (nv deep : Int), g.size ≤ d → g.sk nv → 0 ≤ nv → nv + 2 * g.size ≤ 100000 → 0 ≤ deep → deep + 2 * g.size ≤ 100000 →
  Qe Tryz.prog JN [g.nm.lv, N deep, f] (· = .agg (shG bw (fr + deep) g).ownC) := by
 induction d with
 | zero => intro g _ _ h; have := g.size_pos; omega
 | succ d ih =>
  rintro ⟨op, n, nl1, gty, nl2, ks⟩ nv deep hd hform hn0 hnv hd0 hdeep
  simp only [GTerm.sk] at hform
  obtain ⟨⟨hop, hn, hty, hk⟩, hvar, hforms⟩ := hform
  simp only [GTerm.size] at hd hnv hdeep
  have hgl := hty.1
  have sf := hf.1
  have lf := hf.2.1
  simp only [GTerm.nm, GTerm.lv, GTerm.cells]
  refine Qe.nzR (R := fun r => nz r = nz (.agg (shG bw (fr + deep) (.mk op n nl1 gty nl2 ks)).ownC)) ?_ (fun r h => ⟨_, h.symm, rfl, by simp⟩)
  refine Qe.of_codeOf Zh5 Qy (by simp) ⟨_, rfl, by simp⟩ ?_
  by_cases h0 : op = 0
  ·subst h0
   have e0 : eqB 0 0 = true := by rw [Qc]
   obtain ⟨v1, v2, hk0, ht0⟩ := hvar rfl
   subst hk0 ht0
   have AP := fun (d : Nat) (K : St → Prop) (s : St) hk => onFn_T (P := Tryz.prog) (d := d) (K := K) (s := s) (n := n) (deep := deep) hf (by omega) (by omega) hk
   simp only [GTerm.lv, GTerm.cells, QV] at AP
   have eS : shG bw (fr + deep) (.mk 0 n nl1 [] nl2 []) = .mk 0 (if fr + deep ≤ n then n + bw else n) nl1 [] nl2 [] := by simp [shG, Yq]
   rw [eS]
   simp (disch := omega) [VD, Qw, Qu, e0, sf, QV, nms]
   refine AP _ _ _ ?_
   simp (disch := omega) [sf]
   simp [GTerm.ownC]
  ·have e0 : eqB op 0 = false := by rw [Qb]; exact h0
   have CL := Zhg gty.isEmpty gty (by omega)
   rw [cl_nm] at CL
   have eS : shG bw (fr + deep) (.mk op n nl1 gty nl2 ks) = .mk op n nl1 gty nl2 (Yq bw (fr + deep) op 0 ks) := by simp [shG, h0]
   have hSl := Zp (bw := bw) (fr := fr + deep) (op := op) ks 0
   rw [eS]
   simp (disch := omega) [VD, Qw, Qu, e0, sf]
   refine Qa CL (by simp) ?_
   simp (disch := omega) [sf]
   refine Xn ks.length 0 (fun i t h => t 28 = N i ∧ ∃ tl, h = none :: some [N 0, N 0, .sl true true 1 [], .sl true true 1 []] :: some [N op, N n, OF gty, KZ 0 ((Yq bw (fr + deep) op 0 ks).take i)] :: tl)
    (fun t h => ∃ tl, h = none :: some [N 0, N 0, .sl true true 1 [], .sl true true 1 []] :: some [N op, N n, OF gty, KZ 0 (Yq bw (fr + deep) op 0 ks)] :: tl) ⟨by simp, ⟨[], by simp [KZ]⟩⟩ (by omega) ?_ ?_
   ·rintro i t1 hh hf2 hi ⟨e28, tl, rfl⟩
    (have e1 := hf2 1 (by kernel_rfl); have e2 := hf2 2 (by kernel_rfl); have e3 := hf2 3 (by kernel_rfl); have e6 := hf2 6 (by kernel_rfl); have e7 := hf2 7 (by kernel_rfl); have e26 := hf2 26 (by kernel_rfl); have e27 := hf2 27 (by kernel_rfl); clear hf2; simp [] at e1 e2 e3 e6 e7 e26 e27)
    by_cases h6 : i < ks.length
    ·have hb : ltB (i : Int) ks.length = true := by rw [Qf]; omega
     have hsk := WP h6
     have hA := Xy op i
     have hkf : (ks[i]).sk (nv + Qq op i) := by have := Zg5.1 hforms i h6; simpa using this
     have recu := ih ks[i] (nv + Qq op i) (deep + Qq op i) (by omega) hkf (by omega) (by omega) (by omega) (by omega)
     rw [show fr + (deep + Qq op i) = fr + deep + Qq op i by omega] at recu
     have hap := KZ_app (z := 0) (ks := (Yq bw (fr + deep) op 0 ks).take i) (k := shG bw (fr + deep + Qq op i) ks[i]) (by rw [List.length_take]; omega)
     rw [← ZkT h6] at hap
     have hix := ZG (nms ks) false ks.isEmpty i (by simpa using h6)
     rw [nms_at h6] at hix
     have hal := Zmy 0 ((Yq bw (fr + deep) op 0 ks).take i)
     have hfl2 := KZ_flat 0 ((Yq bw (fr + deep) op 0 ks).take (i + 1))
     have hce2 := KZ_cells 0 ((Yq bw (fr + deep) op 0 ks).take (i + 1))
     simp (disch := omega) [e1, e2, e3, e6, e7, e26, e27, e28, hb, hix, hal, sf]
     refine Qa (Zhb op i) (by simp) ?_
     simp (disch := omega) [e1, e2, e3, e6, e7, e26, e27, e28, Qh, sf]
     refine Qa recu (by simp [lf]) ?_
     simp (disch := omega) [e1, e2, e3, e6, e7, e26, e27, e28, hap, hfl2, hce2, Qh, h6, Qn]
    ·have hb : ltB (i : Int) ks.length = false := by rw [Qd]; omega
     have e := List.take_of_length_le (l := Yq bw (fr + deep) op 0 ks) (i := i) (by omega)
     simp (disch := omega) [e27, e28, hb, e]
   ·rintro t2 hh hf2 ⟨tl, rfl⟩
    (have e6 := hf2 6 (by kernel_rfl); have e7 := hf2 7 (by kernel_rfl); clear hf2; simp [] at e6 e7)
    have hal := Zmy 0 (Yq bw (fr + deep) op 0 ks)
    have hlo := KZ_low 0 (Yq bw (fr + deep) op 0 ks)
    have hkn := KZ_nz 0 (Yq bw (fr + deep) op 0 ks)
    simp (disch := omega) [e6, e7, hal, hlo]
    simp only [GTerm.ownC, nz.eq_9, X3, hkn]
theorem ZoA (g : GTerm) (nv bw fr : Int) (hb : 0 ≤ bw ∧ bw ≤ 100000) (hfr : 0 ≤ fr ∧ fr ≤ 100000) (hform : g.sk nv) (h0 : 0 ≤ nv) (h1 : nv + 2 * g.size ≤ 100000) :
  Qe Tryz.prog Vr [g.nm.lv, N bw, N fr] (· = .agg (shG bw fr g).ownC) := by
 refine Qe.of_codeOf ZiM Qy (by simp) ⟨_, rfl, by simp⟩ ?_
 have FT := Zlz bw fr (by omega) (by omega)
 have RN := Zoz FT hfr g.size g nv 0 (Nat.le_refl _) hform h0 h1 (by omega) (by omega)
 rw [show fr + 0 = fr by omega] at RN
 simp (disch := omega) [Zcz, Qw, Qu]
 refine Qa RN (by simp) ?_
 simp (disch := omega)
end Go.Proofs.YtclfngbealdbgaaGreat
namespace Go.Proofs.YtclfngbealdbgaaGreat
open Go Go.TL
open Go.Proofs.YtclfngbealdbgaaGreat.Ty
set_option linter.unusedSimpArgs false
set_option linter.unusedVariables false
set_option linter.unusedSectionVars false
set_option maxRecDepth 20000
set_option maxHeartbeats 4000000
theorem QK.of_codeOfT0 {P : Program} {f : FuncId} {m : List (Nat × List Md)} {k : C} {rvs : List RV} {n : Nat} {args : List LV} {R : LV → List Box → Prop} (hc : K4 P f m = some (k, rvs, n)) (hm : P.follows .mixedOrders = true)
  (hth : shareAll args = args) (hlen : args.length ≤ n) (hex : ∃ r h', R r h') (hw : wpC P k (Post rvs 0 R) { t := env args, h := [] }) : QK P f args [] R := by
 unfold K4 at hc
 split at hc
 ·rename_i hcal
  split at hc
  ·rename_i fn hf
   split at hc
   ·rename_i c hb
    split at hc
    ·rename_i k' rv' h1 h2
     simp only [Option.some.injEq, Prod.mk.injEq] at hc
     obtain ⟨rfl, rfl, rfl⟩ := hc
     exact QK.of_code hm hcal hf hb h1 h2 hlen (fun _ => ⟨rfl, hth⟩) hex hw
    ·simp at hc
   ·simp at hc
  ·simp at hc
 ·simp at hc
theorem wpC_thw {P : Program} {ks : List Nat} {n k o : Nat} {Q : Exit → St → Prop} {s : St} : wpC P (.thw ks n k o) Q s ↔ ∃ l p xs sz Qj, s.t k = .ptr l p ∧ s.h[l]? = some (some xs) ∧ xs[p + o]? = some (.sl true false sz Qj) ∧ Qj ≠ [] ∧ (∀ r ∈ Qj, r.length = sz) ∧ QX Qj ∧ (∀ c ∈ xs, Zct c) ∧ (∀ j, ks.contains j = true → Zct (s.t j)) ∧
      ∀ cap slack, Qj.length ≤ cap → Qj.length * sz + slack = cap * sz → Q .normal ⟨Zb4 ks n s.t, (((s.h.set l (some (splice xs (p + o) [.dead]))).map wkB) ++ [some (Qj.flatten ++ List.replicate slack LV.dead)]).set l (some (splice xs (p + o) [.ha s.h.length sz 0 Qj.length cap]))⟩ := Iff.rfl
theorem ZfJ {t p sz m : Nat} {agg : Bool} {xs : List LV} {v : LV} {R : LV → List Box → Prop} {e : Exit} {s : St} (he : e = .normal ∨ e = .ret) (ht : s.t t = .ptr p 0) (hp : s.h[p]? = some (some xs)) (hs : sz = xs.length) (hv : Wi agg xs = some v)
  (hm : m ≤ s.h.length) (hR : R v (s.h.set p (some (shareAll xs)))) : Post [.cell t agg sz] m R e s := by
 refine ⟨he, [v], { s with h := s.h.set p (some (shareAll xs)) }, s.h.length, ?_, hm, by simp, .inl (by simp), ?_⟩
 ·simp only [YD, ZkQ, ht, hp, hs, if_true, hv]
 ·rw [List.take_of_length_le (by simp)]; exact hR
theorem Zoy {R : LV → Prop} {xs : List LV} {h : List Box} (hs : ∀ x ∈ xs, ∀ h, Fz x x h h) (lo : QD 0 xs) (hR : R (.agg xs)) : FzR R (.agg xs) h :=
 ⟨.agg xs, h, 0, by simp only [Fz]; exact ⟨xs, rfl, Kb hs⟩, Nat.le_refl _, Nat.zero_le _, by simpa using lo, fun l xs hl => by omega, hR, by simpa using lo⟩
theorem fz_sc {v : Value} (h : List Box) : Fz (.sc v) (.sc v) h h := by simp [Fz]
theorem ZeY : ∀ {x : LV}, (∃ v, x = .sc v) ∨ (∃ u nl sz Qj, x = .sl u nl sz Qj) → ∀ h, Fz x x h h := by
 rintro x (⟨v, rfl⟩ | ⟨u, nl, sz, Qj, rfl⟩) h
 ·exact fz_sc h
 ·exact ZhK h
def Plain (x : LV) : Prop := (∃ v, x = .sc v) ∨ (∃ u nl sz Qj, x = .sl u nl sz Qj)
theorem ZiP (t : GTerm) : ∀ c ∈ t.ownC, Plain c := by
 obtain ⟨op, n, nl1, ty, nl2, ks⟩ := t
 intro c hc
 simp only [GTerm.ownC, List.mem_cons, List.not_mem_nil, or_false] at hc
 rcases hc with rfl | rfl | rfl | rfl
 ·exact .inl ⟨_, rfl⟩
 ·exact .inl ⟨_, rfl⟩
 ·exact .inr ⟨_, _, _, _, rfl⟩
 ·exact .inr ⟨_, _, _, _, rfl⟩
theorem Zgd {xs : List LV} {h : List Box} (hx : ∀ c ∈ xs, Plain c) : Ji xs xs h h := Kb fun c hc h => ZeY (hx c hc) h
theorem ZpX {size : Int} {l : List Int} (h : okL size l = true) : Qe Tryz.prog Ye [L false l] (· = OU true false (QE l)) := by
 obtain ⟨t, h3, rfl, h5, _⟩ := Xl.1 h
 have := boxed_ok t.flat.length t (Nat.le_refl _) h3 (by omega) (fun n hn => by have := ZaS (K6 h) n hn; unfold I64; omega)
 rw [RT.boxed_flat] at this
 exact this
end Go.Proofs.YtclfngbealdbgaaGreat
namespace Go.Proofs.YtclfngbealdbgaaGreat
open Go Go.TL
open Go.Proofs.YtclfngbealdbgaaGreat.Ty
set_option linter.unusedSimpArgs false
set_option linter.unusedVariables false
set_option linter.unusedSectionVars false
set_option maxRecDepth 20000
set_option maxHeartbeats 8000000
theorem Zou {s : GSys} (hsy : s.sys = true) (d : Nat) : ∀ (g : GTerm) (ctx : List (List Int)) (x : TT) (r0 : LV), g.size ≤ d → g.wf → g.fl → (∀ l ∈ ctx, okL s.size l = true) → W1 ctx.length s.size true g = true → Qo s ctx g = .ok x → x.is r0 →
  ctx.length + 2 * g.size ≤ 20000 → Qe Tryz.prog JP [g.lv, r0] (· = .agg (bxG g x).ownC) := by
 induction d with
 | zero => intro g _ _ _ h; have := g.size_pos; omega
 | succ d ih =>
  rintro ⟨op, n, nl1, gty, nl2, ks⟩ ctx x r0 hd hw hfl hc hf htl hx hlen
  have t := GSys.sys_of hsy
  have h2 := t.lo; have h16 := t.hi
  obtain ⟨T, _, _⟩ := Zeh t hc hf htl
  simp only [GTerm.wf] at hw
  obtain ⟨hop, hn, hty, hk, hks⟩ := hw
  simp only [GTerm.fl] at hfl
  obtain ⟨hf1, hfk⟩ := hfl
  simp only [GTerm.size, GTerm.lv, GTerm.cells] at hd hlen ⊢
  obtain ⟨xty, xnd, xs⟩ := x
  simp only [TT.kids_mk] at T
  have hxs := JE _ _ hx
  simp only [TT.is] at hx
  obtain ⟨n3, n4, Qj, rfl, hr⟩ := hx
  have hxs1 := hxs.1
  have hrs := (Xg _ Qj hr).1
  have hrl := Zg4 _ Qj hr
  have hgl := hty.1
  have many := T.node.many
  have hkl := Zf ks xs
  have hxl := T.len
  have hte : WD op = false → gty = [] := fun h => by
   simp only [W1, Bool.and_eq_true, VO] at hf
   have := hf.1.2.2
   rw [tyB, if_neg (by simp [h]), Qc] at this
   exact List.eq_nil_of_length_eq_zero (by omega)
  have hok : 0 < gty.length → okL s.size gty = true := fun h => by
   cases ht : WD op
   ·rw [hte ht] at h; simp at h
   ·exact T.node.typed ht
  have hnl : 0 < gty.length → nl1 = false := fun h => by
   cases q : nl1 with
   | false => rfl
   | true => have := hf1 q; rw [this] at h; simp at h
  refine Qe.nzR (R := fun r => nz r = nz (.agg (bxG (.mk op n nl1 gty nl2 ks) (.mk xty xnd xs)).ownC)) ?_ (fun r h => ⟨_, h.symm, rfl, by simp⟩)
  refine Qe.freeze (QK.of_codeOfT0 Zjc Qy (by simp [hxs1]) (by simp) ⟨_, [], Zoy (fun x hx h => ZeY (ZiP _ x hx) h) (Zhu 0 (bxG (.mk op n nl1 gty nl2 ks) (.mk xty xnd xs))) rfl⟩ ?_)
  obtain ⟨RR, hRR⟩ : ∃ RR : LV → Prop, RR = fun r => nz r = nz (.agg (bxG (.mk op n nl1 gty nl2 ks) (.mk xty xnd xs)).ownC) := ⟨_, rfl⟩
  rw [← hRR]
  simp only [Zci]
  rw [ZcM, ZcM]
  refine Zg9 (fun t h => t 2 = .rp [N op, N n, L nl1 gty, .sl false nl2 4 (QV ks)] ∧ t 4 = .ptr 1 0 ∧ t 5 = .ptr 2 0 ∧ ∃ u nl rs, (∃ Z, .sl u nl 1 rs = Z ∧ (Z = OF (QE gty) ∨ (Z = .sl true true 1 [] ∧ gty = []))) ∧
   h = [none, some [N 0, N 0, .sl true true 1 [], .sl true true 1 []], some [N op, N n, .sl u nl 1 rs, .sl true true 1 []]]) ?_ ?_
  ·simp (disch := omega) [Qw, Qu, hxs]
   by_cases h0 : 0 < gty.length
   ·have BO := ZpX (hok h0)
    have hl0 : ltB 0 (gty.length : Int) = true := by rw [Qf]; omega
    have hn1 := hnl h0
    subst hn1
    have hbl := J4 gty
    simp (disch := omega) [hxs, hl0]
    refine Qa BO (by simp) ?_
    simp (disch := omega) [hxs]
    intro h; rw [h] at hbl; have hb1 := hbl.1; simp at hb1; rw [hb1] at h0; simp at h0
   ·have hl0 : ltB 0 (gty.length : Int) = false := by rw [Qd]; omega
    have e : gty = [] := List.eq_nil_of_length_eq_zero (by omega)
    simp (disch := omega) [hxs, hl0, e]
  rintro t1 hh hf1' ⟨a2, a4, a5, u, nl, rs, ⟨Z, hZ, hZc⟩, rfl⟩
  have hZl : Wo 0 rs := by
   rcases hZc with rfl | ⟨rfl, _⟩
   ·simp only [LV.sl.injEq] at hZ; obtain ⟨_, _, _, rfl⟩ := hZ; simp
   ·simp only [LV.sl.injEq] at hZ; obtain ⟨_, _, _, rfl⟩ := hZ; simp
  have hZw : QG (.sl u nl 1 rs) := by
   rw [hZ]
   rcases hZc with rfl | ⟨rfl, _⟩
   ·exact Jw (fun n : Int => Value.int .i64 n) (!(QE gty).isEmpty) (QE gty).isEmpty (QE gty) (by cases QE gty <;> simp)
   ·simp [QG, QX]
  have hZn : nz (.sl u nl 1 rs) = nz (OF (QE gty)) := by
   rw [hZ]
   rcases hZc with rfl | ⟨rfl, rfl⟩
   ·rfl
   ·simp [QE, nz]
  (have a1 := hf1' 1 (by kernel_rfl); clear hf1'; simp [] at a1)
  simp (disch := omega) [a1, a2, a4, a5]
  refine Xn ks.length 0 (fun i t h => t 27 = N i ∧ ∃ tl, h = none :: some [N 0, N 0, .sl true true 1 [], .sl true true 1 []] :: some [N op, N n, .sl u nl 1 rs, KS ((bxK ks xs).take i)] :: tl)
   (fun t h => ∃ tl, h = none :: some [N 0, N 0, .sl true true 1 [], .sl true true 1 []] :: some [N op, N n, .sl u nl 1 rs, KS (bxK ks xs)] :: tl) ⟨by simp, ⟨[], by simp [KS]⟩⟩ (by omega) ?_ ?_
  ·rintro i t1 hh hf2 hi ⟨e27, tl, rfl⟩
   (have e1 := hf2 1 (by kernel_rfl); have e2 := hf2 2 (by kernel_rfl); have e4 := hf2 4 (by kernel_rfl); have e5 := hf2 5 (by kernel_rfl); have e25 := hf2 25 (by kernel_rfl); have e26 := hf2 26 (by kernel_rfl); clear hf2; simp [a1, a2, a4, a5] at e1 e2 e4 e5 e25 e26)
   by_cases h6 : i < ks.length
   ·have hb : ltB (i : Int) ks.length = true := by rw [Qf]; omega
    obtain ⟨y, hy1, hy2, hy3, hy4, hy5⟩ := T.each i h6
    have hyx : i < xs.length := by rw [T.len]; exact h6
    obtain ⟨yr, hyr1, hyr2⟩ := Zlw xs Qj i hyx hr
    have hkw : (ks[i]).wf := (Z5.1 hks) _ (List.getElem_mem h6)
    have hkf : (ks[i]).fl := (Zbb.1 hfk) _ (List.getElem_mem h6)
    have hsk := WP h6
    have hxy : xs[i] = y := by rw [List.getElem?_eq_getElem hyx] at hy1; simpa using hy1
    rw [hxy] at hyr2
    have recu := ih ks[i] _ y yr (by omega) hkw hkf hy3 hy4 hy2 hyr2 (by omega)
    have hap := KS_app (ks := (bxK ks xs).take i) (k := bxG ks[i] y) (by rw [List.length_take]; omega)
    rw [← Znh h6 hy1] at hap
    have hidx : QF 1 (.sl false n3 1 Qj) (i : Int) = some (.rp [yr]) := by
     simp only [QF]
     rw [if_pos ⟨trivial, by omega, by omega⟩]
     have := (JE _ _ hyr2).1
     simp [List.getD_eq_getElem?_getD, hyr1, this]
    have hys := (JE _ _ hyr2).1
    have hal := Zm2 ((bxK ks xs).take i)
    have hfl2 := KS_flat ((bxK ks xs).take (i + 1))
    have hce2 := KS_cells ((bxK ks xs).take (i + 1))
    simp (disch := omega) [e1, e2, e4, e5, e25, e26, e27, hb, ZG, hrs, hal, hidx, hys]
    refine Qa recu (by simp [(JE _ _ hyr2).2]) ?_
    simp (disch := omega) [e1, e2, e4, e5, e25, e26, e27, hap, hfl2, hce2, Qh, h6, Qn]
   ·have hb : ltB (i : Int) ks.length = false := by rw [Qd]; omega
    have hik : i = ks.length := by omega
    have e := List.take_of_length_le (l := bxK ks xs) (i := i) (by omega)
    simp (disch := omega) [e26, e27, hb, e]
  ·rintro t2 hh hf2 ⟨tl, rfl⟩
   (have e1 := hf2 1 (by kernel_rfl); have e2 := hf2 2 (by kernel_rfl); have e4 := hf2 4 (by kernel_rfl); have e5 := hf2 5 (by kernel_rfl); clear hf2; simp [a1, a2, a4, a5] at e1 e2 e4 e5)
   simp (disch := omega) [e1, e2, e4, e5]
   by_cases h9 : op = 9
   ·subst h9
    have hkk : ks.length = 1 := by simp [Yh] at many; omega
    obtain ⟨k0, hK⟩ : ∃ k0, bxK ks xs = [k0] := by
     have : (bxK ks xs).length = 1 := by omega
     match h : bxK ks xs, this with
     | [a], _ => exact ⟨a, rfl⟩
    have e9 : eqB 9 9 = true := by rw [Qc]
    have hG : s.G n := T.node.grade (by simp [Jo, Qc])
    have hix : QF 4 (.sl false false 4 [k0.nm.cells]) 0 = some (.rp k0.nm.cells) := by simp [QF]
    rw [hK]
    have hKS : KS [k0] = .sl true false 4 [k0.ownC] := by simp [KS, XK]
    rw [hKS]
    have SK : k0.sk ((ctx.length : Int) + 1) := by
     obtain ⟨y, hy1, hy2, hy3, hy4, hy5⟩ := T.each 0 (by omega)
     have hsk := WP (ks := ks) (i := 0) (by omega)
     have := bx_sk t _ (ks[0]'(by omega)) _ y (Nat.le_refl _) hy3 hy4 hy2 (by omega)
     have e : k0 = bxG (ks[0]'(by omega)) y := by
      have := Zef ks xs 0 (by omega) y hy1
      simp only [hK, List.getElem_cons_zero] at this; exact this
     rw [e]
     have ea : Qt 9 gty 0 (first xs) = [gty] := by simp [Qt]
     rw [ea] at this
     simpa using this
    have hbs : k0.size ≤ 5 * Wl ks := by
     have := Zcm ks xs
     rw [hK] at this; simpa [Wl] using this
    have SH := ZoA k0 _ 1 1 (by omega) (by omega) SK (by omega) (by omega)
    have hfz : ∀ b c xs', Qu (none :: b :: c :: (tl ++ [some xs'])) (.ptr (tl.length + 1 + 1 + 1) 0) = some (.rp xs', none :: b :: c :: (tl ++ [none])) := by
     intro b c xs'; simp [Qu]
    have hokg := T.node.typed (by simp [WD, Qc])
    have hlg := QM hokg
    have hbl := J4 gty
    have hne : QE gty ≠ [] := by intro h; rw [h] at hbl; have := hbl.1; simp at this; rw [this] at hlg; simp at hlg
    obtain ⟨rfl, rfl, rfl⟩ : u = true ∧ nl = false ∧ rs = (QE gty).map (fun m => [N m]) := by
     rcases hZc with rfl | ⟨_, h⟩
     ·have he : (QE gty).isEmpty = false := by cases hq : QE gty with
       | nil => exact absurd hq hne
       | cons a l => rfl
      simp only [OF, he, LV.sl.injEq] at hZ
      exact ⟨hZ.1, hZ.2.1, hZ.2.2.2⟩
     ·rw [h] at hlg; simp at hlg
    have hw19 : IntKind.i64.wrap (19 + n) = 19 + n := by have g1 := hG.1; have g2 := hG.2; exact Qh (by omega)
    have hap : Wt 1 (.sl true false 1 [[N (19 + n)]]) (.sl false false 1 (Qr ((QE gty).map fun m => [N m]))) = some (OU true false ((19 + n) :: QE gty)) := by
     rw [show Qr ((QE gty).map fun m => [N m]) = (QE gty).map fun m => [N m] by simp]
     simp only [Wt]
     rw [if_pos ⟨.inl trivial, .inl trivial, .inl trivial, by simp [WQ]; omega⟩]
     simp
    have hap2 := hap
    rw [show Qr ((QE gty).map fun m => [N m]) = (QE gty).map fun m => [N m] by simp] at hap2
    simp (disch := omega) [e1, e2, e4, e5, e9, hix, Qr]
    refine Qa SH (by simp) ?_
    simp (disch := omega) [e1, e2, e4, e5, Qn, hfz, hw19, hap, hap2]
    have hg : bxG (.mk 9 n nl1 gty nl2 ks) (.mk xty xnd xs) = .mk 9 1 false ((19 + n) :: QE gty) false [.mk 12 1 true [] false [.mk 0 0 true [] true [], shG 1 1 k0]] := by
     simp [bxG, hK]
    refine ZfJ (p := 1) (xs := [N 9, N 1, .sl true false 1 ([N (19 + n)] :: (QE gty).map fun m => [N m]), .sl true false 4 [[N 12, N 1, .sl true true 1 [], .sl true false 4 [[N 0, N 0, .sl true true 1 [], .sl true true 1 []], (shG 1 1 k0).ownC]]]]) (.inr rfl) (by simp [e4]) (by simp) rfl rfl (by simp) (Zoy (fun c hc h => ZeY ?_ h) (by simp) ?_)
    ·simp only [List.mem_cons, List.not_mem_nil, or_false] at hc
     rcases hc with rfl | rfl | rfl | rfl
     ·exact .inl ⟨_, rfl⟩
     ·exact .inl ⟨_, rfl⟩
     ·exact .inr ⟨_, _, _, _, rfl⟩
     ·exact .inr ⟨_, _, _, _, rfl⟩
    ·rw [hRR]; simp only
     rw [hg]
     simp [GTerm.ownC, XK, nz, Zaf, X3]
   ·have e9 : eqB op 9 = false := by rw [Qb]; exact h9
    by_cases h10 : op = 10
    ·subst h10
     have e10 : eqB 10 10 = true := by rw [Qc]
     have hkk : ks.length = 2 := by simp [Yh] at many; omega
     obtain ⟨k0, k1, hK⟩ : ∃ k0 k1, bxK ks xs = [k0, k1] := by
      have : (bxK ks xs).length = 2 := by omega
      match h : bxK ks xs, this with
      | [a, b], _ => exact ⟨a, b, rfl⟩
     obtain ⟨y, hy1, hy2, hy3, hy4, hy5⟩ := T.each 0 (by omega)
     obtain ⟨yr, hyr1, hyr2⟩ := Zlw xs Qj 0 (by omega) hr
     have hxy : xs[0]'(by omega) = y := by rw [List.getElem?_eq_getElem (by omega)] at hy1; simpa using hy1
     rw [hxy] at hyr2
     have hk0 := T.kids.first (by rintro rfl; simp at hxl; omega)
     have hfy : first xs = y.ty := by simp [first, tyP, List.getD_eq_getElem?_getD, hy1]
     have hty0 : tyP xs 0 = y.ty := hfy
     rw [hfy] at hk0
     have hly := QM hk0.1
     obtain ⟨c0, crest, hyc⟩ : ∃ c l, y.ty = c :: l := by
      cases q : y.ty with
      | nil => rw [q] at hly; simp at hly
      | cons c l => exact ⟨c, l, rfl⟩
     have hIc : I64 c0 := by
      have := ZaS (K6 hk0.1) c0 (by rw [hyc]; simp)
      unfold I64; omega
     obtain ⟨yty, ynd, yks⟩ := y
     have hyc' : yty = c0 :: crest := hyc
     clear hyc
     subst hyc'
     have hys := (JE _ _ hyr2).1
     have hyL := (JE _ _ hyr2).2
     simp only [TT.is] at hyr2
     obtain ⟨m3, m4, yrows, rfl, hyr⟩ := hyr2
     have hrl0 : 0 < Qj.length := by omega
     have hidx : QF 1 (.sl false n3 1 Qj) 0 = some (.rp [.rp [L false (c0 :: crest), L false ynd, .sl false m3 1 yrows, N 0, .sl false m4 1 []]]) := by
      simp only [QF]
      rw [if_pos ⟨trivial, by omega, by omega⟩]
      simp [List.getD_eq_getElem?_getD, hyr1, hys]
     have hidy : QF 1 (.sl false false 1 ([N c0] :: crest.map fun x => [N x])) 0 = some (.rp [N c0]) := by simp [QF]
     have SP := KD c0 hIc
     simp (disch := omega) [e1, e2, e4, e5, e9, e10, hidx, hidy, hrs, hys]
     refine Qa SP (by simp) ?_
     simp (disch := omega) [e4, e5]
     have hKS : KS (bxK ks xs) = .sl true false 4 [k0.ownC, k1.ownC] := by simp [hK, KS, XK]
     rw [hKS]
     refine wpC_thw.2 ⟨2, 0, [N 10, N n, .sl u nl 1 rs, .sl true false 4 [k0.ownC, k1.ownC]], 4, [k0.ownC, k1.ownC], by simp [e5], by simp, by simp, by simp, by simp, ?_, ?_, ?_, ?_⟩
     ·simp only [QX]; exact ⟨JY k0, JY k1, trivial⟩
     ·intro c hc
      simp only [List.mem_cons, List.not_mem_nil, or_false] at hc
      rcases hc with rfl | rfl | rfl | rfl
      ·exact .inl trivial
      ·exact .inl trivial
      ·exact .inr hZw
      ·refine .inr ?_
       simp only [QG, QX]
       exact ⟨.inr ⟨by simp, by simp, by simp⟩, JY k0, JY k1, trivial⟩
     ·intro j hj
      simp only [List.contains_cons, List.contains_nil, Bool.or_false, Bool.or_eq_true, beq_iff_eq] at hj
      rcases hj with rfl | rfl | rfl <;> simp [e4, e5] <;> exact .inl trivial
     intro cap slack hcap hslack
     have hwk : wkB (some [N 0, N 0, .sl true true 1 [], .sl true true 1 []]) = some [N 0, N 0, .sl true true 1 [], .sl true true 1 []] := ZnP (by
      intro c hc
      simp only [List.mem_cons, List.not_mem_nil, or_false] at hc
      rcases hc with rfl | rfl | rfl | rfl
      ·exact .inl trivial
      ·exact .inl trivial
      ·exact .inr (by simp [QG, QX])
      ·exact .inr (by simp [QG, QX]))
     have hwn : wkB none = none := rfl
     simp only [List.length_cons, List.map_cons, List.set_cons_succ, List.set_cons_zero, hwk, hwn, List.cons_append]
     have htl' : (tl.map wkB).length = tl.length := by simp
     generalize tl.map wkB = tl' at htl' ⊢
     rw [← htl']
     clear htl' tl
     generalize ht3 : Zb4 _ _ _ = t3
     have f4 : t3 4 = .ptr 1 0 := by rw [← ht3]; simp [Zb4, e4]
     have f5 : t3 5 = .ptr 2 0 := by rw [← ht3]; simp [Zb4, e5]
     have f10 : t3 10 = N (Qz c0).2 := by rw [← ht3]; simp [Zb4]
     clear ht3 e1 e2 e4 e5
     obtain ⟨p0, p1, p2, p3, hp⟩ := len4 (Zf4 k0)
     obtain ⟨q0, q1, q2, q3, hq⟩ := len4 (Zf4 k1)
     have halq := Zpd k1
     rw [hq] at halq
     simp only [WI] at halq
     simp at hcap hslack
     have hix1 : QF 4 (.ha (tl'.length + 1 + 1 + 1) 4 0 2 cap) 1 = some (.ptr (tl'.length + 1 + 1 + 1) 4) := by
      have := Y6 (l := tl'.length + 1 + 1 + 1) (sz := 4) (off := 0) (n := 2) (cap := cap) (i := 1) (by omega)
      simpa using this
     simp (disch := omega) [f4, f5, f10, hp, hq, splice, Qu, hix1, halq]
     refine ⟨by simpa [WI] using halq, ?_⟩
     have hg : bxG (.mk 10 n nl1 gty nl2 ks) (.mk xty xnd xs) = .mk 10 n true (QE gty) false [k0, .mk 11 (Qz c0).2 true [] false [k1]] := by
      simp [bxG, hK, hty0, TT.ty, hd]
     have hch : Qn 4 1 [q0, q1, q2, q3] = [k1.ownC] := by rw [hq]; simp [Qn]
     rw [hch]
     refine ZfJ (p := 1) (xs := [N 10, N n, .sl u nl 1 rs, .ha (tl'.length + 1 + 1 + 1) 4 0 2 cap]) (.inr rfl) (by simp [f4]) (by simp) rfl rfl (by simp) ?_
     generalize hH : List.set _ _ _ = H
     have hHl : H[tl'.length + 1 + 1 + 1]? = some (some ((p0 :: p1 :: p2 :: p3 :: N 11 :: N (Qz c0).2 :: .sl true true 1 [] :: .sl true false 4 [k1.ownC] :: []) ++ List.replicate slack .dead)) := by rw [← hH]; simp
     have hk0p := ZiP k0
     rw [hp] at hk0p
     have A1 : ∀ H, Ji k0.ownC [p0, p1, p2, p3] H H := fun H => by rw [hp]; exact Zgd hk0p
     have A2 : ∀ H, Ji [N 11, N (Qz c0).2, .sl true true 1 [], .sl true false 4 [k1.ownC]] [N 11, N (Qz c0).2, .sl true true 1 [], .sl true false 4 [k1.ownC]] H H := fun H => Zgd fun c hc => by
      simp only [List.mem_cons, List.not_mem_nil, or_false] at hc
      rcases hc with rfl | rfl | rfl | rfl
      ·exact .inl ⟨_, rfl⟩
      ·exact .inl ⟨_, rfl⟩
      ·exact .inr ⟨_, _, _, _, rfl⟩
      ·exact .inr ⟨_, _, _, _, rfl⟩
     refine ⟨.agg [N 10, N n, .sl u nl 1 rs, .sl true false 4 [k0.ownC, [N 11, N (Qz c0).2, .sl true true 1 [], .sl true false 4 [k1.ownC]]]], H.set (tl'.length + 1 + 1 + 1) none, 0, ?fz, Nat.le_refl _, Nat.zero_le _, ?lo, fun l xs hl => by omega, ?rr, ?lo⟩
     case fz =>
      simp only [Fz]
      refine ⟨_, rfl, ?_⟩
      simp only [Ji]
      refine ⟨_, _, _, rfl, fz_sc _, _, _, _, rfl, fz_sc _, _, _, _, rfl, ZhK _, _, _, _, rfl, ?_, rfl, rfl⟩
      simp only [Fz]
      refine .inr ⟨trivial, trivial, tl'.length + 1 + 1 + 1, cap, p0 :: p1 :: p2 :: p3 :: N 11 :: N (Qz c0).2 :: .sl true true 1 [] :: .sl true false 4 [k1.ownC] :: [], List.replicate slack .dead, rfl, hHl, by simpa using hcap, by simp; omega, ?_⟩
      simp only [Zbt]
      exact ⟨[p0, p1, p2, p3], _, _, rfl, by simp, A1 _, _, [], _, rfl, by simp, A2 _, rfl, rfl⟩
     case lo => simp [hZl]
     case rr =>
      rw [hRR]; simp only
      rw [hg]
      simp only [GTerm.ownC, XK, nz.eq_9, X3, hZn]
      simp [nz, X3, Zaf]
    ·have e10 : eqB op 10 = false := by rw [Qb]; exact h10
     have hal := Zm2 (bxK ks xs)
     have hlo := KS_low (bxK ks xs)
     have hkn := KS_nz (bxK ks xs)
     have hg : bxG (.mk op n nl1 gty nl2 ks) (.mk xty xnd xs) = .mk op n true (QE gty) true (bxK ks xs) := by
      simp [bxG, h9, h10]
     simp (disch := omega) [e1, e2, e4, e5, e9, e10, hal, Qu]
     refine ZfJ (p := 1) (xs := [N op, N n, .sl u nl 1 rs, KS (bxK ks xs)]) (.inr rfl) (by simp [e4]) (by simp) rfl rfl (by simp) (Zoy (fun c hc h => ZeY ?_ h) (by simp [hZl, hlo]) ?_)
     ·simp only [List.mem_cons, List.not_mem_nil, or_false] at hc
      rcases hc with rfl | rfl | rfl | rfl
      ·exact .inl ⟨_, rfl⟩
      ·exact .inl ⟨_, rfl⟩
      ·exact .inr ⟨_, _, _, _, rfl⟩
      ·unfold KS; split <;> exact .inr ⟨_, _, _, _, rfl⟩
     ·rw [hRR]; simp only
      rw [hg]
      simp only [GTerm.ownC, nz.eq_9, X3, hZn, hkn]
end Go.Proofs.YtclfngbealdbgaaGreat
namespace Go.Proofs.YtclfngbealdbgaaGreat
open Go Go.TL
open Go.Proofs.YtclfngbealdbgaaGreat.Ty
set_option linter.unusedSimpArgs false
set_option linter.unusedVariables false
set_option linter.unusedSectionVars false
set_option maxRecDepth 20000
set_option maxHeartbeats 4000000
def KR (Qj : List (List LV)) : LV := if Qj.isEmpty = true then .sl true true 1 [] else .sl true false 4 Qj
theorem KR_app {Qj : List (List LV)} {r : List LV} (h : Qj.length < 1099511627776) : Wt 4 (KR Qj) (.sl true false 4 [r]) = some (KR (Qj ++ [r])) := by
 cases Qj with
 | nil => simp [KR, Wt, WQ]
 | cons a l =>
  simp only [KR, List.isEmpty_cons, Bool.false_eq_true, if_false, List.cons_append, Wt]
  rw [if_pos ⟨.inl trivial, .inl trivial, .inl trivial, by simp [WQ] at h ⊢; omega⟩]
  simp
theorem KR_flat (ks : List (List LV)) : (KR ks).flat = true := by unfold KR; split <;> rfl
theorem KR_cells (ks : List (List LV)) : (KR ks).cells = [KR ks] := by unfold KR; split <;> rfl
theorem ZnM (ks : List (List LV)) : (KR ks).alive = true := by unfold KR; split <;> rfl
theorem KR_nz (ks : List (List LV)) : nz (KR ks) = nz (.sl true ks.isEmpty 4 ks) := by
 cases ks with
 | nil => simp [KR, nz]
 | cons a l => simp [KR]
theorem KR_low {ks : List (List LV)} (h : Wo 0 ks) : Low 0 (KR ks) := by unfold KR; split <;> simp [h]
def isTz (g : GTerm) (r : LV) : Prop := ∃ r', nz r' = nz r ∧ isT g r' ∧ Low 0 r'
theorem isTz_mk {op n : Int} {f1 f2 : Bool} {ty : List Int} {K ws : List GTerm} {Qj : List (List LV)} {T : LV} {nlT : Bool} (h : Qr Qj = QV ws) (hn : nms ws = nms K) (hT : share T = L nlT ty) (lT : Low 0 T) (lo : Wo 0 Qj) : isTz (.mk op n f1 ty f2 K) (.agg [N op, N n, T, KR Qj]) := by
 refine ⟨.agg [N op, N n, T, .sl true Qj.isEmpty 4 Qj], by simp [nz, X3, KR_nz], ⟨.mk op n nlT ty Qj.isEmpty ws, _, rfl, ?_, ?_⟩, by simp [lT, lo]⟩
 ·simp only [shareAll, share, hT, h, GTerm.cells]
 ·simp only [GTerm.nm, hn]
  rw [← Zav ws, hn, Zav]
theorem isTz_ex (g : GTerm) : ∃ r, isTz g r ∧ Low 0 r := ⟨.agg g.cells, ⟨_, rfl, ⟨g, _, rfl, by simp, rfl⟩, by simp⟩, by simp⟩
theorem Qe.ofTz {P : Program} {f : FuncId} {args : List LV} {g : GTerm} (c : Qe P f args (isTz g)) : Qe P f args (isT g) := Qe.nzR c fun r h => h
theorem Zo0 (bw : Int) (hbw : 0 ≤ bw ∧ bw ≤ 100000) (d : Nat) : ∀ (g : GTerm) (nv fr : Int), g.size ≤ d → g.sk nv → 0 ≤ nv → nv + 2 * g.size ≤ 1000000 → 0 ≤ fr → fr + 2 * g.size ≤ 1000000 →
  Qe Tryz.prog JI [g.lv, N bw, N fr] (isT (shG bw fr g)) := by
 induction d with
 | zero => intro g _ _ h; have := g.size_pos; omega
 | succ d ih =>
  rintro ⟨op, n, nl1, gty, nl2, ks⟩ nv fr hd hform hn0 hnv hd0 hdeep
  simp only [GTerm.sk] at hform
  obtain ⟨⟨hop, hn, hty, hk⟩, hvar, hforms⟩ := hform
  simp only [GTerm.size] at hd hnv hdeep
  have hgl := hty.1
  simp only [GTerm.lv, GTerm.cells]
  refine Qe.ofTz (Qe.of_codeOf ZhY Qy (by simp) (isTz_ex _) ?_)
  have CL := Jf nl1 gty (by omega)
  have hSl := Zp (bw := bw) (fr := fr) (op := op) ks 0
  simp only [ZbV]
  rw [ZcM, ZcM]
  refine Zg9 (fun t h => t 3 = .rp [N op, N n, L nl1 gty, .sl false nl2 4 (QV ks)] ∧ t 1 = N bw ∧ t 2 = N fr ∧ t 6 = .ptr 1 0 ∧ t 7 = .ptr 2 0 ∧
   h = [none, some [N 0, N 0, .sl true true 1 [], .sl true true 1 []], some [N op, N (if op = 0 ∧ fr ≤ n then n + bw else n), OU true false gty, .sl true true 1 []]]) ?_ ?_
  ·simp (disch := omega) [Qw, Qu]
   refine Qa CL (by simp) ?_
   by_cases h0 : op = 0
   ·subst h0
    have e0 : eqB 0 0 = true := by rw [Qc]
    have hI : I64 (n + bw) := by have := hvar rfl; unfold I64; omega
    by_cases h1 : fr ≤ n
    ·have e1 : leB fr n = true := by rw [Qi]; exact h1
     simp (disch := omega) [e0, e1, h1, Qh, hI]
    ·have e1 : leB fr n = false := by rw [Qg]; omega
     simp (disch := omega) [e0, e1, h1]
   ·have e0 : eqB op 0 = false := by rw [Qb]; exact h0
    simp (disch := omega) [e0, h0]
  ·rintro t1 hh hf1 ⟨a3, a1, a2, a6, a7, rfl⟩
   have eS : shG bw fr (.mk op n nl1 gty nl2 ks) = .mk op (if op = 0 ∧ fr ≤ n then n + bw else n) nl1 gty nl2 (Yq bw fr op 0 ks) := by simp [shG]
   rw [eS]
   generalize (if op = 0 ∧ fr ≤ n then n + bw else n) = n' at *
   simp (disch := omega) [a1, a2, a3, a6, a7]
   refine Xn ks.length 0 (fun i t h => t 8 = N i ∧ ∃ Qj ws tl, h = none :: some [N 0, N 0, .sl true true 1 [], .sl true true 1 []] :: some [N op, N n', OU true false gty, KR Qj] :: tl ∧ Qr Qj = QV ws ∧ Wo 0 Qj ∧ nms ws = nms ((Yq bw fr op 0 ks).take i))
    (fun t h => ∃ Qj ws tl, h = none :: some [N 0, N 0, .sl true true 1 [], .sl true true 1 []] :: some [N op, N n', OU true false gty, KR Qj] :: tl ∧ Qr Qj = QV ws ∧ Wo 0 Qj ∧ nms ws = nms (Yq bw fr op 0 ks)) ⟨by simp, [], [], [], by simp [KR], by simp [QV, Qr], by simp, by simp⟩ (by omega) ?_ ?_
   ·rintro i t2 hh hf2 hi ⟨e8, Qj, ws, tl, rfl, hsh, hlo, hnm⟩
    (have e1 := hf2 1 (by kernel_rfl); have e2 := hf2 2 (by kernel_rfl); have e3 := hf2 3 (by kernel_rfl); have e6 := hf2 6 (by kernel_rfl); have e7 := hf2 7 (by kernel_rfl); clear hf2; simp [a1, a2, a3, a6, a7] at e1 e2 e3 e6 e7)
    by_cases h6 : i < ks.length
    ·have hb : ltB (i : Int) ks.length = true := by rw [Qf]; omega
     have hsk := WP h6
     have hA := Xy op i
     have hkf : (ks[i]).sk (nv + Qq op i) := by have := Zg5.1 hforms i h6; simpa using this
     have recu := ih ks[i] (nv + Qq op i) (fr + Qq op i) (by omega) hkf (by omega) (by omega) (by omega) (by omega)
     have hix := ZG ks false nl2 i h6
     have hwl : ws.length = i := by
      have := Vb hnm
      rw [this, List.length_take]; omega
     have hrl : Qj.length = i := by rw [← Wn, hsh, Kl, hwl]
     have hal := ZnM Qj
     simp (disch := omega) [e1, e2, e3, e6, e7, e8, hb, hix, hal]
     refine Qa (ZfM op i) (by simp) ?_
     simp (disch := omega) [e1, e2, e3, e6, e7, e8, Qh]
     refine Qm (Qe.low recu) (by simp) ?_
     rintro r2 ⟨⟨w, cs, rfl, hcs2, hwn⟩, lo2⟩
     obtain ⟨c0, c1, c2, c3, rfl⟩ := len4 (cs := cs) (by rw [← W5, hcs2]; simp)
     have ap := KR_app (Qj := Qj) (r := [c0, c1, c2, c3]) (by omega)
     have hfl2 := KR_flat (Qj ++ [[c0, c1, c2, c3]])
     have hce2 := KR_cells (Qj ++ [[c0, c1, c2, c3]])
     simp (disch := omega) [e1, e2, e3, e6, e7, e8, Qn, ap, h6, Qh, hfl2, hce2]
     refine ⟨_, rfl, ws ++ [w], ?_, ?_, ?_⟩
     ·rw [Zb7, ← hsh, ← hcs2]; simp [Ya, XI]
     ·simp at lo2; simp [hlo, lo2]
     ·rw [ZeM, hnm, ZkT h6, ZeM, hwn]
    ·have hb : ltB (i : Int) ks.length = false := by rw [Qd]; omega
     have e := List.take_of_length_le (l := Yq bw fr op 0 ks) (i := i) (by omega)
     rw [e] at hnm
     simp (disch := omega) [e3, e8, hb]
     exact ⟨Qj, rfl, ws, hsh, hlo, hnm⟩
   ·rintro t2 hh hf2 ⟨Qj, ws, tl, rfl, hsh, hlo, hnm⟩
    (have e6 := hf2 6 (by kernel_rfl); have e7 := hf2 7 (by kernel_rfl); clear hf2; simp [a6, a7] at e6 e7)
    have hal := ZnM Qj
    simp (disch := omega) [e6, e7, hal]
    exact ⟨KR_low hlo, isTz_mk hsh hnm (nlT := false) (by simp) (by simp) hlo⟩
end Go.Proofs.YtclfngbealdbgaaGreat
namespace Go.Proofs.YtclfngbealdbgaaGreat
open Go Go.TL
open Go.Proofs.YtclfngbealdbgaaGreat.Ty
set_option linter.unusedSimpArgs false
set_option linter.unusedVariables false
set_option linter.unusedSectionVars false
set_option maxRecDepth 20000
set_option maxHeartbeats 4000000
theorem Zgu {size : Int} {l : List Int} (h : okL size l = true) : Qe Tryz.prog Jz [L false l] (· = if (QE l).length ≤ 40 then OU true false (QE l) else .sl false true 1 []) := by
 obtain ⟨t, h3, rfl, h5, _⟩ := Xl.1 h
 have := Zgz t h3 h5 (fun n hn => by have := ZaS (K6 h) n hn; unfold I64; omega)
 rw [RT.boxed_flat] at this
 exact this
mutual
theorem sk_nm : ∀ (a b : GTerm) (nv : Int), a.nm = b.nm → b.sk nv → a.sk nv
 | .mk op n nl1 ty nl2 ks, .mk op' n' nl1' ty' nl2' ks', nv, h, hs => by
  simp only [GTerm.nm, GTerm.mk.injEq] at h
  obtain ⟨rfl, rfl, _, rfl, _, h⟩ := h
  simp only [GTerm.sk] at hs ⊢
  refine ⟨⟨hs.1.1, hs.1.2.1, hs.1.2.2.1, by rw [Vb h]; exact hs.1.2.2.2⟩, fun h0 => ?_, sks_nm ks ks' nv _ 0 h hs.2.2⟩
  obtain ⟨q1, q2, q3, q4⟩ := hs.2.1 h0
  refine ⟨q1, q2, ?_, q4⟩
  have := Vb h
  rw [q3] at this
  exact List.eq_nil_of_length_eq_zero (by simpa using this)
theorem sks_nm : ∀ (a b : List GTerm) (nv op : Int) (k : Nat), nms a = nms b → sks nv op k b → sks nv op k a
 | [], _, _, _, _, _, _ => by simp [sks]
 | _ :: _, [], _, _, _, h, _ => by simp [nms] at h
 | a :: a', b :: b', nv, op, k, h, hw => by
  simp only [nms, List.cons.injEq, sks] at h hw ⊢
  exact ⟨sk_nm a b _ h.1 hw.1, sks_nm a' b' _ _ _ h.2 hw.2⟩
end
def isTB (b : Bool) (g : GTerm) (r : LV) : Prop := ∃ (w : GTerm) (cs : List LV), r = .tup [.agg cs, B b] ∧ shareAll cs = w.cells ∧ (b = true → w.nm = g.nm)
def isTBz (b : Bool) (g : GTerm) (r : LV) : Prop := ∃ r', nz r' = nz r ∧ isTB b g r' ∧ Low 0 r'
theorem isTB_ex (b : Bool) (g : GTerm) : ∃ r, isTBz b g r ∧ Low 0 r := ⟨.tup [.agg g.cells, B b], ⟨_, rfl, ⟨g, _, rfl, by simp, fun _ => rfl⟩, by simp⟩, by simp⟩
theorem ZlX (g : GTerm) : isTBz false g (.tup [.agg [N 0, N 0, .sl true true 1 [], .sl true true 1 []], B false]) :=
 ⟨.tup [.agg [N 0, N 0, .sl true true 1 [], .sl true true 4 []], B false], by simp [nz, X3], ⟨.mk 0 0 true [] true [], _, rfl, by simp [GTerm.cells, QV, shareAll, share, Qr], fun h => by simp at h⟩, by simp⟩
theorem Zpl {b : Bool} {op n : Int} {f1 f2 : Bool} {ty : List Int} {K ws : List GTerm} {Qj : List (List LV)} {T : LV} {u nlT : Bool} (h : Qr Qj = QV ws) (hn : nms ws = nms K) (hT : share T = L nlT ty) (lT : Low 0 T) (lo : Wo 0 Qj) : isTBz b (.mk op n f1 ty f2 K) (.tup [.agg [N op, N n, T, .sl u false 4 Qj], B b]) := by
 refine ⟨_, rfl, ⟨.mk op n nlT ty false ws, _, rfl, ?_, fun _ => ?_⟩, by simp [lT, lo]⟩
 ·simp only [shareAll, share, hT, h, GTerm.cells]
 ·simp only [GTerm.nm, hn]
  rw [← Zav ws, hn, Zav]
theorem Zk9 : ∀ (ks : List GTerm) (xs : List TT) (i : Nat) (h : i < ks.length) (x : TT), xs[i]? = some x → (ZaL (ks.take (i + 1)) xs = (ZaL (ks.take i) xs && bxB ks[i] x))
 | [], _, i, h, _, _ => by simp at h
 | k :: ks, [], i, h, x, hx => by simp at hx
 | k :: ks, y :: xs, 0, h, x, hx => by simp at hx; subst hx; simp [ZaL]
 | k :: ks, y :: xs, i + 1, h, x, hx => by
  simp only [List.take_succ_cons, ZaL, List.tail_cons, List.getElem_cons_succ]
  rw [Zk9 ks xs i (by simpa using h) x (by simpa using hx), Bool.and_assoc]
theorem Zny : ∀ (ks : List GTerm) (xs : List TT) (i : Nat) (h : i < ks.length) (x : TT), xs[i]? = some x → bxB ks[i] x = false → ZaL ks xs = false
 | [], _, i, h, _, _, _ => by simp at h
 | k :: ks, [], i, h, x, hx, _ => by simp at hx
 | k :: ks, y :: xs, 0, h, x, hx, hb => by simp at hx; subst hx; simp at hb; simp [ZaL, hb]
 | k :: ks, y :: xs, i + 1, h, x, hx, hb => by
  simp only [ZaL, List.tail_cons]
  rw [Zny ks xs i (by simpa using h) x (by simpa using hx) (by simpa using hb)]; simp
theorem Zn3 {s : GSys} (hsy : s.sys = true) (d : Nat) : ∀ (g : GTerm) (nlc : Bool) (ctx : Wf) (x : TT), g.size ≤ d → g.wf → g.fl → (∀ c ∈ ctx, okL s.size c.2 = true) → (∀ c ∈ ctx, c.1 = false) → ctx.length + 2 * g.size ≤ 10000 →
  W1 ctx.length s.size true g = true → Qo s (ctx.map Prod.snd) g = .ok x → Qe Tryz.prog JH [s.lv, LC nlc ctx, g.lv] (isTB (bxB g x) (bxG g x)) := by
 induction d with
 | zero => intro g _ _ _ h; have := g.size_pos; omega
 | succ d ih =>
  rintro ⟨op, n, nl1, gty, nl2, ks⟩ nlc ctx x hdz hw hfl hc hcf hlen hf htl
  have t := GSys.sys_of hsy
  have h2 := t.lo; have h16 := t.hi
  have hcs : ∀ l ∈ ctx.map Prod.snd, okL s.size l = true := fun l hl => by
   obtain ⟨c, h1, rfl⟩ := List.mem_map.1 hl
   exact hc c h1
  obtain ⟨T, _, _⟩ := Zeh t hcs (by rw [List.length_map]; exact hf) htl
  have hw0 := hw
  have hfl0 := hfl
  simp only [GTerm.wf] at hw
  obtain ⟨hop, hn, hty, hk, hks⟩ := hw
  simp only [GTerm.fl] at hfl
  obtain ⟨hf1, hfk⟩ := hfl
  simp only [GTerm.size] at hdz hlen
  obtain ⟨xty, xnd, xs⟩ := x
  simp only [TT.kids_mk] at T
  have hxl := T.len
  have hkl := Zf ks xs
  have many := T.node.many
  have hgl := hty.1
  have hte : WD op = false → gty = [] := fun h => by
   simp only [W1, Bool.and_eq_true, VO] at hf
   have := hf.1.2.2
   rw [tyB, if_neg (by simp [h]), Qc] at this
   exact List.eq_nil_of_length_eq_zero (by omega)
  have hnl : 0 < gty.length → nl1 = false := fun h => by
   cases q : nl1 with
   | false => rfl
   | true => have := hf1 q; rw [this] at h; simp at h
  have hBB : bxB (.mk op n nl1 gty nl2 ks) (.mk xty xnd xs) = (ZaL ks xs && (if op = 9 then decide ((QE gty).length + 1 ≤ 40) else if WD op = true then decide ((QE gty).length ≤ 40) else true)) := by simp [bxB]
  refine Qe.nzR (R := isTBz (bxB (.mk op n nl1 gty nl2 ks) (.mk xty xnd xs)) (bxG (.mk op n nl1 gty nl2 ks) (.mk xty xnd xs))) ?_ (fun r h => h)
  refine Qe.of_codeOf Zi3 Qy (by simp) (isTB_ex _ _) ?_
  simp only [Zb5]
  simp (disch := omega) [Qw, Qu, GTerm.cells]
  refine Xn ks.length 0 (fun i t h => t 9 = N i ∧ ZaL (ks.take i) xs = true ∧ ∃ Qj ws tl, h = none :: none :: some [N 0, N 0, .sl true true 1 [], .sl true true 1 []] :: tl ∧ t 8 = .sl true false 4 Qj ∧ Qr Qj = QV ws ∧ Wo 0 Qj ∧ nms ws = nms ((bxK ks xs).take i))
   (fun t h => ZaL ks xs = true ∧ ∃ Qj ws tl, h = none :: none :: some [N 0, N 0, .sl true true 1 [], .sl true true 1 []] :: tl ∧ t 8 = .sl true false 4 Qj ∧ Qr Qj = QV ws ∧ Wo 0 Qj ∧ nms ws = nms (bxK ks xs)) ⟨by simp, by simp [ZaL], [], [], [], by simp, by simp [Qn], by simp [QV, Qr], by simp, by simp⟩ (by omega) ?_ ?_
  ·rintro i t1 hh hf1 hi ⟨e9, hbs, Qj, ws, tl, rfl, e8, hsh, hlo, hnm⟩
   (have e1 := hf1 1 (by kernel_rfl); have e3 := hf1 3 (by kernel_rfl); have e5 := hf1 5 (by kernel_rfl); have e6 := hf1 6 (by kernel_rfl); clear hf1; simp [GTerm.cells] at e1 e3 e5 e6)
   by_cases h6 : i < ks.length
   ·have hb : ltB (i : Int) ks.length = true := by rw [Qf]; omega
    obtain ⟨y, hy1, hy2, hy3, hy4, hy5⟩ := T.each i h6
    have hwk : (ks[i]).wf := (Z5.1 hks) _ (List.getElem_mem h6)
    have hfk2 : (ks[i]).fl := (Zbb.1 hfk) _ (List.getElem_mem h6)
    have hsk := WP h6
    have IN := Zog hsy op n nl1 gty nl2 ks nlc ctx xs i h6 hw0 hfl0 hc hcf (by omega) T
    have hwl : ws.length = i := by
     have := Vb hnm
     rw [this, List.length_take]; omega
    have hrl : Qj.length = i := by rw [← Wn, hsh, Kl, hwl]
    have hix := ZG ks false nl2 i h6
    have ftk := Znh h6 hy1
    simp only [GTerm.lv, GTerm.cells] at IN
    simp (disch := omega) [e1, e3, e5, e8, e9, hb]
    refine Qm (Qe.low IN) (by simp) ?_
    rintro r ⟨⟨nl, c, hs, hsn, hcf'⟩, lo⟩
    have recu := ih ks[i] nl c y (by omega) hwk hfk2 (fun a ha => hy3 _ (by rw [← hsn]; exact List.mem_map_of_mem ha)) hcf' (by
      have := congrArg List.length hsn
      rw [List.length_map] at this
      rw [List.length_map] at hy5
      omega) (by
      have := congrArg List.length hsn
      rw [List.length_map] at this
      rw [this]; exact hy4) (by rw [hsn]; exact hy2)
    simp (disch := omega) [e1, e3, e5, e8, e9, hs, hix]
    refine Qm (Qe.low recu) (by simp) ?_
    rintro r2 ⟨⟨w, cs, rfl, hcs2, hwn⟩, lo2⟩
    obtain ⟨c0, c1, c2, c3, rfl⟩ := len4 (cs := cs) (by rw [← W5, hcs2]; simp)
    cases hB : bxB ks[i] y
    ·have hB0 := Zny ks xs i h6 y hy1 hB
     rw [hBB, hB0]
     have no := ZlX (bxG (.mk op n nl1 gty nl2 ks) (.mk xty xnd xs))
     simp (disch := omega) [e1, e3, e5, e6, e8, e9, Qu]
     exact no
    ·rw [hB] at hwn
     have hwn := hwn rfl
     have hcs3 := hcs2
     simp only [shareAll] at hcs3
     have ap : Wt 4 (.sl true false 4 Qj) (.sl true false 4 [w.cells]) = some (.sl true false 4 (Qj ++ [w.cells])) := by
      simp only [Wt]
      rw [if_pos ⟨.inl trivial, .inl trivial, .inl trivial, by simp [WQ]; omega⟩]
      simp
     have hsh2 : Qr (Qj ++ [w.cells]) = QV (ws ++ [w]) := by
      have e : Qr (Qj ++ [w.cells]) = Qr Qj ++ [shareAll w.cells] := by simp [Ya, XI]
      rw [Zb7, ← hsh, e]; simp
     have hlo2 : Wo 0 (Qj ++ [w.cells]) := by
      simp [hlo]
     have hnm2 : nms (ws ++ [w]) = nms ((bxK ks xs).take (i + 1)) := by
      rw [ZeM, hnm, ftk, ZeM, hwn]
     have hbs2 : ZaL (ks.take (i + 1)) xs = true := by rw [Zk9 ks xs i h6 y hy1, hbs, hB]; rfl
     simp (disch := omega) [e1, e3, e5, e8, e9, Qn, hcs3, ap, h6, Qh, Qu, hbs2]
     exact ⟨ws ++ [w], by rw [Zb7, hsh], hlo, hnm2⟩
   ·have hb : ltB (i : Int) ks.length = false := by rw [Qd]; omega
    have e := List.take_of_length_le (l := bxK ks xs) (i := i) (by rw [Zf]; omega)
    have e' := List.take_of_length_le (l := ks) (i := i) (by omega)
    rw [e] at hnm
    rw [e'] at hbs
    simp (disch := omega) [e5, e8, e9, hb, hbs]
    exact ⟨ws, hsh, hlo, hnm⟩
  ·rintro t2 hh hf2 ⟨hbs, Qj, ws, tl, rfl, e8, hsh, hlo, hnm⟩
   (have e1 := hf2 1 (by kernel_rfl); have e3 := hf2 3 (by kernel_rfl); have e5 := hf2 5 (by kernel_rfl); have e6 := hf2 6 (by kernel_rfl); clear hf2; simp [GTerm.cells] at e1 e3 e5 e6)
   have hwl : ws.length = ks.length := by rw [Vb hnm, hkl]
   have hrl : Qj.length = ks.length := by rw [← Wn, hsh, Kl, hwl]
   have hL2 := ZhO op
   rw [hBB, hbs]
   simp (disch := omega) [e1, e3, e5, e6, e8]
   refine Qa hL2 (by simp) ?_
   by_cases h9 : op = 9
   ·subst h9
    have e9 : eqB 9 9 = true := by rw [Qc]
    have ht : WD 9 = true := by simp [WD, Qc]
    have hok := T.node.typed ht
    have hgl1 := QM hok
    have hnl1 := hnl (by omega)
    subst hnl1
    have BT := Zgu hok
    have hbl := J4 gty
    have hkk : ks.length = 1 := by simp [Yh] at many; omega
    obtain ⟨k0, hK⟩ : ∃ k0, bxK ks xs = [k0] := by
     have : (bxK ks xs).length = 1 := by omega
     match h : bxK ks xs, this with
     | [a], _ => exact ⟨a, rfl⟩
    obtain ⟨w0, rfl⟩ : ∃ w0, ws = [w0] := by
     match ws, hwl.trans hkk with
     | [a], _ => exact ⟨a, rfl⟩
    rw [hK] at hnm
    simp only [nms, List.cons.injEq, and_true] at hnm
    have hg : bxG (.mk 9 n false gty nl2 ks) (.mk xty xnd xs) = .mk 9 1 false ((19 + n) :: QE gty) false [.mk 12 1 true [] false [.mk 0 0 true [] true [], shG 1 1 k0]] := by
     simp [bxG, hK]
    have hG : s.G n := T.node.grade (by simp [Jo, Qc])
    have hi0 : QF 4 (.sl true false 4 Qj) 0 = some (.rp w0.cells) := by
     have := Zp6 hsh true false 0 (by simp); simpa using this
    have hi1 : QF 4 (.sl false false 4 (QV [w0])) 0 = some (.rp w0.cells) := by
     have := ZG [w0] false false 0 (by simp); simpa using this
    rw [hg]
    simp (disch := omega) [e1, e3, e5, e6, e8, ht]
    refine Qa BT (by simp) ?_
    by_cases h40 : (QE gty).length ≤ 40
    ·rw [if_pos h40]
     have hz : eqB ((QE gty).length : Int) 0 = false := by rw [Qb]; omega
     have hw19 : IntKind.i64.wrap (19 + n) = 19 + n := by have g1 := hG.1; have g2 := hG.2; exact Qh (by omega)
     have hap2 : Wt 1 (.sl true false 1 [[N (19 + n)]]) (.sl false false 1 ((QE gty).map fun m => [N m])) = some (OU true false ((19 + n) :: QE gty)) := by
      simp only [Wt]
      rw [if_pos ⟨.inl trivial, .inl trivial, .inl trivial, by simp [WQ]; omega⟩]
      simp
     have SK : k0.sk ((ctx.length : Int) + 1) := by
      obtain ⟨y, hy1, hy2, hy3, hy4, hy5⟩ := T.each 0 (by omega)
      have hsk := WP (ks := ks) (i := 0) (by omega)
      have := bx_sk t _ (ks[0]'(by omega)) _ y (Nat.le_refl _) hy3 hy4 hy2 (by rw [List.length_map] at hy5; omega)
      have e : k0 = bxG (ks[0]'(by omega)) y := by
       have := Zef ks xs 0 (by omega) y hy1
       simp only [hK, List.getElem_cons_zero] at this; exact this
      rw [e]
      have ea : Qt 9 gty 0 (first xs) = [gty] := by simp [Qt]
      rw [ea] at this
      simpa using this
     have SKw := sk_nm _ _ _ hnm SK
     have hwsz : w0.size = k0.size := Zpq hnm
     have hbs' : k0.size ≤ 5 * Wl ks := by
      have := Zcm ks xs
      rw [hK] at this; simpa [Wl] using this
     have SH := Zo0 1 (by omega) w0.size w0 _ 1 (Nat.le_refl _) SKw (by omega) (by omega) (by omega) (by omega)
     simp (disch := omega) [e1, e3, e5, e6, e8, hz, e9, hsh, hi1, hi0, hw19, hap2]
     refine Qm (Qe.low SH) (by simp) ?_
     rintro r2 ⟨⟨w, cs, rfl, hcs2, hwn⟩, lo2⟩
     obtain ⟨c0, c1, c2, c3, rfl⟩ := len4 (cs := cs) (by rw [← W5, hcs2]; simp)
     have hcs3 := hcs2
     simp only [shareAll] at hcs3
     simp (disch := omega) [e1, e3, e5, e6, e8, hz, e9, hsh, hi1, hi0, Qn, Qu, hcs3]
     have hle : leB ((QE gty).length + 1) 40 = decide ((QE gty).length ≤ 39) := by rw [Bool.eq_iff_iff, Qi, decide_eq_true_iff]; omega
     rw [hle]
     exact ⟨.tup [.agg (GTerm.mk 9 1 false ((19 + n) :: QE gty) false [.mk 12 1 true [] false [.mk 0 0 true [] true [], w]]).cells, B (decide ((QE gty).length ≤ 39))], by simp [nz, X3, Zaf, GTerm.cells, QV], ⟨.mk 9 1 false ((19 + n) :: QE gty) false [.mk 12 1 true [] false [.mk 0 0 true [] true [], w]], _, rfl, by simp, fun _ => by simp [GTerm.nm, nms, hwn, shG_nm, hnm]⟩, by simp⟩
    ·rw [if_neg h40]
     have hz : eqB 0 0 = true := by rw [Qc]
     have hd40 : decide ((QE gty).length ≤ 39) = false := by simp; omega
     have no := ZlX (.mk 9 1 false ((19 + n) :: QE gty) false [.mk 12 1 true [] false [.mk 0 0 true [] true [], shG 1 1 k0]])
     simp (disch := omega) [e1, e3, e5, e6, e8, hz, hd40]
     exact no
   ·have e9 : eqB op 9 = false := by rw [Qb]; exact h9
    by_cases h10 : op = 10
    ·subst h10
     have e10 : eqB 10 10 = true := by rw [Qc]
     have ht : WD 10 = false := by simp [WD, eqB]
     have hkk : ks.length = 2 := by simp [Yh] at many; omega
     obtain ⟨k0, k1, hK⟩ : ∃ k0 k1, bxK ks xs = [k0, k1] := by
      have : (bxK ks xs).length = 2 := by omega
      match h : bxK ks xs, this with
      | [a, b], _ => exact ⟨a, b, rfl⟩
     obtain ⟨w0, w1, rfl⟩ : ∃ w0 w1, ws = [w0, w1] := by
      match ws, hwl.trans hkk with
      | [a, b], _ => exact ⟨a, b, rfl⟩
     rw [hK] at hnm
     simp only [nms, List.cons.injEq, and_true] at hnm
     have e' := hte ht
     subst e'
     obtain ⟨y0, hy0, hy2, hy3, hy4, _⟩ := T.each 0 (by omega)
     have ea0 : Qt 10 [] 0 (first xs) = [] := by simp [Qt, Qq]
     rw [ea0, List.nil_append] at hy2 hy4
     have hk0 := T.kids.first (by rintro rfl; simp at hy0)
     have hfirst : first xs = y0.ty := by simp [first, tyP, List.getD_eq_getElem?_getD, hy0]
     have hpt : tyP xs 0 = y0.ty := hfirst
     rw [hfirst] at hk0
     have hsk := WP (ks := ks) (i := 0) (by omega)
     have tl' := Zff hsy (ks[0]'(by omega)).size (ks[0]'(by omega)) nlc ctx (Nat.le_refl _) ((Z5.1 hks) _ (List.getElem_mem _)) ((Zbb.1 hfk) _ (List.getElem_mem _)) hc hcf (by omega) (by rw [List.length_map] at hy4; exact hy4)
     rw [hy2] at tl'
     have hix : QF 4 (.sl false nl2 4 (QV ks)) 0 = some (.rp (ks[0]'(by omega)).cells) := by
      have := ZG ks false nl2 0 (by omega); simpa using this
     have hi0 : QF 4 (.sl false false 4 (QV [w0, w1])) 0 = some (.rp w0.cells) := by
      have := ZG [w0, w1] false false 0 (by simp); simpa using this
     have hi1 : QF 4 (.sl false false 4 (QV [w0, w1])) 1 = some (.rp w1.cells) := by
      have := ZG [w0, w1] false false 1 (by simp); simpa using this
     have hly := X6 hk0.1
     have har := hk0.2.1.2.2.2.1 rfl
     have hsg := (Zjb hk0.1)
     have hgr : (Qz (hd y0.ty)).2 = Wp (hd y0.ty) := (ZB hly.2.1 hly.2.2.1).2.2.2.2.2 (.inl har)
     have GR := ZbY (hd y0.ty) (by unfold I64; have := hly.2; omega) hly.2.1
     have hlen1 := QM hk0.1
     have hg : bxG (.mk 10 n nl1 [] nl2 ks) (.mk xty xnd xs) = .mk 10 n true [] false [k0, .mk 11 (Wp (hd y0.ty)) true [] false [k1]] := by
      simp [bxG, hK, hpt, hgr, QE]
     rw [hg]
     simp (disch := omega) [e1, e3, e5, e6, e8, ht, e9, e10, hix, hsh]
     refine Qm (Qe.low tl') (by simp) ?_
     rintro r ⟨⟨u1, u2, u4, n4, rfl⟩, lo⟩
     have hidy : ∀ u, QF 1 (.sl u false 1 (y0.ty.map fun x => [N x])) 0 = some (.rp [N (hd y0.ty)]) := by
      intro u
      cases q : y0.ty with
      | nil => rw [q] at hlen1; simp at hlen1
      | cons a l => simp [QF, hd]
     simp (disch := omega) [e1, e3, e5, e6, e8, ZmP, Wi, hidy]
     refine Qa GR (by simp) ?_
     obtain ⟨v0, v1, v2, v3, hcw⟩ := len4 (cs := w0.cells) (by simp)
     have hlw : QD 0 w0.cells := by simp
     have hsw : shareAll w0.cells = w0.cells := by simp
     rw [hcw] at hi0 hlw hsw
     simp only [shareAll, List.cons.injEq, and_true] at hsw
     obtain ⟨s0, s1, s2, s3⟩ := hsw
     simp (disch := omega) [e1, e3, e5, e6, e8, hi0, hi1, Qn, Qu, hsh, s0, s1, s2, s3]
     refine ⟨by simpa using hlw, ?_⟩
     refine ⟨_, rfl, ⟨.mk 10 n true [] false [w0, .mk 11 (Wp (Go.Proofs.YtclfngbealdbgaaGreat.hd y0.ty)) true [] false [w1]], _, rfl, ?_, fun _ => by simp [GTerm.nm, nms, hnm]⟩, ?_⟩
     ·simp [shareAll, share, Qr, GTerm.cells, QV, hcw, s0, s1, s2, s3]
     ·simpa using hlw
    ·have e10 : eqB op 10 = false := by rw [Qb]; exact h10
     have hg : bxG (.mk op n nl1 gty nl2 ks) (.mk xty xnd xs) = .mk op n true (QE gty) true (bxK ks xs) := by
      simp [bxG, h9, h10]
     rw [hg]
     cases ht : WD op
     ·have e := hte ht
      subst e
      simp (disch := omega) [e1, e3, e5, e6, e8, h9, e9, e10, hsh]
      exact Zpl (nlT := true) (by simp) hnm (by simp [QE]) (by simp) (by simp)
     ·have hok := T.node.typed ht
      have hgl1 := QM hok
      have hnl1 := hnl (by omega)
      subst hnl1
      have BT := Zgu hok
      have hbl := J4 gty
      simp (disch := omega) [e1, e3, e5, e6, e8]
      refine Qa BT (by simp) ?_
      by_cases h40 : (QE gty).length ≤ 40
      ·rw [if_pos h40]
       have hz : eqB ((QE gty).length : Int) 0 = false := by rw [Qb]; omega
       simp (disch := omega) [e1, e3, e5, e6, e8, hz, h9, e9, e10, h40, hsh]
       exact Zpl (nlT := false) (by simp) hnm (by simp) (by simp) (by simp)
      ·rw [if_neg h40]
       have hz : eqB 0 0 = true := by rw [Qc]
       have no := ZlX (.mk op n true (QE gty) true (bxK ks xs))
       simp (disch := omega) [e1, e3, e5, e6, e8, hz, h9, h40]
       exact no
end Go.Proofs.YtclfngbealdbgaaGreat
namespace Go.Proofs.YtclfngbealdbgaaGreat
open Go Go.TL
open Go.Proofs.YtclfngbealdbgaaGreat.Ty
set_option linter.unusedSimpArgs false
set_option linter.unusedVariables false
set_option linter.unusedSectionVars false
set_option maxRecDepth 20000
set_option maxHeartbeats 4000000
theorem ZmA {nv size op : Int} : ∀ (ks : List GTerm) (xs : List TT) (k : Nat), xs.length = ks.length → (∀ (i : Nat) (h : i < ks.length) (y : TT), xs[i]? = some y → W1 (nv + Qq op ((k + i : Nat) : Int)) size true (bxG ks[i] y) = bxB ks[i] y) → Xq nv size true op k (bxK ks xs) = ZaL ks xs
 | [], xs, k, _, _ => by simp [bxK, ZaL, Xq]
 | a :: ks, [], k, hl, _ => by simp at hl
 | a :: ks, x :: xs, k, hl, h => by
  have h0 := h 0 (by simp) x (by simp)
  simp only [Nat.add_zero, List.getElem_cons_zero] at h0
  have hr := ZmA ks xs (k + 1) (by simpa using hl) (fun i hi y hy => by
   have := h (i + 1) (by simpa using hi) y (by simpa using hy)
   rw [show k + 1 + i = k + (i + 1) by omega]
   exact this)
  simp only [bxK, ZaL, Xq, List.headD_cons, List.tail_cons, h0, hr]
theorem bx_form {s : GSys} (t : s.Tab) (d : Nat) : ∀ (g : GTerm) (ctx : List (List Int)) (x : TT), g.size ≤ d → (∀ l ∈ ctx, okL s.size l = true) → W1 ctx.length s.size true g = true → Qo s ctx g = .ok x → W1 ctx.length s.size true (bxG g x) = bxB g x := by
 induction d with
 | zero => intro g _ _ h; have := g.size_pos; omega
 | succ d ih =>
  rintro ⟨op, n, nl1, gty, nl2, ks⟩ ctx x hd hc hf htl
  obtain ⟨T, _, _⟩ := Zeh t hc hf htl
  obtain ⟨xty, xnd, xs⟩ := x
  simp only [TT.kids_mk, GTerm.size] at T hd
  have hkl := Zf ks xs
  have hxl := T.len
  have many := T.node.many
  have h2 := t.lo; have h16 := t.hi
  have hl1 : ltB 1 s.size = true := by rw [Qf]; omega
  have each : ∀ (i : Nat) (h : i < ks.length) (y : TT), xs[i]? = some y → W1 ((ctx.length : Int) + Qq op i) s.size true (bxG ks[i] y) = bxB ks[i] y := fun i h y hy => by
   obtain ⟨y', h1, h2, h3, h4, h5⟩ := T.each i h
   rw [hy] at h1
   simp only [Option.some.injEq] at h1
   subst h1
   have hsk := WP h
   have := ih ks[i] _ y (by omega) h3 h4 h2
   have hr := Xy op i
   rw [List.length_append, Ka, show (((Qq op i).toNat + ctx.length : Nat) : Int) = (ctx.length : Int) + Qq op i by omega] at this
   exact this
  have FB := ZmA (nv := ctx.length) (size := s.size) (op := op) ks xs 0 hxl (fun i hi y hy => by have := each i hi y hy; simpa using this)
  simp only [W1, VO, Bool.and_eq_true] at hf
  obtain ⟨⟨q1, q2, q3⟩, q4⟩ := hf
  by_cases h9 : op = 9
  ·subst h9
   have hkk : ks.length = 1 := by simp [Yh] at many; omega
   obtain ⟨k, rfl⟩ : ∃ k, ks = [k] := by
    match ks, hkk with
    | [a], _ => exact ⟨a, rfl⟩
   obtain ⟨y, rfl⟩ : ∃ y, xs = [y] := by
    match xs, hxl with
    | [a], _ => exact ⟨a, rfl⟩
   have e0 := each 0 (by simp) y (by simp)
   have hok := T.node.typed (by simp [WD, Qc])
   have hG : s.G n := T.node.grade (by simp [Jo, Qc])
   have hT := okL_boxT h2 h16 hG hok
   have hsh := ZpB (size := s.size) (bw := 1) (by omega) (bxG k y) ((ctx.length : Int) + 1) 1 (by omega) (by omega)
   simp [Qq] at e0
   unfold okL at hT
   have hg : bxG (.mk 9 n nl1 gty nl2 [k]) (.mk xty xnd [y]) = .mk 9 1 false ((19 + n) :: QE gty) false [.mk 12 1 true [] false [.mk 0 0 true [] true [], shG 1 1 (bxG k y)]] := by simp [bxG, bxK]
   rw [hg]
   simp only [W1, Xq, VO, Zfb, tyB, bxB, ZaL]
   simp [Yh, Jo, WD, eqB, leB, Qq, hl1, hT, hsh, e0, Wb]
   rw [Bool.and_comm]
  ·by_cases h10 : op = 10
   ·subst h10
    have hkk : ks.length = 2 := by simp [Yh] at many; omega
    obtain ⟨k0, k1, rfl⟩ : ∃ k0 k1, ks = [k0, k1] := by
     match ks, hkk with
     | [a, b], _ => exact ⟨a, b, rfl⟩
    obtain ⟨y0, y1, rfl⟩ : ∃ y0 y1, xs = [y0, y1] := by
     match xs, hxl with
     | [a, b], _ => exact ⟨a, b, rfl⟩
    have e0 := each 0 (by simp) y0 (by simp)
    have e1 := each 1 (by simp) y1 (by simp)
    simp [Qq] at e0 e1
    have hk0 := T.kids.first (by simp)
    have hfirst : first [y0, y1] = y0.ty := by simp [first, tyP]
    have hpt : tyP [y0, y1] 0 = y0.ty := hfirst
    rw [hfirst] at hk0
    have ha := hk0.2.1.2.2.2.1 rfl
    have hhd := X6 hk0.1
    have hsg := (ZB hhd.2.1 hhd.2.2.1).2.2.2.2.2 (.inl ha)
    have hgr := J1 hhd.1 (.inl ha)
    unfold tyB at q3
    rw [if_neg (by simp [WD, eqB]), Qc] at q3
    have eg : gty = [] := List.eq_nil_of_length_eq_zero (by omega)
    subst eg
    have hn0 : n = 0 := by simpa [Zfb, eqB, Jo] using q2
    subst hn0
    have b1 : ltB (Wp (Go.Proofs.YtclfngbealdbgaaGreat.hd y0.ty)) s.size = true := by rw [Qf]; omega
    have b2 : leB (-1) (Wp (Go.Proofs.YtclfngbealdbgaaGreat.hd y0.ty)) = true := by rw [Qi]; omega
    have b3 : leB 0 (Wp (Go.Proofs.YtclfngbealdbgaaGreat.hd y0.ty)) = true := by rw [Qi]; omega
    have hg : bxG (.mk 10 0 nl1 [] nl2 [k0, k1]) (.mk xty xnd [y0, y1]) = .mk 10 0 true [] false [bxG k0 y0, .mk 11 (Wp (Go.Proofs.YtclfngbealdbgaaGreat.hd y0.ty)) true [] false [bxG k1 y1]] := by simp [bxG, bxK, hpt, hsg, QE]
    rw [hg]
    simp only [W1, Xq, VO, Zfb, tyB, bxB, ZaL]
    simp [Yh, Jo, WD, eqB, Qq, b1, b2, b3, e0, e1, Wb]
   ·have hg : bxG (.mk op n nl1 gty nl2 ks) (.mk xty xnd xs) = .mk op n true (QE gty) true (bxK ks xs) := by
     simp [bxG, h9, h10]
    rw [hg]
    simp only [W1, VO, FB, hkl, q1, q2, bxB, Bool.true_and]
    rw [if_neg h9, Bool.and_comm]
    congr 1
    unfold tyB at q3 ⊢
    cases ht : WD op with
    | false =>
     rw [ht, if_neg (by simp), Qc] at q3
     have : gty = [] := List.eq_nil_of_length_eq_zero (by omega)
     subst this
     simp [QE, eqB]
    | true =>
     have := ZqC h2 (T.node.typed ht)
     unfold okL at this
     simpa using this
end Go.Proofs.YtclfngbealdbgaaGreat
namespace Go.Proofs.YtclfngbealdbgaaGreat
open Go Go.TL
open Go.Proofs.YtclfngbealdbgaaGreat.Ty
set_option linter.unusedSimpArgs false
set_option linter.unusedVariables false
set_option linter.unusedSectionVars false
set_option maxRecDepth 20000
set_option maxHeartbeats 4000000
def Za0 (s : GSys) (ctx : Wf) (g : GTerm) : Option GTerm := match Jh s ctx g with
 | some x => if bxB g x = true ∧ (bxG g x).size ≤ 400 then some (bxG g x) else none
 | none => none
theorem Zja {s : GSys} {ctx : Wf} {g : GTerm} (a : Arg s ctx g) {x : TT} (h : Jh s ctx g = some x) : (bxG g x).termB s.size ctx.length = (decide ((bxG g x).size ≤ 400) && bxB g x) ∧ (bxG g x).wf := by
 obtain ⟨_, hs, hc, ht, h8, hT⟩ := ZdI a h
 obtain ⟨f1, f2, _⟩ := a.flags hc
 unfold GTerm.termB at ht
 simp only [Bool.and_eq_true, decide_eq_true_eq] at ht
 have hcl : ∀ l ∈ ctx.map Prod.snd, okL s.size l = true := fun l hl => by
  obtain ⟨c, hc, rfl⟩ := List.mem_map.1 hl
  exact f1 c hc
 have hf0 : W1 ((ctx.map Prod.snd).length : Nat) s.size true g = true := by rw [List.length_map]; exact ht.2.2
 have hf := bx_form (GSys.sys_of hs) g.size g (ctx.map Prod.snd) x (Nat.le_refl _) hcl hf0 hT
 have hk := bx_sk (GSys.sys_of hs) g.size g (ctx.map Prod.snd) x (Nat.le_refl _) hcl hf0 hT (by rw [List.length_map]; omega)
 rw [List.length_map] at hf
 refine ⟨?_, sk_wf _ _ hk⟩
 unfold GTerm.termB
 rw [ht.1, hf]; simp
theorem Zn0 {s : GSys} {ctx : Wf} {g : GTerm} (a : Arg s ctx g) (nlc : Bool) : Qe Tryz.prog JF [s.lv, LC nlc ctx, g.lv] (· = Zjf (Za0 s ctx g)) := by
 refine Qe.nzR (R := fun r => nz r = nz (Zjf (Za0 s ctx g))) ?_ (fun r h => ⟨_, h.symm, rfl, by simp⟩)
 refine Qe.of_codeOf ZiJ Qy (by simp) ⟨_, rfl, by simp⟩ ?_
 simp (disch := omega) [ZcD, Qw, Qu]
 refine Qm (Qe.low (Zom a nlc)) (by simp) ?_
 rintro r ⟨hr, lo⟩
 have hI := Zfk a.cw
 by_cases hin : inB s ctx g = true
 ·rw [if_pos hin] at hr
  cases hT : Qo s (ctx.map Prod.snd) g with
  | ok x =>
   have hx : Jh s ctx g = some x := by simp [Jh, hin, hT]
   obtain ⟨hg, hs, hc, ht, hc8, _⟩ := ZdI a hx
   obtain ⟨f1, f2, _⟩ := a.flags hc
   obtain ⟨htb, hwf⟩ := Zja a hx
   unfold GTerm.termB at ht
   simp only [Bool.and_eq_true, decide_eq_true_eq] at ht
   rw [hT] at hr
   have FT := Zou hs g.size g (ctx.map Prod.snd) x (share r) (Nat.le_refl _) a.gw a.gf (fun l hl => by
    obtain ⟨c, hc, rfl⟩ := List.mem_map.1 hl
    exact f1 c hc) (by rw [List.length_map]; exact ht.2.2) hT hr (by rw [List.length_map]; omega)
   have IT := Zgr (GSys.sys_of hs) (bxG g x).nm (wf_nm _ hwf) ctx.length hI
   rw [termB_nm, htb] at IT
   have hls := JE _ _ hr
   have ho : Za0 s ctx g = if bxB g x = true ∧ (bxG g x).size ≤ 400 then some (bxG g x) else none := by simp [Za0, hx]
   have hr' := hr
   obtain ⟨xty, xnd, xks⟩ := x
   simp only [Res.is, TT.is] at hr'
   obtain ⟨n3, n4, Qj, hs2, hrr⟩ := hr'
   have hz0 : eqB 0 0 = true := by rw [Qc]
   have hrs := (Xg _ Qj hrr).1
   rw [hs2] at FT hls
   simp (disch := omega) [hs2, hz0, hrs, ZpI]
   refine Qa FT (by simp [hls.2]) ?_
   simp (disch := omega) [hs2]
   refine Qa IT (by simp) ?_
   rw [ho]
   by_cases h4 : bxB g (.mk xty xnd xks) = true ∧ (bxG g (.mk xty xnd xks)).size ≤ 400
   ·rw [if_pos h4]
    simp (disch := omega) [h4.1, h4.2]
    rfl
   ·rw [if_neg h4]
    have h4' : (decide ((bxG g (.mk xty xnd xks)).size ≤ 400) && bxB g (.mk xty xnd xks)) = false := by
     rw [Bool.eq_false_iff]; intro h; rw [Bool.and_eq_true, decide_eq_true_iff] at h; exact h4 ⟨h.2, h.1⟩
    rw [h4'] at *
    simp (disch := omega)
    exact nz_no
  | bad f p =>
   have hx : Jh s ctx g = none := by simp [Jh, hin, hT]
   have ho : Za0 s ctx g = none := by simp [Za0, hx]
   rw [hT] at hr
   obtain ⟨hf, n4, hs2⟩ := hr
   have hf0 : eqB f 0 = false := by rw [Qb]; exact hf
   rw [ho]
   simp (disch := omega) [hs2, hf0, ZpI]
   exact nz_no
 ·rw [if_neg hin] at hr
  subst hr
  have hx : Jh s ctx g = none := by simp [Jh, hin]
  have ho : Za0 s ctx g = none := by simp [Za0, hx]
  rw [ho]
  simp (disch := omega) [bin_pnil]
  exact nz_no
theorem Zin {s : GSys} {ctx : Wf} {g : GTerm} (a : Arg s ctx g) (nlc : Bool) : Qe Tryz.prog Vt [s.lv, LC nlc ctx, g.lv] (outS (Za0 s ctx g)) := by
 refine Qe.nzR (R := outZ (Za0 s ctx g)) ?_ (fun r h => by
  obtain ⟨w, h1, h2⟩ := h
  exact ⟨_, h1.symm, ⟨w, rfl, h2⟩, by simp⟩)
 refine Qe.of_codeOf ZhL Qy (by simp) (by
  obtain ⟨r, ⟨w, rfl, h⟩, h2⟩ := outS_ex (Za0 s ctx g)
  exact ⟨_, ⟨w, rfl, h⟩, h2⟩) ?_
 simp (disch := omega) [Zb1, Qw, Qu]
 refine Qm (Qe.low (ZjD a nlc)) (by simp) ?_
 rintro r ⟨hr, lo⟩
 cases hx : Jh s ctx g with
 | none =>
  rw [hx] at hr
  obtain ⟨u1, u2, rfl⟩ := hr
  have ho : Za0 s ctx g = none := by simp [Za0, hx]
  rw [ho]
  simp (disch := omega)
  exact ZlU
 | some x =>
  rw [hx] at hr
  obtain ⟨u1, u2, rfl⟩ := hr
  have ho : Za0 s ctx g = if bxB g x = true ∧ (bxG g x).size ≤ 400 then some (bxG g x) else none := by simp [Za0, hx]
  obtain ⟨hg, hs, hc, ht, hc8, hT⟩ := ZdI a hx
  obtain ⟨f1, f2, _⟩ := a.flags hc
  obtain ⟨_, hwf⟩ := Zja a hx
  unfold GTerm.termB at ht
  simp only [Bool.and_eq_true, decide_eq_true_eq] at ht
  have LF := Zn3 hs g.size g nlc ctx x (Nat.le_refl _) a.gw a.gf f1 f2 (by omega) ht.2.2 hT
  simp (disch := omega)
  refine Qm (Qe.low LF) (by simp) ?_
  rintro r2 ⟨⟨w, cs, rfl, hcs, hwn⟩, lo2⟩
  obtain ⟨c0, c1, c2, c3, rfl⟩ := len4 (cs := cs) (by rw [← W5, hcs]; simp)
  simp only [shareAll] at hcs
  cases hb : bxB g x
  ·have ho' : Za0 s ctx g = none := by rw [ho, if_neg (by simp [hb])]
   rw [ho']
   simp (disch := omega) [Qu, hcs]
   exact ZlU
  ·rw [hb] at hwn
   have hwn := hwn rfl
   have hsz : w.size = (bxG g x).size := Zpq hwn
   have LL := Zk2 w.size w (by omega) (nm_wf _ _ hwn hwf) 400 (by omega) (by omega)
   have hle : ltB (WS w.size 400) 0 = !decide ((bxG g x).size ≤ 400) := by
    rw [Bool.eq_iff_iff, Qf, ← hsz]; unfold WS; split <;> simp <;> omega
   simp (disch := omega) [Qu, hcs]
   refine Qa LL (by simp) ?_
   rw [ho]
   by_cases h4 : (bxG g x).size ≤ 400
   ·rw [if_pos ⟨hb, h4⟩]
    have hle : ltB (WS w.size 400) 0 = false := by rw [hle]; simp [h4]
    simp (disch := omega) [hle, hcs]
    exact ⟨w, by simp [nz], hwn⟩
   ·rw [if_neg (fun h => h4 h.2)]
    have hle : ltB (WS w.size 400) 0 = true := by rw [hle]; simp [h4]
    simp (disch := omega) [hle, hcs]
    exact ZlU
end Go.Proofs.YtclfngbealdbgaaGreat
namespace Go.Proofs.YtclfngbealdbgaaGreat
open Go Go.TL
open Go.Proofs.YtclfngbealdbgaaGreat.Ty
set_option linter.unusedSimpArgs false
set_option linter.unusedVariables false
set_option linter.unusedSectionVars false
set_option maxRecDepth 20000
set_option maxHeartbeats 4000000
theorem boxO_ok {s : GSys} {ctx : Wf} {g : GTerm} (a : Arg s ctx g) {o : Option GTerm} (h : Za0 s ctx g = o) : (o.getD noT).wf ∧ (o.getD noT).size ≤ 400 := by
 subst h
 unfold Za0
 cases hx : Jh s ctx g with
 | none => simp [noT, GTerm.wf, GTerm.size, wfs, Wl, I64, Lok]
 | some x =>
  simp only
  split
  ·rename_i h4
   exact ⟨(Zja a hx).2, h4.2⟩
  ·simp [noT, GTerm.wf, GTerm.size, wfs, Wl, I64, Lok]
theorem Zod (s : GSys) (nlc : Bool) (ctx : Wf) (g : GTerm) (hs : s.raw) (hc : ctx.raw) (hg : g.raw) : Qe Tryz.prog JX [s.lv, LC nlc ctx, g.lv] (· = B true) := by
 refine Qe.of_codeOf ZbF Qy (by simp) ⟨_, rfl, by simp⟩ ?_
 have whB : ∀ b : Bool, ∀ r, r = B b → QG r := by rintro b r rfl; simp [QG]
 have whN : ∀ b : Int, ∀ r, r = N b → QG r := by rintro b r rfl; simp [QG]
 have z1 := ZnS s hs 1048576 (by omega) (by omega)
 simp (disch := omega) [JR, Qw, Qu]
 refine Qa z1 (by simp) ?_
 simp (disch := omega)
 (with_reducible first | refine Ql (fun h1 => ?_) (fun h1 => ?_) | refine Qk (fun h1 => ?_) (fun h1 => ?_))
 ·simp (disch := omega)
 simp only [Qf, Qd, Qi, Qg, Qc, Qb, Bool.not_true, Bool.not_false] at h1
 have r1 := XT (a := s.w) (m := 1048576) (by omega)
 have z2 := ZoT nlc ctx hc _ h1 (by omega)
 simp (disch := omega)
 refine Qa z2 (by simp) ?_
 simp (disch := omega)
 (with_reducible first | refine Ql (fun h2 => ?_) (fun h2 => ?_) | refine Qk (fun h2 => ?_) (fun h2 => ?_))
 ·simp (disch := omega)
 simp only [Qf, Qd, Qi, Qg, Qc, Qb, Bool.not_true, Bool.not_false] at h2
 have r2 := XT (a := ctx.length + cws ctx) h1
 have z3 := ZqE _ g (Nat.le_refl _) hg _ h2 (by omega)
 simp (disch := omega)
 refine Qa z3 (by simp) ?_
 simp (disch := omega)
 (with_reducible first | refine Ql (fun h3 => ?_) (fun h3 => ?_) | refine Qk (fun h3 => ?_) (fun h3 => ?_))
 ·simp (disch := omega)
 simp only [Qf, Qd, Qi, Qg, Qc, Qb, Bool.not_true, Bool.not_false] at h3
 have r3 := XT (a := g.w) h2
 have wb : s.w ≤ 1048576 ∧ ctx.length + cws ctx ≤ 1048576 ∧ g.w ≤ 1048576 := by
  unfold WS at h1 h2 h3 r1 r2 r3
  grind
 clear z1 z2 z3
 have sw : s.wf := GSys.wf_of hs (by omega)
 have cw : ctx.wf := ⟨by omega, fun c hc' => ⟨by have := Zha hc'; omega, (hc.2 c hc').2⟩⟩
 have gw : g.wf := wf_of g hg (by omega)
 have t1 := ZmM s sw
 have t2 := Zo3 nlc ctx cw
 have t3 := Zqn _ g (Nat.le_refl _) gw
 have a : Arg s.norm ctx.norm g.norm := ⟨sw, Wf.norm_wf cw, norm_wf g gw, fun c hc' h => by obtain ⟨d, _, rfl⟩ := List.mem_map.1 hc'; simp at h, Zpy g⟩
 have SP := Zin a false
 have IM := Zn0 a false
 obtain ⟨o, ho⟩ : ∃ o, Za0 s.norm ctx.norm g.norm = o := ⟨_, rfl⟩
 rw [ho] at SP IM
 simp (disch := omega)
 refine Qa t1 (by simp) ?_
 simp (disch := omega)
 refine Qa t2 (by simp) ?_
 simp (disch := omega)
 refine Qa t3 (by simp) ?_
 have eCx : LC false ctx.norm = .sl false false 1 (ctx.map fun x => [.sl false false 1 (x.2.map fun x => [N x])]) := by simp [Wf.norm]
 rw [eCx] at SP IM
 simp (disch := omega)
 refine Qm (Qe.low SP) (by simp) ?_
 rintro r ⟨⟨w, rfl, hw⟩, lo⟩
 simp (disch := omega)
 refine KH t1 (QL (ZaB (Zgc _ s)) W8) (by rintro r rfl; exact ZkK s) fun x0 y0 b0 e hx0 => ?_
 subst e
 have hx0' : Th (.agg s.own) ([none, none, some w.cells] : List Box).length y0 b0 := by simpa using hx0
 obtain ⟨p0, p1, p2, p3, rfl, tx0, ⟨sp0, sp1, sp2, sp3⟩, ap0, ap1, ap2, ap3⟩ := th4 hx0 rfl
 clear hx0 tx0
 simp (disch := omega) [sp0, sp1, sp2, sp3]
 refine KH t2 (QL (ZnN _ nlc ctx) W8) (by rintro r rfl; exact ZkL ctx) fun x1 y1 b1 e hx1 => ?_
 subst e
 have sy1 := Th.share _ _ _ _ hx1
 have hx1' : Th ctx.own ([none, none, some w.cells] ++ b0 ++ [some [p0, p1, p2, p3]] : List Box).length y1 b1 := by simpa using hx1
 clear hx1
 simp (disch := omega) [sp0, sp1, sp2, sp3, sy1]
 refine KH t3 (QL (ZaB (K8 _ g)) W8) (by rintro r rfl; simp only [QG]; exact ZfF g) fun x2 y2 b2 e hx2 => ?_
 subst e
 have hx2' : Th (.agg g.own) ([none, none, some w.cells] ++ b0 ++ [some [p0, p1, p2, p3]] ++ b1 : List Box).length y2 b2 := by simpa using hx2
 obtain ⟨q0, q1, q2, q3, rfl, tx2, ⟨sq0, sq1, sq2, sq3⟩, aq0, aq1, aq2, aq3⟩ := th4 hx2 (by simp)
 clear hx2 tx2
 simp (disch := omega) [sp0, sp1, sp2, sp3, ap0, ap1, ap2, ap3, sq0, sq1, sq2, sq3, aq0, aq1, aq2, aq3, sy1]
 have v0 : ∀ h, (∃ h2, h = [none, none, some w.cells] ++ b0 ++ h2) → Y7 h (share (.agg s.own)) (.agg [p0, p1, p2, p3]) := fun h ⟨h2, he⟩ => ZeO (h := h) (h2 := h2) (ZkK s) hx0' he
 have v1 : ∀ h, (∃ h2, h = [none, none, some w.cells] ++ b0 ++ [some [p0, p1, p2, p3]] ++ b1 ++ h2) → Y7 h (share ctx.own) y1 := fun h ⟨h2, he⟩ => ZeO (h := h) (h2 := h2) (ZkL ctx) hx1' he
 have v2 : ∀ h, (∃ h2, h = [none, none, some w.cells] ++ b0 ++ [some [p0, p1, p2, p3]] ++ b1 ++ b2 ++ h2) → Y7 h (share (.agg g.own)) (.agg [q0, q1, q2, q3]) := fun h ⟨h2, he⟩ => ZeO (h := h) (h2 := h2) (show QG (.agg g.own) by simp only [QG]; exact ZfF g) hx2' he
 have ev0 : share (.agg s.own) = s.norm.lv := by simp only [share, GSys.share_own]
 have ev2 : share (.agg g.own) = g.norm.lv := by simp only [share, Zec]
 rw [ev0] at v0
 rw [share_own, eCx] at v1
 rw [ev2] at v2
 refine KH IM (QL (v0 _ (by simp)) (QL (v1 _ (by simp)) (QL (v2 _ (by simp)) W8))) (by rintro r rfl; exact Zo8 o) fun x3 y3 bg e hx3 => ?_
 subst e
 obtain ⟨g0, g1, g2, g3, rfl, tg, ⟨sg0, sg1, sg2, sg3⟩, ag0, ag1, ag2, ag3⟩ := th_outI hx3
 clear hx3
 simp (disch := omega) [sp0, sp1, sp2, sp3, ap0, ap1, ap2, ap3, sq0, sq1, sq2, sq3, aq0, aq1, aq2, aq3, sy1, sg0, sg1, sg2, sg3, ag0, ag1, ag2, ag3]
 obtain ⟨Gw, Gs⟩ := boxO_ok a ho
 obtain ⟨G, hG⟩ : ∃ G, o.getD noT = G := ⟨_, rfl⟩
 rw [hG] at hw tg Gw Gs
 obtain ⟨ob, hob⟩ : ∃ ob, o.isSome = ob := ⟨_, rfl⟩
 have EQ := Zk3 G.nm.size G.nm (Nat.le_refl _) (wf_nm _ Gw) w
 rw [ZhE G.nm w (by rw [nm_nm, hw])] at EQ
 rw [ZkW] at tg
 have tg' : WK G.nm.ownF ([none, none, some w.cells] ++ b0 ++ [some [p0, p1, p2, p3]] ++ b1 ++ b2 ++ [some [q0, q1, q2, q3]] : List Box).length [g0, g1, g2, g3] bg := by simpa using tg
 clear tg
 have vg : ∀ (P h : List Box), P.length = ([none, none, some w.cells] ++ b0 ++ [some [p0, p1, p2, p3]] ++ b1 ++ b2 ++ [some [q0, q1, q2, q3]] : List Box).length → (∃ h2, h = P ++ bg ++ h2) → Y7 h G.nm.lv (.agg [g0, g1, g2, g3]) := fun P h hl ⟨h2, he⟩ => by
  have := ZeO (h := h) (h1 := P) (h2 := h2) (t := .agg G.nm.ownF) (y := .agg [g0, g1, g2, g3]) (bs := bg) (by simp only [QG]; exact Zfp _ _ _ _ tg') (by simp only [Th]; exact ⟨_, rfl, by rw [hl]; exact tg'⟩) he
  simpa only [share, ZdN] using this
 rw [hob]
 refine Zg EQ (QL (vg ([none, none, some w.cells] ++ b0 ++ [some [p0, p1, p2, p3]] ++ b1 ++ b2 ++ [some [q0, q1, q2, q3]]) _ rfl ⟨[some [g0, g1, g2, g3]], by simp⟩) (QL (ZaB (K8 _ w)) W8)) (whB _) ?_
 rintro r rfl
 have hbb : ∀ x : Bool, Xs .bool .neq (B x) (B x) = some (B false) := fun x => by simp [Xs, neg]
 simp (disch := omega) [sp0, sp1, sp2, sp3, ap0, ap1, ap2, ap3, sq0, sq1, sq2, sq3, aq0, aq1, aq2, aq3, sy1, sg0, sg1, sg2, sg3, ag0, ag1, ag2, ag3, hbb]
 have E0 := Znl s.norm s.norm sw
 rw [GSys.same_refl] at E0
 have E1 := Zpa false false ctx.norm ctx.norm (Wf.norm_wf cw)
 rw [ZdW, eCx] at E1
 have E2 := Zk3 g.norm.size g.norm (Nat.le_refl _) (norm_wf g gw) g.norm
 rw [same_refl] at E2
 have vC : ∀ h, Y7 h (.sl false false 1 (ctx.map fun x => [.sl false false 1 (x.2.map fun x => [N x])])) (.sl false false 1 (ctx.map fun x => [.sl false false 1 (x.2.map fun x => [N x])])) := fun h => by rw [← eCx]; exact ZnN h false ctx.norm
 refine Qa t1 (by simp) ?_
 simp (disch := omega) [sp0, sp1, sp2, sp3, ap0, ap1, ap2, ap3, sq0, sq1, sq2, sq3, aq0, aq1, aq2, aq3, sy1, sg0, sg1, sg2, sg3, ag0, ag1, ag2, ag3]
 refine Zg E0 (QL (v0 _ (by simp)) (QL (ZaB (Zgc _ s.norm)) W8)) (whB _) ?_
 rintro r rfl
 simp (disch := omega) [sp0, sp1, sp2, sp3, ap0, ap1, ap2, ap3, sq0, sq1, sq2, sq3, aq0, aq1, aq2, aq3, sy1, sg0, sg1, sg2, sg3, ag0, ag1, ag2, ag3]
 refine Qa t2 (by simp) ?_
 simp (disch := omega) [sp0, sp1, sp2, sp3, ap0, ap1, ap2, ap3, sq0, sq1, sq2, sq3, aq0, aq1, aq2, aq3, sy1, sg0, sg1, sg2, sg3, ag0, ag1, ag2, ag3]
 refine Zg E1 (QL (v1 _ (by simp)) (QL (vC _) W8)) (whB _) ?_
 rintro r rfl
 simp (disch := omega) [sp0, sp1, sp2, sp3, ap0, ap1, ap2, ap3, sq0, sq1, sq2, sq3, aq0, aq1, aq2, aq3, sy1, sg0, sg1, sg2, sg3, ag0, ag1, ag2, ag3]
 refine Qa t3 (by simp) ?_
 simp (disch := omega) [sp0, sp1, sp2, sp3, ap0, ap1, ap2, ap3, sq0, sq1, sq2, sq3, aq0, aq1, aq2, aq3, sy1, sg0, sg1, sg2, sg3, ag0, ag1, ag2, ag3]
 refine Zg E2 (QL (v2 _ (by simp)) (QL (ZaB (K8 _ g.norm)) W8)) (whB _) ?_
 rintro r rfl
 simp (disch := omega) [sp0, sp1, sp2, sp3, ap0, ap1, ap2, ap3, sq0, sq1, sq2, sq3, aq0, aq1, aq2, aq3, sy1, sg0, sg1, sg2, sg3, ag0, ag1, ag2, ag3]
 have tS : WK s.own ([none, none, some w.cells] : List Box).length [p0, p1, p2, p3] b0 := by
  have := hx0'
  simp only [Th] at this
  obtain ⟨ys, e, h⟩ := this
  cases e; exact h
 have tT : WK g.norm.ownF ([none, none, some w.cells] ++ b0 ++ [some [p0, p1, p2, p3]] ++ b1 : List Box).length [q0, q1, q2, q3] b2 := by
  have := hx2'
  simp only [Th] at this
  obtain ⟨ys, e, h⟩ := this
  cases e; rw [← Znn]; exact h
 have wc := w_cnt g
 have tcg := ZnJ g.norm
 have M1 := fun X => Zox s 1 [none, none, some w.cells] X p0 p1 p2 p3 b0 (by omega) tS
 refine Yc (M1 (some [p0, p1, p2, p3] :: (b1 ++ (b2 ++ some [q0, q1, q2, q3] :: (bg ++ [some [g0, g1, g2, g3]]))))) (by simp) ?_
 rintro r h' ⟨rfl, c0, ex0, l0, rfl⟩
 simp (disch := omega) [sp0, sp1, sp2, sp3, ap0, ap1, ap2, ap3, sq0, sq1, sq2, sq3, aq0, aq1, aq2, aq3, sy1, sg0, sg1, sg2, sg3, ag0, ag1, ag2, ag3, ← l0]
 have M2 := fun X => Zma ctx (1 + s.w) ([none, none, some w.cells] ++ c0 ++ [some [p0, p1, p2, p3]]) X y1 b1 (by omega) (by omega) (by
  have e : ([none, none, some w.cells] ++ c0 ++ [some [p0, p1, p2, p3]] : List Box).length = ([none, none, some w.cells] ++ b0 ++ [some [p0, p1, p2, p3]] : List Box).length := by simp [l0]
  rw [e]; exact hx1')
 refine Yc (M2 (b2 ++ some [q0, q1, q2, q3] :: (bg ++ some [g0, g1, g2, g3] :: ex0))) (by simp) ?_
 rintro r h' ⟨rfl, c1, l1, rfl⟩
 simp (disch := omega) [sp0, sp1, sp2, sp3, ap0, ap1, ap2, ap3, sq0, sq1, sq2, sq3, aq0, aq1, aq2, aq3, sy1, sg0, sg1, sg2, sg3, ag0, ag1, ag2, ag3, ← l0, ← l1]
 have M3 := fun X => ZfZ g.norm (1 + s.w + cws ctx) ([none, none, some w.cells] ++ c0 ++ [some [p0, p1, p2, p3]] ++ c1) X [q0, q1, q2, q3] b2 (by omega) (by omega) (by
  have e : ([none, none, some w.cells] ++ c0 ++ [some [p0, p1, p2, p3]] ++ c1 : List Box).length = ([none, none, some w.cells] ++ b0 ++ [some [p0, p1, p2, p3]] ++ b1 : List Box).length := by simp [l0, l1]
  rw [e]; exact tT)
 refine Yc (M3 (some [q0, q1, q2, q3] :: (bg ++ some [g0, g1, g2, g3] :: ex0))) (by simp) ?_
 rintro r h' ⟨rfl, c2, ex2, l2, _, rfl⟩
 have hk3 : ltB (1 + (s.w : Int) + (cws ctx : Int) + (g.norm.tcnt : Int)) 0 = false := by rw [Qd]; omega
 simp (disch := omega) [sp0, sp1, sp2, sp3, ap0, ap1, ap2, ap3, sq0, sq1, sq2, sq3, aq0, aq1, aq2, aq3, sy1, sg0, sg1, sg2, sg3, ag0, ag1, ag2, ag3, ← l0, ← l1, ← l2, hk3]
 obtain ⟨P, hP⟩ : ∃ P : List Box, [none, none, some w.cells] ++ c0 ++ [some [p0, p1, p2, p3]] ++ c1 ++ c2 ++ [some [q0, q1, q2, q3]] = P := ⟨_, rfl⟩
 have hPl : P.length = ([none, none, some w.cells] ++ b0 ++ [some [p0, p1, p2, p3]] ++ b1 ++ b2 ++ [some [q0, q1, q2, q3]] : List Box).length := by rw [← hP]; simp [l0, l1, l2]
 have hPX : ∀ X : List Box, none :: none :: some w.cells :: (c0 ++ some [p0, p1, p2, p3] :: (c1 ++ (c2 ++ some [q0, q1, q2, q3] :: X))) = P ++ X := fun X => by rw [← hP]; simp
 refine Zg EQ (QL (vg P _ hPl ⟨some [g0, g1, g2, g3] :: (ex0 ++ ex2), by simp [hPX]⟩) (QL (ZaB (K8 _ w)) W8)) (whB _) ?_
 rintro r rfl
 simp (disch := omega) [sp0, sp1, sp2, sp3, ap0, ap1, ap2, ap3, sq0, sq1, sq2, sq3, aq0, aq1, aq2, aq3, sy1, sg0, sg1, sg2, sg3, ag0, ag1, ag2, ag3, ← l0, ← l1, ← l2, hbb]
 have tcG : G.nm.tcnt ≤ 461168601842738 := by
  have := ZnJ G.nm
  have := ZpC G.nm (wf_nm _ Gw)
  have := ZaH G
  omega
 have M4 := fun X => ZfZ G.nm 1 P X [g0, g1, g2, g3] bg (by omega) (by have := ZaH G; omega) (by rw [hPl]; exact tg')
 refine Yc (M4 (some [g0, g1, g2, g3] :: (ex0 ++ ex2))) (by simp [hPX]) ?_
 rintro r h' ⟨rfl, cg, ex4, l4, tg4, rfl⟩
 have vm : ∀ (h : List Box), (∃ h2, h = P ++ cg ++ h2) → Y7 h (topT 1 G.nm).lv (.agg [g0, g1, g2, g3]) := fun h ⟨h2, he⟩ => by
  have := ZeO (h := h) (h1 := P) (h2 := h2) (t := .agg (topT 1 G.nm).ownF) (y := .agg [g0, g1, g2, g3]) (bs := cg) (by simp only [QG]; exact Zfp _ _ _ _ tg4) (by simp only [Th]; exact ⟨_, rfl, tg4⟩) he
  simpa only [share, ZdN] using this
 have HD := ZnK G.nm 1 (by omega) (by have := ZaH G; omega)
 have hq1 : ltB (1 + (G.nm.tcnt : Int)) 0 = false := by rw [Qd]; omega
 have hq2 : eqB (1 + (G.nm.tcnt : Int)) (1 + (G.nm.tcnt : Int)) = true := by rw [Qc]
 rw [← hP]
 simp (disch := omega) [sp0, sp1, sp2, sp3, ap0, ap1, ap2, ap3, sq0, sq1, sq2, sq3, aq0, aq1, aq2, aq3, sy1, sg0, sg1, sg2, sg3, ag0, ag1, ag2, ag3, ← l0, ← l1, ← l2, ← l4]
 refine Zg HD (QL (vm _ ⟨some [g0, g1, g2, g3] :: (ex0 ++ (ex2 ++ ex4)), by simp [hPX]⟩) (QL Zeo W8)) (whN _) ?_
 rintro r rfl
 simp (disch := omega) [sp0, sp1, sp2, sp3, ap0, ap1, ap2, ap3, sq0, sq1, sq2, sq3, aq0, aq1, aq2, aq3, sy1, sg0, sg1, sg2, sg3, ag0, ag1, ag2, ag3, ← l0, ← l1, ← l2, ← l4, hq1, hq2]
 refine Qa t1 (by simp) ?_
 simp (disch := omega)
 refine Qa t2 (by simp) ?_
 simp (disch := omega)
 refine Qa t3 (by simp) ?_
 simp (disch := omega)
 refine Qa IM (by simp) ?_
 simp (disch := omega) [Zjf, hG, hob]
 refine Qa EQ (by simp) ?_
 simp (disch := omega) [sp0, sp1, sp2, sp3, ap0, ap1, ap2, ap3, sq0, sq1, sq2, sq3, aq0, aq1, aq2, aq3, sy1, sg0, sg1, sg2, sg3, ag0, ag1, ag2, ag3, ← l0, ← l1, ← l2, ← l4, hbb]
 refine Zg HD (QL (vm _ ⟨some [g0, g1, g2, g3] :: (ex0 ++ (ex2 ++ (ex4 ++ [some G.ownC]))), by simp [hPX]⟩) (QL Zeo W8)) (whN _) ?_
 rintro r rfl
 simp (disch := omega) [sp0, sp1, sp2, sp3, ap0, ap1, ap2, ap3, sq0, sq1, sq2, sq3, aq0, aq1, aq2, aq3, sy1, sg0, sg1, sg2, sg3, ag0, ag1, ag2, ag3, ← l0, ← l1, ← l2, ← l4, hq1, hq2]
end Go.Proofs.YtclfngbealdbgaaGreat
