/- What can be read of a world, as trees. No program, no conditions. -/
import Derived.Test.YticcekapikfhaaaGl
import Derived.ProofKit
import Derived.RowKit
import Derived.ChangeArms
namespace Go.Proofs.Yticcekapikfhaaa
open Go
open Go.TL (GM.all Rep RepVals RepCells RepRow LV)
open Go.TL (N B)
set_option linter.unusedVariables false
set_option maxRecDepth 20000
variable {H : Type} {enc : TypeId × Value → H} {P : Program} {w : World} {base : Nat} {spare : Nat → Bool} {held : Bool}

/-- values, each one cell, that stand for trees -/
def Vals (w : World) (xs : List LV) (cs : List Value) : Prop := RepVals (GM.all w) [] xs cs [] ∧ ∀ c ∈ cs, c.oneCell' = true
theorem Vals.nil : Vals w [] [] := ⟨by simp [RepVals], by simp⟩
theorem Vals.cons {x : LV} {v : Value} {xs : List LV} {cs : List Value} (h : Rep (GM.all w) [] x v []) (h1 : v.oneCell' = true) (ht : Vals w xs cs) : Vals w (x :: xs) (v :: cs) := by
  refine ⟨?_, by intro c hc; simp only [List.mem_cons] at hc; rcases hc with rfl | hc; · exact h1
                 · exact ht.2 c hc⟩
  simp only [RepVals]
  exact ⟨v, cs, [], [], rfl, rfl, h, ht.1⟩
theorem Vals.app {xs ys : List LV} {cs ds : List Value} (h1 : Vals w xs cs) (h2 : Vals w ys ds) : Vals w (xs ++ ys) (cs ++ ds) := by
  induction xs generalizing cs with
  | nil =>
    obtain ⟨h, _⟩ := h1
    simp only [RepVals] at h
    rw [h.1]; simpa using h2
  | cons x xs ih =>
    obtain ⟨h, hc⟩ := h1
    simp only [RepVals] at h
    obtain ⟨v, ws, O1, O2, rfl, hO, g1, g2⟩ := h
    obtain ⟨rfl, rfl⟩ := List.append_eq_nil_iff.1 hO.symm
    exact Vals.cons g1 (hc v (by simp)) (ih ⟨g2, fun c hc' => hc c (by simp [hc'])⟩)
theorem Vals.length {xs : List LV} {cs : List Value} (h : Vals w xs cs) : cs.length = xs.length := by
  induction xs generalizing cs with
  | nil => have := h.1; simp only [RepVals] at this; rw [this.1]; rfl
  | cons x xs ih =>
    obtain ⟨h, hc⟩ := h
    simp only [RepVals] at h
    obtain ⟨v, ws, O1, O2, rfl, hO, g1, g2⟩ := h
    obtain ⟨rfl, rfl⟩ := List.append_eq_nil_iff.1 hO.symm
    simp [ih ⟨g2, fun c hc' => hc c (by simp [hc'])⟩]
theorem Vals.cells {xs : List LV} {cs : List Value} (h : Vals w xs cs) (b off : Nat) (hc : ∀ i, i < cs.length → w.cell? ⟨b, off + i, none⟩ = cs[i]?) : RepCells (GM.all w) [] xs b off [] := by
  induction xs generalizing cs off with
  | nil => simp [RepCells]
  | cons x xs ih =>
    obtain ⟨h, h1⟩ := h
    simp only [RepVals] at h
    obtain ⟨v, ws, O1, O2, rfl, hO, g1, g2⟩ := h
    obtain ⟨rfl, rfl⟩ := List.append_eq_nil_iff.1 hO.symm
    simp only [RepCells]
    refine ⟨v, [], [], rfl, by simpa [GM.all] using hc 0 (by simp), h1 v (by simp), g1, ih ⟨g2, fun c hc' => h1 c (by simp [hc'])⟩ (off + 1) fun i hi => ?_⟩
    have := hc (i + 1) (by simpa using hi)
    rw [show off + 1 + i = off + (i + 1) by omega]
    simpa using this
theorem cells_look {a : Addr} {n : Nat} {cs : List Value} (h : w.cells? base a n = some cs) : cs.length = n ∧ ∀ i, i < n → w.cell? (a.add i) = cs[i]? := by
  unfold World.cells? at h
  split at h
  · refine ⟨by simpa using mapM_some_length h, fun i hi => by simpa [hi] using mapM_some_get h i i (by simp [hi])⟩
  · simp at h
theorem spot_none {a : Addr} {v : Value} (h : w.cell? a = some v) : a.spot = none := by
  unfold World.cell? at h
  split at h
  · split at h
    · simp at h
    · rename_i hs; simpa using hs
  · simp at h
theorem add_at {b off i : Nat} : (⟨b, off, none⟩ : Addr).add i = ⟨b, off + i, none⟩ := by
  unfold Addr.add; split <;> simp_all

theorem rd_int {t : TypeId} (ht : P.underlying t = some (.int .i64)) {fuel : Nat} {cs : List Value} {x : DataW H × List MemPlace} (h : DataW.trod enc P w base spare held fuel t cs = some x) :
    ∃ n : Int, I64 n ∧ Vals w [N n] cs := by
  obtain ⟨n, rfl, _, hw⟩ := DataW.trod_int ht h
  refine ⟨n, ?_, Vals.cons (by simp [Rep]) rfl Vals.nil⟩
  simp [Lit.wf, IntKind.min, IntKind.max, IntKind.signed, IntKind.bits] at hw
  unfold I64; omega
theorem rd_bool {t : TypeId} (ht : P.underlying t = some .bool) {fuel : Nat} {cs : List Value} {x : DataW H × List MemPlace} (h : DataW.trod enc P w base spare held fuel t cs = some x) :
    ∃ b : Bool, Vals w [B b] cs := by
  obtain ⟨b, rfl, _⟩ := DataW.trod_bool ht h
  exact ⟨b, Vals.cons (by simp [Rep]) rfl Vals.nil⟩
theorem rd_slice {α : Type} (e : α → List LV) (Q : α → Prop) {t et : TypeId} {sz : Nat} (hsz : P.cellsOf et = sz) (hpos : 0 < sz) (ht : P.underlying t = some (.slice et)) {fuel : Nat}
    (each : ∀ n cs y, n < fuel → DataW.trod enc P w base spare held n et cs = some y → ∃ r, Q r ∧ Vals w (e r) cs ∧ (e r).length = sz)
    {cs : List Value} {x : DataW H × List MemPlace} (h : DataW.trod enc P w base spare held fuel t cs = some x) :
    ∃ (nl : Bool) (l : List α), (∀ r ∈ l, Q r) ∧ l.length ≤ 9223372036854775807 ∧ Vals w [.sl false nl sz (l.map e)] cs := by
  rcases DataW.trod_slice ht h with ⟨rfl, _⟩ | ⟨a, len, cap, elems, rest, n, rfl, rfl, _, _, hlc, hcm, hlen, hel, _, _⟩
  · exact ⟨true, [], by simp, by simp, Vals.cons (by simp [Rep]) rfl Vals.nil⟩
  · rw [hsz] at hel
    have get : ∀ i, i < len → ∃ r, Q r ∧ (e r).length = sz ∧ a.spot = none ∧ RepCells (GM.all w) [] (e r) a.block (a.off + i * sz) [] := by
      intro i hi
      have h1 := hel i hi
      have h2 : elems[i]? = some (elems[i]'(by omega)) := List.getElem?_eq_getElem _
      rw [h2, Option.bind_eq_some_iff] at h1
      obtain ⟨cs', hc, htr⟩ := h1
      obtain ⟨r, hq, hv, hl⟩ := each n cs' _ (by omega) htr
      obtain ⟨hcl, hcg⟩ := cells_look hc
      have hs : a.spot = none := by
        by_cases hi0 : i = 0
        · have := hcg 0 hpos
          rw [List.getElem?_eq_getElem (by omega)] at this
          have hs := spot_none this
          simpa [hi0, Addr.add] using hs
        · have h0 := hel 0 (by omega)
          have h2 : elems[0]? = some (elems[0]'(by omega)) := List.getElem?_eq_getElem _
          rw [h2, Option.bind_eq_some_iff] at h0
          obtain ⟨cs0, hc0, _⟩ := h0
          obtain ⟨hcl0, hcg0⟩ := cells_look hc0
          have := hcg0 0 hpos
          rw [List.getElem?_eq_getElem (by omega)] at this
          have hs := spot_none this
          simpa [Addr.add] using hs
      refine ⟨r, hq, hl, hs, hv.cells _ _ fun j hj => ?_⟩
      have := hcg j (by omega)
      rw [← this]
      obtain ⟨b, off, sp⟩ := a
      simp only at hs
      subst hs
      rw [add_at, add_at]
    have rows : ∀ k i, i + k = len → ∃ l : List α, l.length = k ∧ (∀ r ∈ l, Q r) ∧ RepRow (GM.all w) [] (l.map e) sz a.block (a.off + i * sz) [] := by
      intro k
      induction k with
      | zero => intro i hi; exact ⟨[], rfl, by simp, by simp [RepRow]⟩
      | succ k ih =>
        intro i hi
        obtain ⟨r, hq, hl, _, hc⟩ := get i (by omega)
        obtain ⟨l, h1, h2, h3⟩ := ih (i + 1) (by omega)
        refine ⟨r :: l, by simp [h1], by simpa using ⟨hq, h2⟩, ?_⟩
        simp only [List.map_cons, RepRow]
        refine ⟨[], [], rfl, hl, hc, ?_⟩
        rw [show a.off + i * sz + sz = a.off + (i + 1) * sz by rw [Nat.add_mul]; omega]
        exact h3
    obtain ⟨l, h1, h2, h3⟩ := rows len 0 (by omega)
    have hmx : maxLen = 9223372036854775807 := by decide
    refine ⟨false, l, h2, by omega, Vals.cons ?_ rfl Vals.nil⟩
    obtain ⟨b, off, sp⟩ := a
    simp only [Rep]
    refine .inr ⟨trivial, b, off, sp, cap, [], by simp [h1], ?_, by simp [h1, hlc], by simpa using h3, .inr ⟨.inl trivial, rfl⟩⟩
    by_cases h0 : len = 0
    · right
      refine ⟨?_, .inl trivial⟩
      simp; exact List.eq_nil_of_length_eq_zero (by omega)
    · left
      obtain ⟨_, _, _, hs, _⟩ := get 0 (by omega)
      exact hs
theorem rd_ints {t et : TypeId} (he : P.underlying et = some (.int .i64)) (hsz : P.cellsOf et = 1) (ht : P.underlying t = some (.slice et)) {fuel : Nat} {cs : List Value} {x : DataW H × List MemPlace}
    (h : DataW.trod enc P w base spare held fuel t cs = some x) : ∃ nl l, Rok l ∧ Vals w [L nl l] cs := by
  obtain ⟨nl, l, hq, hl, hv⟩ := rd_slice (fun n => [N n]) I64 hsz (by omega) ht (fun n cs y _ hy => by
    obtain ⟨m, h1, h2⟩ := rd_int he hy
    exact ⟨m, h1, h2, rfl⟩) h
  exact ⟨nl, l, ⟨hl, hq⟩, hv⟩
theorem rd_byte {t : TypeId} (ht : P.underlying t = some (.int .u8)) {fuel : Nat} {cs : List Value} {x : DataW H × List MemPlace} (h : DataW.trod enc P w base spare held fuel t cs = some x) :
    ∃ n : Int, (0 ≤ n ∧ n ≤ 255) ∧ Vals w [.sc (.int .u8 n)] cs := by
  obtain ⟨n, rfl, _, hw⟩ := DataW.trod_int ht h
  refine ⟨n, ?_, Vals.cons (by simp [Rep]) rfl Vals.nil⟩
  simp [Lit.wf, IntKind.min, IntKind.max, IntKind.signed, IntKind.bits] at hw
  omega
theorem rd_bytes {t et : TypeId} (he : P.underlying et = some (.int .u8)) (hsz : P.cellsOf et = 1) (ht : P.underlying t = some (.slice et)) {fuel : Nat} {cs : List Value} {x : DataW H × List MemPlace}
    (h : DataW.trod enc P w base spare held fuel t cs = some x) : ∃ D : Go.TL.Dr, (∀ b ∈ D.bs, 0 ≤ b ∧ b ≤ 255) ∧ Vals w [D.lv] cs := by
  obtain ⟨nl, l, hq, hl, hv⟩ := rd_slice (fun n => [.sc (.int .u8 n)]) (fun n => 0 ≤ n ∧ n ≤ 255) hsz (by omega) ht (fun n cs y _ hy => by
    obtain ⟨m, h1, h2⟩ := rd_byte he hy
    exact ⟨m, h1, h2, rfl⟩) h
  exact ⟨⟨nl, l⟩, hq, hv⟩
theorem rd_bools {t et : TypeId} (he : P.underlying et = some .bool) (hsz : P.cellsOf et = 1) (ht : P.underlying t = some (.slice et)) {fuel : Nat} {cs : List Value} {x : DataW H × List MemPlace}
    (h : DataW.trod enc P w base spare held fuel t cs = some x) : ∃ nl l, l.length ≤ 9223372036854775807 ∧ Vals w [LB nl l] cs := by
  obtain ⟨nl, l, hq, hl, hv⟩ := rd_slice (fun b => [B b]) (fun _ => True) hsz (by omega) ht (fun n cs y _ hy => by
    obtain ⟨m, h2⟩ := rd_bool he hy
    exact ⟨m, trivial, h2, rfl⟩) h
  exact ⟨nl, l, hl, hv⟩
theorem rd_ctx {t rt et : TypeId} (he : P.underlying et = some (.int .i64)) (hsz : P.cellsOf et = 1) (hr : P.underlying rt = some (.slice et)) (hrz : P.cellsOf rt = 1) (ht : P.underlying t = some (.slice rt)) {fuel : Nat} {cs : List Value} {x : DataW H × List MemPlace}
    (h : DataW.trod enc P w base spare held fuel t cs = some x) : ∃ (nl : Bool) (c : GCtx), c.raw ∧ Vals w [LC nl c] cs := by
  obtain ⟨nl, l, hq, hl, hv⟩ := rd_slice (fun c : Bool × List Int => [eC c]) (fun c => Rok c.2) hrz (by omega) ht (fun n cs y _ hy => by
    obtain ⟨nl, m, h1, h2⟩ := rd_ints he hsz hr hy
    exact ⟨(nl, m), h1, h2, rfl⟩) h
  exact ⟨nl, l, ⟨hl, hq⟩, hv⟩
/-- four fields, one behind the other -/
theorem four {cs : List Value} {w0 w1 w2 w3 : List LV} (hl : cs.length = 4) (h0 : Vals w w0 (cs.take 1)) (h1 : Vals w w1 ((cs.drop 1).take 1)) (h2 : Vals w w2 ((cs.drop 2).take 1)) (h3 : Vals w w3 ((cs.drop 3).take 1)) : Vals w (w0 ++ (w1 ++ (w2 ++ w3))) cs := by
  match cs, hl with
  | [a, b, c, d], _ => exact h0.app (h1.app (h2.app h3))
/-- the types of a program that hold systems, terms and sessions -/
structure Tys (P : Program) where
  tI : TypeId
  tB : TypeId
  tL : TypeId
  tLB : TypeId
  tC : TypeId
  tT : TypeId
  tK : TypeId
  tS : TypeId
  fT : Array Field
  fS : Array Field
  hI : P.underlying tI = some (.int .i64)
  hB : P.underlying tB = some .bool
  hL : P.underlying tL = some (.slice tI)
  hLB : P.underlying tLB = some (.slice tB)
  hC : P.underlying tC = some (.slice tL)
  hT : P.underlying tT = some (.struct fT)
  hK : P.underlying tK = some (.slice tT)
  hS : P.underlying tS = some (.struct fS)
  cI : P.cellsOf tI = 1
  cB : P.cellsOf tB = 1
  cL : P.cellsOf tL = 1
  cLB : P.cellsOf tLB = 1
  cT : P.cellsOf tT = 4
  cK : P.cellsOf tK = 1
  cS : P.cellsOf tS = 4
  T0 : (fT[0]?).map (fun f => (f.type, f.offset)) = some (tI, 0)
  T1 : (fT[1]?).map (fun f => (f.type, f.offset)) = some (tI, 1)
  T2 : (fT[2]?).map (fun f => (f.type, f.offset)) = some (tL, 2)
  T3 : (fT[3]?).map (fun f => (f.type, f.offset)) = some (tK, 3)
  S0 : (fS[0]?).map (fun f => (f.type, f.offset)) = some (tI, 0)
  S1 : (fS[1]?).map (fun f => (f.type, f.offset)) = some (tL, 1)
  S2 : (fS[2]?).map (fun f => (f.type, f.offset)) = some (tL, 2)
  S3 : (fS[3]?).map (fun f => (f.type, f.offset)) = some (tLB, 3)
theorem field_at {fs : Array Field} {i : Nat} {t : TypeId} {o : Nat} (h : (fs[i]?).map (fun f => (f.type, f.offset)) = some (t, o)) {n : Nat} {cs : List Value} {xs : List (DataW H × List MemPlace)} (hl : xs.length = fs.size)
    (hf : ∀ (i : Nat) (f : Field), fs[i]? = some f → DataW.trod enc P w base spare held n f.type ((cs.drop f.offset).take (P.cellsOf f.type)) = xs[i]?) :
    ∃ y, DataW.trod enc P w base spare held n t ((cs.drop o).take (P.cellsOf t)) = some y := by
  rw [Option.map_eq_some_iff] at h
  obtain ⟨f, hf1, h2⟩ := h
  simp only [Prod.mk.injEq] at h2
  obtain ⟨rfl, rfl⟩ := h2
  have hi : i < xs.length := by
    rw [hl]
    exact (Array.getElem?_eq_some_iff.1 hf1).1
  exact ⟨xs[i], by rw [hf i f hf1]; exact List.getElem?_eq_getElem hi⟩
theorem rd_sys (T : Tys P) {fuel : Nat} {cs : List Value} {x : DataW H × List MemPlace} (h : DataW.trod enc P w base spare held fuel T.tS cs = some x) :
    ∃ s : GSys, s.raw ∧ Vals w s.cells cs := by
  obtain ⟨xs, n, rfl, _, hl, hlen, hf⟩ := DataW.trod_struct T.hS h
  rw [T.cS] at hl
  obtain ⟨y0, h0⟩ := field_at T.S0 hlen hf
  obtain ⟨y1, h1⟩ := field_at T.S1 hlen hf
  obtain ⟨y2, h2⟩ := field_at T.S2 hlen hf
  obtain ⟨y3, h3⟩ := field_at T.S3 hlen hf
  rw [T.cI] at h0; rw [T.cL] at h1 h2; rw [T.cLB] at h3
  obtain ⟨size, r0, v0⟩ := rd_int T.hI h0
  obtain ⟨n1, plus, r1, v1⟩ := rd_ints T.hI T.cI T.hL h1
  obtain ⟨n2, times, r2, v2⟩ := rd_ints T.hI T.cI T.hL h2
  obtain ⟨n3, below, r3, v3⟩ := rd_bools T.hB T.cB T.hLB h3
  exact ⟨⟨size, n1, plus, n2, times, n3, below⟩, ⟨r0, r1, r2, r3⟩, four hl v0 v1 v2 v3⟩
theorem rd_term (T : Tys P) : ∀ (fuel : Nat) {cs : List Value} {x : DataW H × List MemPlace}, DataW.trod enc P w base spare held fuel T.tT cs = some x → ∃ t : GTerm, t.raw ∧ Vals w t.cells cs := by
  intro fuel
  induction fuel using Nat.strongRecOn with
  | _ fuel ih =>
    intro cs x h
    obtain ⟨xs, n, rfl, _, hl, hlen, hf⟩ := DataW.trod_struct T.hT h
    rw [T.cT] at hl
    obtain ⟨y0, h0⟩ := field_at T.T0 hlen hf
    obtain ⟨y1, h1⟩ := field_at T.T1 hlen hf
    obtain ⟨y2, h2⟩ := field_at T.T2 hlen hf
    obtain ⟨y3, h3⟩ := field_at T.T3 hlen hf
    rw [T.cI] at h0 h1; rw [T.cL] at h2; rw [T.cK] at h3
    obtain ⟨op, r0, v0⟩ := rd_int T.hI h0
    obtain ⟨m, r1, v1⟩ := rd_int T.hI h1
    obtain ⟨n1, ty, r2, v2⟩ := rd_ints T.hI T.cI T.hL h2
    obtain ⟨n2, ks, r3, hlk, v3⟩ := rd_slice GTerm.cells GTerm.raw T.cT (by omega) T.hK (fun k cs' y hk hy => by
      obtain ⟨t, g1, g2⟩ := ih k (by omega) hy
      exact ⟨t, g1, g2, by simp⟩) h3
    refine ⟨.mk op m n1 ty n2 ks, ?_, ?_⟩
    · simp only [GTerm.raw]
      exact ⟨r0, r1, r2, hlk, raws_iff.2 r3⟩
    · simp only [GTerm.cells, rowsOf_eq]
      exact four hl v0 v1 v2 v3
theorem rd_ses (T : Tys P) {tX : TypeId} {fX : Array Field} (hX : P.underlying tX = some (.struct fX)) (cX : P.cellsOf tX = 9) (cC : P.cellsOf T.tC = 1) (X0 : (fX[0]?).map (fun f => (f.type, f.offset)) = some (T.tS, 0)) (X1 : (fX[1]?).map (fun f => (f.type, f.offset)) = some (T.tC, 4)) (X2 : (fX[2]?).map (fun f => (f.type, f.offset)) = some (T.tT, 5))
    {fuel : Nat} {cs : List Value} {x : DataW H × List MemPlace} (h : DataW.trod enc P w base spare held fuel tX cs = some x) :
    ∃ s : GSes, s.raw ∧ Vals w s.cells cs := by
  obtain ⟨xs, n, rfl, _, hl, hlen, hf⟩ := DataW.trod_struct hX h
  rw [cX] at hl
  obtain ⟨y0, h0⟩ := field_at X0 hlen hf
  obtain ⟨y1, h1⟩ := field_at X1 hlen hf
  obtain ⟨y2, h2⟩ := field_at X2 hlen hf
  rw [T.cS] at h0; rw [cC] at h1; rw [T.cT] at h2
  obtain ⟨s, r0, v0⟩ := rd_sys T h0
  obtain ⟨nl, c, r1, v1⟩ := rd_ctx T.hI T.cI T.hL T.cL T.hC h1
  obtain ⟨t, r2, v2⟩ := rd_term T n h2
  refine ⟨⟨s, nl, c, t⟩, ⟨r0, r1, r2⟩, ?_⟩
  have e : cs = (cs.drop 0).take 4 ++ ((cs.drop 4).take 1 ++ (cs.drop 5).take 4) := by
    match cs, hl with
    | [a, b, c, d, e, f, g, h, i], _ => rfl
  rw [e]
  exact v0.app (v1.app v2)
/-- a value of a struct, out of its cells -/
theorem rep_agg {xs : List LV} {cs : Array Value} (h : Vals w xs cs.toList) : Rep (GM.all w) [] (.agg xs) (.agg cs) [] := by
  simp only [Rep]
  exact ⟨cs.toList, by simp, h.2, h.1⟩
end Go.Proofs.Yticcekapikfhaaa
