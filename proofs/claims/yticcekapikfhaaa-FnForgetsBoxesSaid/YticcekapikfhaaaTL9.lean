/- The instructions say what the operations do: what is built, made and appended. No program, no conditions. -/
import Derived.Test.YticcekapikfhaaaTL8
namespace Go.TL

def giveOAll (Ot : Nat → List Own) : List X → (Nat → List Own)
  | [] => Ot
  | x :: xs => giveOAll (giveO Ot x) xs

theorem foldl_putAll (off : Nat) : ∀ (l : List Value) (k : Nat) (cs : Array Value), (l.zipIdx k).foldl (fun cs (c, j) => cs.setIfInBounds (off + j) c) cs = putAll cs (off + k) l
  | [], _, _ => rfl
  | v :: l, k, cs => by
    simp only [List.zipIdx_cons, List.foldl_cons, putAll]
    exact foldl_putAll off l (k + 1) _

theorem foldl_putAll' (off : Nat) (l : Array Value) (cs : Array Value) : l.zipIdx.foldl (fun cs (c, j) => cs.setIfInBounds (off + j) c) cs = putAll cs off l.toList := by
  rw [← Array.foldl_toList, Array.toList_zipIdx]
  exact foldl_putAll off l.toList 0 cs

section
variable {P : Program} {x : Cx} {n : Nat} {o : Oper} {s s' : St} {a : Act} {w : World}

theorem fill_rep {A : GM} {μ : List Nat} {place : Nat → Option (Nat × Nat)} :
    ∀ (ps : List (Nat × Operand)) (qs : List (Nat × Nat × X)) (t : Nat → LV) (Ot : Nat → List Own) (zs zs' : List LV) (c : Array Value) (Oz : List Own), cParts P n place ps = some qs →
      (∀ i, i < n → Rep A μ (t i) (a.tmps.getD i undef) (Ot i)) → RepVals A μ zs c.toList Oz → (∀ v ∈ c.toList, v.oneCell' = true) → fillLV t zs qs = some zs' →
      ∃ c' Oz', Instr.fill place c (ps.map fun p => (p.1, a.eval p.2)) = some c' ∧ RepVals A μ zs' c'.toList Oz' ∧ (∀ v ∈ c'.toList, v.oneCell' = true) ∧ c'.size = c.size ∧
        (∀ i, i < n → Rep A μ (giveAll t (qs.map fun p => p.2.2) i) (a.tmps.getD i undef) (giveOAll Ot (qs.map fun p => p.2.2) i)) ∧
        ∀ p : Own → Bool, Oz'.countP p + (allO n (giveOAll Ot (qs.map fun p => p.2.2))).countP p ≤ Oz.countP p + (allO n Ot).countP p
  | [], qs, t, Ot, zs, zs', c, Oz, hq, hr, hz, h1, hf => by
    simp only [cParts, Option.some.injEq] at hq
    subst hq
    simp only [fillLV, Option.some.injEq] at hf
    subst hf
    exact ⟨c, Oz, rfl, hz, h1, rfl, hr, fun p => Nat.le_refl _⟩
  | (i, u) :: ps, qs, t, Ot, zs, zs', c, Oz, hq, hr, hz, h1, hf => by
    simp only [cParts] at hq
    split at hq
    · rename_i off sz y r hpl hy hrr
      simp only [Option.some.injEq] at hq
      subst hq
      simp only [fillLV] at hf
      split at hf
      · rename_i hc
        obtain ⟨hflat, hcl, hle⟩ := hc
        have hyok := cX_ok hy
        obtain ⟨hv, hvone⟩ := cells_rep hflat (get_rep hyok hr)
        have hvl := hv.length
        rw [hcl] at hvl
        have hzl := hz.length
        rw [Array.length_toList] at hzl
        obtain ⟨O', hO', hOle, _⟩ := RepVals.splice hz hv off (by omega)
        have htl : (putAll c off (a.eval u).cells.toList).toList = c.toList.take off ++ (a.eval u).cells.toList ++ c.toList.drop (off + (get t y).cells.length) := by
          rw [putAll_toList _ _ _ (by omega), hcl, hvl]
        obtain ⟨c', Oz', g1, g2, g3, g4, g5, g6⟩ := fill_rep ps r (give t y) (giveO Ot y) (splice zs off (get t y).cells) zs' (putAll c off (a.eval u).cells.toList) O' hrr (give_rep y hr) (by rw [htl]; exact hO') (by
            rw [htl]
            intro c' hc'
            rcases List.mem_append.1 hc' with hc' | hc'
            · rcases List.mem_append.1 hc' with hc' | hc'
              · exact h1 _ (List.mem_of_mem_take hc')
              · exact hvone _ hc'
            · exact h1 _ (List.mem_of_mem_drop hc')) hf
        refine ⟨c', Oz', ?_, g2, g3, by rw [g4, putAll_size], by simpa [giveAll, giveOAll] using g5, fun p => ?_⟩
        · simp only [List.map_cons, Instr.fill, hpl]
          rw [if_neg (by rw [← Array.length_toList, hvl]; simp; omega), foldl_putAll']
          exact g1
        · have k1 := g6 p
          have k2 := give_count (Ot := Ot) hyok p
          have k3 := hOle p
          simp only [List.map_cons, giveOAll]
          omega
      · simp at hf
    · simp at hq

theorem sound_build {d : Nat} {z : List LV} {qs : List (Nat × Nat × X)} {ps : Array (Nat × Operand)} {t : TypeId} {fs : Array Field} {pl : List (Nat × Nat)} (ho : o.op = .build t ps) (hd : o.dst = some d) (hdn : d < n)
    (hu : P.underlying t = some (.struct fs)) (hz : zLV P t = some z) (hpl : (fs.toList.mapM fun f => (P.info? f.type).map fun i => (f.offset, i.size)) = some pl)
    (hq : cParts P n (fun i => pl.toArray[i]?) ps.toList = some qs) (hs : step (.build d z qs) s = some s') (sim : Sim x n s a w) : Good P x n o s' a w := by
  obtain ⟨A, μ, OH, Ot, ht, h0, hr, st⟩ := sim
  simp only [step, Option.map_eq_some_iff] at hs
  obtain ⟨zs, hf, rfl⟩ := hs
  obtain ⟨i, v, hi, hv, hrep, hone⟩ := zLV_ok hz
  obtain ⟨c', Oz', g1, g2, g3, g4, g5, g6⟩ := fill_rep (P := P) (n := n) (a := a) ps.toList qs s.t Ot z zs v.cells [] hq hr (hrep A μ) hone hf
  refine good_value (v := .agg c') (w' := w) (by
    have : P.built t (ps.map fun p => (p.1, a.eval p.2)).toList = some c' := by
      simp only [Program.built, hi, hu, hv, hpl, Array.toList_map]
      exact g1
    simp [execOp, ho, run_build w t _ c' this]) ?_
  rw [hd]
  refine put_same ht h0 g5 hdn (Od := Oz') ?_ st (fun p => by have := g6 p; simp at this; omega)
  simp only [Rep]
  exact ⟨c'.toList, by simp, g3, g2⟩

theorem RepVals.flatten_replicate {A : GM} {μ : List Nat} {z : List LV} {vs : List Value} (h : RepVals A μ z vs []) : ∀ m, RepVals A μ (List.replicate m z).flatten (List.replicate m vs).flatten []
  | 0 => by simp [RepVals]
  | m + 1 => by
    simp only [List.replicate_succ, List.flatten_cons]
    exact RepVals.app (O1 := []) (O2 := []) h (RepVals.flatten_replicate h m)

theorem flatten_replicate_get (zs : List Value) : ∀ (m i : Nat), i < m * zs.length → (List.replicate m zs).flatten[i]? = zs[i % zs.length]?
  | 0, i, h => by simp at h
  | m + 1, i, h => by
    simp only [List.replicate_succ, List.flatten_cons]
    by_cases hi : i < zs.length
    · rw [List.getElem?_append_left hi, Nat.mod_eq_of_lt hi]
    · rw [List.getElem?_append_right (by omega), flatten_replicate_get zs m _ (by rw [Nat.add_mul] at h; omega), Nat.mod_eq_sub_mod (a := i) (b := zs.length) (by omega)]

theorem zeros_eq (z : Array Value) (m : Nat) (hz : 0 < z.size) : ((Array.range (m * z.size)).map (fun i => z[i % z.size]!)).toList = (List.replicate m z.toList).flatten := by
  apply List.ext_getElem?
  intro i
  by_cases hi : i < m * z.size
  · rw [flatten_replicate_get _ _ _ (by simpa using hi)]
    have h2 : i % z.size < z.size := Nat.mod_lt _ hz
    simp [hi, h2]
  · rw [List.getElem?_eq_none (by simp; omega), List.getElem?_eq_none (by simp [List.length_flatten]; omega)]

theorem sound_bslice {d sz len : Nat} {e : TypeId} {z : List LV} {qs : List (Nat × Nat × X)} {ps : Array (Nat × Operand)} {t : TypeId} (ho : o.op = .buildSlice t len ps) (hd : o.dst = some d) (hdn : d < n)
    (he : elemOf' P t = some e) (hsz : sz? P e = some sz) (hlen : len * sz ≤ 16777216) (hpos : 0 < sz) (hz : zLV P e = some z) (hzl : z.length = sz)
    (hq : cParts P n (fun i => some (i * sz, sz)) ps.toList = some qs) (hs : step (.bslice d sz len (List.replicate len z).flatten qs) s = some s') (sim : Sim x n s a w) : Good P x n o s' a w := by
  obtain ⟨A, μ, OH, Ot, ht, h0, hr, st⟩ := sim
  simp only [step, Option.map_eq_some_iff] at hs
  obtain ⟨zs, hf, rfl⟩ := hs
  obtain ⟨i, v, hi, hv, hrep, hone⟩ := zLV_ok hz
  have hvl : v.cells.size = sz := by rw [← Array.length_toList, (hrep A μ).length, hzl]
  have hrep2 := RepVals.flatten_replicate (hrep A μ) len
  obtain ⟨c', Oz', g1, g2, g3, g4, g5, g6⟩ := fill_rep (P := P) (n := n) (a := a) ps.toList qs s.t Ot (List.replicate len z).flatten zs ((List.replicate len v.cells.toList).flatten).toArray [] hq hr (by simpa using hrep2) (by
    intro c hc
    simp only [List.mem_flatten, List.mem_replicate] at hc
    obtain ⟨l, ⟨_, rfl⟩, hc⟩ := hc
    exact hone c hc) hf
  have hcs : c'.size = len * sz := by rw [g4]; simp [List.length_flatten, hvl]
  have hzsl : zs.length = len * sz := by rw [← g2.length, Array.length_toList, hcs]
  have hrun : (Instr.buildSlice t len (ps.map fun p => (p.1, a.eval p.2))).run P w = .ok (.slice (some ⟨w.heap.size, 0, none⟩) len len) { w with heap := w.heap.push (.cells c' e (0, 0)) } := by
    have hz1 : ((Array.range (len * sz)).map (fun i => v.cells[i % v.cells.size]!)) = ((List.replicate len v.cells.toList).flatten).toArray := by
      apply Array.toList_inj.1
      have := zeros_eq v.cells len (by omega)
      rw [hvl] at this
      simp only [hvl] at this ⊢
      rw [this]
    have g1' : Instr.fill (fun i => some (i * sz, sz)) ((List.replicate len v.cells.toList).flatten).toArray (ps.map fun p => (p.1, a.eval p.2)).toList = some c' := by
      rw [Array.toList_map]; exact g1
    unfold Instr.buildSlice
    by_cases hl0 : len = 0
    · subst hl0
      have e0 : Array.map (fun (_ : Nat) => (default : Value)) (Array.range 0) = #[] := by simp [Array.range]
      simp at g1'
      simp [run_underlying (elemOf_ok he), sizeOf_run hsz, newRow, e0, g1']
    · have hne : ¬ len * sz = 0 := by
        intro h
        rcases Nat.mul_eq_zero.1 h with h | h <;> omega
      have hz2 : (zeroValue e).run P w = .ok v w := by simp [zeroValue, typeInfo, hi, hv]
      rcases Nat.lt_or_ge 16777216 (len * sz) with g | g
      · omega
      · have hz3 : Array.map (fun x => v.cells[x % v.cells.size]!) (Array.range (len * sz)) = ((List.replicate len v.cells.toList).flatten).toArray := hz1
        simp only [Sem.run_bind, run_underlying (elemOf_ok he), Result.andThen_ok, sizeOf_run hsz]
        rw [if_neg (by simpa using g)]
        simp only [Sem.run_bind, hne, if_false, hz2, Result.andThen_ok, Sem.run_pure, pure_bind, hz3, g1']
        rfl
  refine good_value (v := .slice (some ⟨w.heap.size, 0, none⟩) len len) (w' := { w with heap := w.heap.push (.cells c' e (0, 0)) }) (by
    simp only [execOp, ho, Sem.run_bind]
    rw [hrun]; rfl) ?_
  rw [hd]
  have st' := st.newRow c' g3 e (len * sz) (allO n (upd (giveOAll Ot (qs.map fun p => p.2.2)) d ((w.heap.size, len * sz, c'.size) :: Oz'))) (fun p => by
    have k1 := count_upd p (giveOAll Ot (qs.map fun p => p.2.2)) d ((w.heap.size, len * sz, c'.size) :: Oz') n hdn
    have k2 := g6 p
    simp only [List.countP_cons, List.countP_nil] at k1 k2
    omega)
  have hle : A.Le (A.put w.heap.size 0 (len * sz) c') := GM.put_le (fun i _ => st.inv.unsettled (Nat.le_refl _) i)
  refine mk_put (ν := []) ht h0 g5 hle hdn ?_ (by rw [List.append_nil]; exact st')
  rw [List.append_nil]
  simp only [Rep]
  refine .inr ⟨trivial, w.heap.size, 0, none, len, Oz', by rw [chunks_length], .inl rfl, by rw [chunks_length]; exact Nat.le_refl _, RepRow.of_chunks len hzsl ?_, .inl ⟨trivial, rfl, by rw [chunks_length, hcs]⟩⟩
  have h3 := RepVals.mono (ν := []) hle zs c'.toList _ g2
  rw [List.append_nil] at h3
  refine RepCells.of h3 fun j u hj => ?_
  have hjl : j < c'.size := by
    rcases Nat.lt_or_ge j c'.size with g | g
    · exact g
    · rw [List.getElem?_eq_none (by simpa using g)] at hj; simp at hj
  refine ⟨?_, g3 u (List.mem_of_getElem? hj)⟩
  unfold GM.put
  rw [if_pos (by omega)]
  simpa using hj

theorem sound_mkslice {d sz k : Nat} {e : TypeId} {z : List LV} {t : TypeId} (ho : o.op = .makeSlice t (.tmp k) (.tmp k)) (hd : o.dst = some d) (hdn : d < n) (hk : k < n)
    (he : elemOf' P t = some e) (hsz : sz? P e = some sz) (hz : zLV P e = some z) (hzl : z.length = sz) (hpos : 0 < sz) (hby : P.bytesOf e ≤ 128)
    (hs : step (.mkslice d sz z (.t k)) s = some s') (sim : Sim x n s a w) : Good P x n o s' a w := by
  obtain ⟨A, μ, OH, Ot, ht, h0, hr, st⟩ := sim
  simp only [step] at hs
  split at hs
  · rename_i m hm
    split at hs
    · rename_i hc
      obtain ⟨hm0, hm1⟩ := hc
      simp only [Option.some.injEq] at hs
      subst hs
      obtain ⟨kk, hkk⟩ := intOf_rep hm (get_rep (y := .t k) (o := .tmp k) ⟨rfl, hk⟩ hr)
      obtain ⟨i, v, hi, hv, hrep, hone⟩ := zLV_ok hz
      have hvl : v.cells.size = sz := by rw [← Array.length_toList, (hrep A μ).length, hzl]
      have hby' : i.bytes ≤ 128 := by simpa [Program.bytesOf, hi] using hby
      obtain ⟨i2, hi2, hisz⟩ := sz_ok hsz
      rw [hi] at hi2
      obtain rfl : i = i2 := by simpa using hi2
      have hlarge : (i.bytes : Int) * m ≤ 281474976710656 := by
        have h1 : (i.bytes : Int) * m ≤ 128 * 1099511627776 := by
          refine Int.le_trans (Int.mul_le_mul_of_nonneg_right (show (i.bytes : Int) ≤ 128 by omega) hm0) ?_
          exact Int.mul_le_mul_of_nonneg_left hm1 (by omega)
        omega
      have hcells : madeCells v.cells (m.toNat * i.size) = ((List.replicate m.toNat v.cells.toList).flatten).toArray := by
        apply Array.toList_inj.1
        have := zeros_eq v.cells m.toNat (by omega)
        rw [hvl] at this
        unfold madeCells
        rw [hisz]
        simp only [hvl] at this ⊢
        exact this
      have hrun := run_make (P := P) w t e i v (elemOf_ok he) hi hv kk kk m m hm0 (Int.le_refl _) hlarge (show m ≤ 9223372036854775807 from by
        have : (most : Int) = 1099511627776 := rfl
        omega)
      rw [hcells] at hrun
      refine good_value (v := .slice (some ⟨w.heap.size, 0, none⟩) m.toNat m.toNat) (w' := { w with heap := w.heap.push (.cells ((List.replicate m.toNat v.cells.toList).flatten).toArray e (0, 0)) }) (by
        simp only [execOp, ho, Sem.run_bind, hkk]
        rw [hrun]; rfl) ?_
      rw [hd]
      have st' := st.newBox (List.replicate m.toNat v.cells.toList).flatten e (List.replicate m.toNat z).flatten [] (allO n (upd Ot d [])) (RepVals.flatten_replicate (hrep A μ) _) (by
          intro c hc
          simp only [List.mem_flatten, List.mem_replicate] at hc
          obtain ⟨l, ⟨_, rfl⟩, hc⟩ := hc
          exact hone c hc) (fun p => by
        have := count_upd p Ot d [] n hdn
        simp at this ⊢; omega)
      refine mk_put (ν := [w.heap.size]) (Od := []) ht h0 hr (fun _ _ _ h => h) hdn ?_ st'
      simp only [Rep]
      refine ⟨trivial, by simp [st.inv.len], ?_⟩
      rw [new_var_get st.inv.len, Nat.zero_mul]
    · simp at hs
  · simp at hs

theorem RepRow.app {A : GM} {μ : List Nat} : ∀ {xs ys : List (List LV)} {sz b off : Nat} {O1 O2 : List Own}, RepRow A μ xs sz b off O1 → RepRow A μ ys sz b (off + xs.length * sz) O2 → RepRow A μ (xs ++ ys) sz b off (O1 ++ O2)
  | [], ys, sz, b, off, O1, O2, h, k => by simp only [RepRow] at h; subst h; simpa using k
  | x :: xs, ys, sz, b, off, O1, O2, h, k => by
    simp only [RepRow] at h
    obtain ⟨P1, P2, rfl, h2, h3, h4⟩ := h
    simp only [List.cons_append, RepRow]
    refine ⟨P1, P2 ++ O2, by rw [List.append_assoc], h2, h3, RepRow.app h4 ?_⟩
    rw [show off + sz + xs.length * sz = off + (x :: xs).length * sz by simp [Nat.add_mul]; omega]
    exact k

theorem RepRow.vals {A : GM} {μ : List Nat} : ∀ {xs : List (List LV)} {sz b off : Nat} {O : List Own}, RepRow A μ xs sz b off O →
    ∃ vs, RepVals A μ xs.flatten vs O ∧ vs.length = xs.length * sz ∧ (∀ x ∈ xs, x.length = sz) ∧ ∀ j v, vs[j]? = some v → A b (off + j) = some v ∧ v.oneCell' = true
  | [], sz, b, off, O, h => ⟨[], by simp only [RepRow] at h; simp [RepVals, h], by simp, by simp, by simp⟩
  | x :: xs, sz, b, off, O, h => by
    simp only [RepRow] at h
    obtain ⟨O1, O2, rfl, h2, h3, h4⟩ := h
    obtain ⟨vs, g1, g2, g3, g4⟩ := RepRow.vals h4
    obtain ⟨us, k1, k2⟩ := h3.vals
    have kl := k1.length
    refine ⟨us ++ vs, by rw [List.flatten_cons]; exact RepVals.app k1 g1, by simp [kl, h2, g2, Nat.add_mul]; omega, by simpa [h2] using g3, fun j v hj => ?_⟩
    by_cases hju : j < us.length
    · rw [List.getElem?_append_left hju] at hj; exact k2 j v hj
    · rw [List.getElem?_append_right (by omega)] at hj
      have := g4 _ v hj
      rwa [show off + sz + (j - us.length) = off + j by omega] at this

theorem RepRow.of_vals {A : GM} {μ : List Nat} : ∀ {xs : List (List LV)} {sz b off : Nat} {vs : List Value} {O : List Own}, (∀ x ∈ xs, x.length = sz) → RepVals A μ xs.flatten vs O →
    (∀ j v, vs[j]? = some v → A b (off + j) = some v ∧ v.oneCell' = true) → RepRow A μ xs sz b off O
  | [], sz, b, off, vs, O, _, h, _ => by simp only [List.flatten_nil, RepVals] at h; simp [RepRow, h.2]
  | x :: xs, sz, b, off, vs, O, hl, h, hA => by
    rw [List.flatten_cons] at h
    obtain ⟨v1, v2, O1, O2, rfl, rfl, h1, h2⟩ := h.split
    have l1 := h1.length
    have lx := hl x (by simp)
    simp only [RepRow]
    refine ⟨O1, O2, rfl, lx, RepCells.of h1 fun j v hj => ?_, RepRow.of_vals (fun y hy => hl y (by simp [hy])) h2 fun j v hj => ?_⟩
    · refine hA j v ?_
      rw [List.getElem?_append_left]
      · exact hj
      · rcases Nat.lt_or_ge j v1.length with g | g
        · exact g
        · rw [List.getElem?_eq_none g] at hj; simp at hj
    · have := hA (sz + j) v (by rw [List.getElem?_append_right (by omega), show sz + j - v1.length = j by omega]; exact hj)
      rwa [← Nat.add_assoc] at this

/-- a slice's cells, as a list -/
theorem slice_cells {A : GM} {μ : List Nat} {u nil : Bool} {sz : Nat} {xs : List (List LV)} {v : Value} {O : List Own} (h : Rep A μ (.sl u nil sz xs) v O) :
    ∃ (base : Option Addr) (cap : Nat) (vs : List Value) (O' : List Own), v = .slice base xs.length cap ∧ xs.length ≤ cap ∧ RepVals A μ xs.flatten vs O' ∧ vs.length = xs.length * sz ∧ (∀ x ∈ xs, x.length = sz) ∧
      (∀ p : Own → Bool, O'.countP p ≤ O.countP p) ∧ (∀ c ∈ vs, c.oneCell' = true) ∧ (nil = base.isNone) ∧ (nil = true → cap = 0) ∧
      (∀ (w : World), (∀ b i v, A b i = some v → w.cell? ⟨b, i, none⟩ = some v) → ∀ ad, base = some ad → ∀ j v, vs[j]? = some v → w.cell? (ad.add j) = some v) ∧
      (∀ ad, base = some ad → RepRow A μ xs sz ad.block ad.off O' ∧ (u = true → cap = 0 ∨ (ad.off = 0 ∧ ad.spot = none ∧ O = (ad.block, xs.length * sz, cap * sz) :: O'))) := by
  simp only [Rep] at h
  rcases h with ⟨rfl, rfl, rfl, rfl⟩ | ⟨rfl, b, off, sp, cap, O', rfl, hsp, hcap, hrow, hO⟩
  · exact ⟨none, 0, [], [], rfl, by simp, by simp [RepVals], by simp, by simp, by simp, by simp, rfl, by simp, by simp, by simp⟩
  · obtain ⟨vs, g1, g2, g3, g4⟩ := hrow.vals
    refine ⟨some ⟨b, off, sp⟩, cap, vs, O', rfl, hcap, g1, g2, g3, ?_, fun c hc => ?_, rfl, by simp, fun w hw ad had j v hj => ?_, fun ad had => ?_⟩
    · intro p
      rcases hO with ⟨_, _, rfl⟩ | ⟨_, rfl⟩
      · simp only [List.countP_cons]; omega
      · exact Nat.le_refl _
    · obtain ⟨j, hj⟩ := List.getElem?_of_mem hc
      exact (g4 j c hj).2
    · obtain rfl : ad = ⟨b, off, sp⟩ := by simpa using had.symm
      have hsp : sp = none := hsp.resolve_right (fun h => by
        rw [h.1] at g2
        simp at g2
        rw [g2] at hj
        simp at hj)
      subst hsp
      rw [addr_add]
      exact hw _ _ _ (g4 j v hj).1
    · obtain rfl : ad = ⟨b, off, sp⟩ := by simpa using had.symm
      refine ⟨hrow, fun hu => ?_⟩
      rcases hO with ⟨_, h0, rfl⟩ | ⟨h1, _⟩
      · rcases hsp with hsp | ⟨_, hsp⟩
        · exact .inr ⟨h0, hsp, rfl⟩
        · rcases hsp with hsp | hsp
          · rw [hsp] at hu; simp at hu
          · exact .inl hsp
      · rcases h1 with h1 | h1
        · rw [h1] at hu; simp at hu
        · exact .inl h1
end

end Go.TL
