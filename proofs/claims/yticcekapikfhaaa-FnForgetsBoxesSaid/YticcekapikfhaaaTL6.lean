/- The instructions say what the operations do: variables, loads and stores. No program, no conditions. -/
import Derived.Test.YticcekapikfhaaaTL5
namespace Go.TL

theorem zCell_rep {v : Value} {l : LV} (h : zCell v = some l) (A : GM) (μ : List Nat) : Rep A μ l v [] ∧ v.oneCell' = true := by
  unfold zCell at h
  split at h <;> first
    | (simp only [Option.some.injEq] at h; subst h; simp [Rep, Value.oneCell']; done)
    | (simp at h; done)

theorem zCells_rep : ∀ {vs : List Value} {ls : List LV}, zCells vs = some ls → ∀ (A : GM) (μ : List Nat), RepVals A μ ls vs [] ∧ ∀ v ∈ vs, v.oneCell' = true
  | [], ls, h, A, μ => by simp only [zCells, Option.some.injEq] at h; subst h; simp [RepVals]
  | v :: vs, ls, h, A, μ => by
    simp only [zCells] at h
    split at h
    · rename_i x xs hx hxs
      simp only [Option.some.injEq] at h; subst h
      obtain ⟨h1, h2⟩ := zCell_rep hx A μ
      obtain ⟨h3, h4⟩ := zCells_rep hxs A μ
      exact ⟨by simp only [RepVals]; exact ⟨v, vs, [], [], rfl, rfl, h1, h3⟩, by simp [h2]; exact h4⟩
    · simp at h

theorem zLV_ok {P : Program} {t : TypeId} {z : List LV} (h : zLV P t = some z) :
    ∃ i v, P.info? t = some i ∧ i.zero = some v ∧ (∀ (A : GM) (μ : List Nat), RepVals A μ z v.cells.toList []) ∧ ∀ c ∈ v.cells.toList, c.oneCell' = true := by
  unfold zLV at h
  split at h
  · rename_i i hi
    split at h
    · rename_i v hv
      exact ⟨i, v, hi, hv, fun A μ => (zCells_rep h A μ).1, (zCells_rep h (fun _ _ => none) []).2⟩
    · simp at h
  · simp at h

theorem isAggB_ok {P : Program} {t : TypeId} {b : Bool} (h : isAggB P t = some b) (w : World) : (isAgg t).run P w = .ok b w := by
  unfold isAggB at h
  unfold isAgg underlying
  split at h
  · rename_i fs hu; simp at h; subst h; simp [hu]
  · rename_i k e hu; simp at h; subst h; simp [hu]
  · rename_i d h1 h2 hu
    simp at h; subst h; simp [hu]
  · simp at h

theorem sz_ok {P : Program} {t : TypeId} {s : Nat} (h : sz? P t = some s) : ∃ i, P.info? t = some i ∧ i.size = s := by
  unfold sz? at h
  simpa [Option.map_eq_some_iff] using h

theorem sizeOf_run {P : Program} {t : TypeId} {s : Nat} (h : sz? P t = some s) (w : World) : (sizeOf t).run P w = .ok s w := by
  obtain ⟨i, hi, rfl⟩ := sz_ok h
  simp [sizeOf, typeInfo, hi]

theorem addr_add (b o i : Nat) : (⟨b, o, none⟩ : Addr).add i = ⟨b, o + i, none⟩ := by
  unfold Addr.add; split <;> simp_all

section
variable {P : Program} {x : Cx} {n : Nat} {o : Oper} {s s' : St} {a : Act} {w : World}

theorem new_var_get {μ : List Nat} {h : List Box} {k : Nat} (hl : μ.length = h.length) : (μ ++ [k]).getD h.length 0 = k := by
  rw [List.getD_eq_getElem?_getD, List.getElem?_append_right (by omega)]
  simp [hl]

theorem sound_alloc {d : Nat} {z : List LV} {e : TypeId} (ho : o.op = .alloc e) (hd : o.dst = some d) (hdn : d < n) (hz : zLV P e = some z)
    (hs : step (.alloc d z) s = some s') (sim : Sim x n s a w) : Good P x n o s' a w := by
  obtain ⟨A, μ, OH, Ot, ht, h0, hr, st⟩ := sim
  simp only [step, Option.some.injEq] at hs
  subst hs
  obtain ⟨i, v, hi, hv, hrep, hone⟩ := zLV_ok hz
  refine good_value (v := .pointer (some ⟨w.heap.size, 0, none⟩)) (w' := { w with heap := w.heap.push (.cells v.cells e (0, 0)) }) (by
    simp [execOp, ho, Instr.alloc, zeroValue, typeInfo, hi, hv, newVar, newRow]) ?_
  rw [hd]
  have st' := st.newBox v.cells.toList e z [] (allO n (upd Ot d [])) (hrep A μ) hone (fun p => by
    have := count_upd p Ot d [] n hdn
    simp at this ⊢; omega)
  refine mk_put (ν := [w.heap.size]) (Od := []) ht h0 hr (fun _ _ _ h => h) hdn ?_ st'
  simp only [Rep]
  refine ⟨trivial, by simp [st.inv.len], ?_⟩
  rw [new_var_get st.inv.len]

theorem sound_box {d : Nat} {y : X} {u : Operand} {e : TypeId} (ho : o.op = .box e u) (hd : o.dst = some d) (hdn : d < n) (hy : XOk n y u)
    (hs : step (.box d y) s = some s') (sim : Sim x n s a w) : Good P x n o s' a w := by
  obtain ⟨A, μ, OH, Ot, ht, h0, hr, st⟩ := sim
  simp only [step] at hs
  split at hs
  · rename_i hflat
    simp only [Option.some.injEq] at hs
    subst hs
    obtain ⟨hrep, hone⟩ := cells_rep hflat (get_rep hy hr)
    refine good_value (v := .pointer (some ⟨w.heap.size, 0, none⟩)) (w' := { w with heap := w.heap.push (.cells (a.eval u).cells e (0, 0)) }) (by
      simp [execOp, ho, Instr.box, newVar, newRow]) ?_
    rw [hd]
    have st' := st.newBox (a.eval u).cells.toList e _ (getO Ot y) (allO n (upd (giveO Ot y) d [])) hrep hone (fun p => by
      have h1 := count_upd p (giveO Ot y) d [] n hdn
      have h2 := give_count (Ot := Ot) hy p
      simp at h1 ⊢; omega)
    refine mk_put (ν := [w.heap.size]) (Od := []) ht h0 (give_rep y hr) (fun _ _ _ h => h) hdn ?_ st'
    simp only [Rep]
    refine ⟨trivial, by simp [st.inv.len], ?_⟩
    rw [new_var_get st.inv.len]
  · simp at hs

theorem ofCells_rep {A : GM} {μ : List Nat} {agg : Bool} {xs : List LV} {v : LV} {vs : List Value} {O : List Own} (h : ofCells agg xs = some v) (hr : RepVals A μ xs vs O)
    (h1 : ∀ c ∈ vs, c.oneCell' = true) : ∃ u, Rep A μ v u O ∧ u = (if agg then .agg vs.toArray else vs.headD undef) ∧ (agg = false → vs = [u]) := by
  unfold ofCells at h
  cases agg with
  | true =>
    simp only [if_true, Option.some.injEq] at h
    subst h
    exact ⟨_, by simp only [Rep]; exact ⟨vs, rfl, h1, hr⟩, rfl, by simp⟩
  | false =>
    simp only [Bool.false_eq_true, if_false] at h
    split at h
    · simp only [Option.some.injEq] at h
      subst h
      simp only [RepVals] at hr
      obtain ⟨u, ws, O1, O2, rfl, rfl, h3, rfl, rfl⟩ := hr
      exact ⟨u, by simpa using h3, by simp, fun _ => rfl⟩
    · simp at h

/-- a load out of cells that are known -/
theorem load_run {t : TypeId} {agg : Bool} {sz b off : Nat} {vs : List Value} (ha : isAggB P t = some agg) (hsz : sz? P t = some sz) (hl : vs.length = sz)
    (hc : ∀ j v, vs[j]? = some v → w.cell? ⟨b, off + j, none⟩ = some v) (h1 : agg = false → ∃ u, vs = [u]) :
    (loadVar t ⟨b, off, none⟩).run P w = .ok (if agg then .agg vs.toArray else vs.headD undef) w := by
  unfold loadVar
  rw [Sem.run_bind, isAggB_ok ha w]
  cases agg with
  | true =>
    simp only [Result.andThen_ok, if_true]
    rw [Sem.run_bind, sizeOf_run hsz w]
    simp only [Result.andThen_ok, Sem.run_bind]
    have := run_loadCells_list (P := P) (w := w) ⟨b, off, none⟩ vs (fun j v hj => by rw [addr_add]; exact hc j v hj)
    rw [hl] at this
    rw [this]
    simp
  | false =>
    obtain ⟨u, rfl⟩ := h1 rfl
    have := hc 0 u (by simp)
    simp only [Nat.add_zero] at this
    simp [this]
theorem drop_take_get {vs : List Value} {o m j : Nat} {v : Value} (h : ((vs.drop o).take m)[j]? = some v) : vs[o + j]? = some v := by
  rw [List.getElem?_take] at h
  split at h
  · rwa [List.getElem?_drop] at h
  · simp at h

theorem ofCells_len {agg : Bool} {xs : List LV} {v : LV} (h : ofCells agg xs = some v) (ha : agg = false) : xs.length = 1 := by
  unfold ofCells at h
  subst ha
  simp only [Bool.false_eq_true, if_false] at h
  split at h
  · rfl
  · simp at h

theorem sound_load {d sz : Nat} {m : Md} {agg : Bool} {y : X} {u : Operand} {t : TypeId} (ho : o.op = .load t u) (hd : o.dst = some d) (hdn : d < n) (hy : XOk n y u)
    (ha : isAggB P t = some agg) (hsz : sz? P t = some sz) (hs : step (.load d m agg sz y) s = some s') (sim : Sim x n s a w) : Good P x n o s' a w := by
  obtain ⟨A, μ, OH, Ot, ht, h0, hr, st⟩ := sim
  have hrep := get_rep hy hr
  have hexec : ∀ (ad : Addr) (v : Value), a.eval u = .pointer (some ad) → (loadVar t ad).run P w = .ok v w → (execOp a.eval o).run P w = .ok (.value v) w := by
    intro ad v hu hv
    simp [execOp, ho, Instr.loadAt, hu, Instr.sureAddr, hv]
  simp only [step] at hs
  split at hs
  · -- a variable
    rename_i l off hg
    rw [hg] at hrep
    simp only [Rep] at hrep
    obtain ⟨_, hlμ, hu⟩ := hrep
    split at hs
    · simp at hs
    split at hs
    · rename_i xs hl
      split at hs
      · rename_i hle
        obtain ⟨hle, _⟩ := hle
        split at hs
        · rename_i v hv
          obtain ⟨c, e, hc, hxs, hone⟩ := st.inv.box l xs hl
          have hlen := hxs.length
          have hcell : ∀ j v', ((c.toList.drop off).take sz)[j]? = some v' → w.cell? ⟨μ.getD l 0, off + j, none⟩ = some v' := by
            intro j v' hj
            rw [cell_of_block hc, ← Array.getElem?_toList]
            exact drop_take_get hj
          have hlen2 : ((c.toList.drop off).take sz).length = sz := by simp at hlen ⊢; omega
          have hone2 : ∀ v' ∈ (c.toList.drop off).take sz, v'.oneCell' = true := fun v' hv' => hone v' (List.mem_of_mem_drop (List.mem_of_mem_take hv'))
          have hsl := RepVals.splice (ys := List.replicate sz .dead) (ws := (c.toList.drop off).take sz) (Oy := []) hxs (by
            have := RepVals.dead (A := A) (μ := μ) ((c.toList.drop off).take sz)
            rwa [hlen2] at this) off (by simp; omega)
          obtain ⟨O', hO', _, O1, O2, O3, hO, hO'', hpart⟩ := hsl
          rw [List.length_replicate] at hO' hpart
          obtain ⟨uv, huv, hue, hu1⟩ := ofCells_rep hv hpart hone2
          have hrun := load_run (P := P) (w := w) (vs := (c.toList.drop off).take sz) ha hsz hlen2 hcell (fun h => ⟨uv, hu1 h⟩)
          rw [← hue] at hrun
          have hex := hexec _ _ hu hrun
          split at hs
          · simp only [Option.some.injEq] at hs
            subst hs
            refine good_value hex ?_
            rw [hd]
            exact put_same ht h0 hr hdn (Rep.share _ _ _ huv) st (fun p => by simp)
          · simp only [Option.some.injEq] at hs
            subst hs
            refine good_value hex ?_
            rw [hd]
            have hsame : c.toList.take off ++ (c.toList.drop off).take sz ++ c.toList.drop (off + sz) = c.toList := by
              rw [List.append_assoc, ← List.drop_drop, List.take_append_drop, List.take_append_drop]
            rw [hsame] at hO'
            have st' := st.setBox hl c e (splice xs off (List.replicate sz .dead)) O' (allO n (upd Ot d O2)) hO' hone (fun p => by
              have h1 := count_upd p Ot d O2 n hdn
              rw [hO, hO'']
              simp only [List.countP_append, List.countP_nil]
              omega)
            rw [heap_set_self hc] at st'
            have := mk_put (x := x) (w' := w) (ν := []) (B := A) (lv := v) (v := uv) (Od := O2) ht h0 hr (fun _ _ _ h => h) hdn (by simpa using huv) (by
              rw [List.append_nil]; exact st')
            exact this
        · simp at hs
      · simp at hs
    · simp at hs
  · -- settled cells
    rename_i ys hg
    rw [hg] at hrep
    simp only [Rep] at hrep
    obtain ⟨b, off, hu, hc⟩ := hrep
    split at hs
    · rename_i hle
      split at hs
      · rename_i v hv
        obtain ⟨vs, hvs, hA⟩ := hc.vals
        have hlen := hvs.length
        obtain ⟨O1, O2, O3, _, _, hpart, _⟩ := hvs.mid 0 sz (by omega)
        simp only [List.drop_zero] at hpart
        have hcell : ∀ j v', (vs.take sz)[j]? = some v' → w.cell? ⟨b, off + j, none⟩ = some v' := by
          intro j v' hj
          refine st.inv.cells _ _ _ (hA j v' ?_).1
          rw [List.getElem?_take] at hj
          split at hj
          · exact hj
          · simp at hj
        have hone2 : ∀ v' ∈ vs.take sz, v'.oneCell' = true := by
          intro v' hv'
          obtain ⟨j, hj⟩ := List.getElem?_of_mem (List.mem_of_mem_take hv')
          exact (hA j v' hj).2
        obtain ⟨uv, huv, hue, hu1⟩ := ofCells_rep hv hpart hone2
        have hrun := load_run (P := P) (w := w) (vs := vs.take sz) ha hsz (by simp; omega) hcell (fun h => ⟨uv, hu1 h⟩)
        rw [← hue] at hrun
        have hex := hexec _ _ hu hrun
        simp only [Option.some.injEq] at hs
        subst hs
        refine good_value hex ?_
        rw [hd]
        exact put_same ht h0 hr hdn (Rep.share _ _ _ huv) st (fun p => by simp)
      · simp at hs
    · simp at hs
  · simp at hs

theorem sound_store {sz : Nat} {y z : X} {u v : Operand} {t : TypeId} (ho : o.op = .store t u v) (hd : o.dst = none) (hy : XOk n y u) (hz : XOk n z v)
    (hsz : sz? P t = some sz) (hs : step (.store sz y z) s = some s') (sim : Sim x n s a w) : Good P x n o s' a w := by
  obtain ⟨A, μ, OH, Ot, ht, h0, hr, st⟩ := sim
  have hrep := get_rep hy hr
  have hexec : ∀ (ad : Addr) (w' : World), a.eval u = .pointer (some ad) → (storeVar t ad (a.eval v)).run P w = .ok () w' → (execOp a.eval o).run P w = .ok .skip w' := by
    intro ad w' hu hv
    simp [execOp, ho, Instr.storeAt, hu, Instr.sureAddr, hv]
  simp only [step] at hs
  split at hs
  · rename_i l off hg
    rw [hg] at hrep
    simp only [Rep] at hrep
    obtain ⟨_, hlμ, hu⟩ := hrep
    split at hs
    · rename_i xs hl
      split at hs
      · rename_i hcond
        obtain ⟨hflat, hcl, hle⟩ := hcond
        simp only [Option.some.injEq] at hs
        subst hs
        obtain ⟨hvc, hvone⟩ := cells_rep hflat (get_rep hz hr)
        obtain ⟨c, e, hc, hxs, hone⟩ := st.inv.box l xs hl
        have hlen := hxs.length
        have hvl := hvc.length
        rw [hcl] at hvl
        obtain ⟨O', hO', hOle, _⟩ := RepVals.splice hxs hvc off (by omega)
        have hcs : off + (a.eval v).cells.toList.length ≤ c.size := by
          rw [Array.length_toList] at hlen; omega
        have hrun : (storeVar t ⟨μ.getD l 0, off, none⟩ (a.eval v)).run P w = .ok () { w with heap := w.heap.setIfInBounds (μ.getD l 0) (.cells (putAll c off (a.eval v).cells.toList) e (0, 0)) } := by
          unfold storeVar
          rw [Sem.run_bind, sizeOf_run hsz w]
          simp only [Result.andThen_ok]
          rw [if_neg (by rw [← Array.length_toList]; omega)]
          have := run_store_block (P := P) (b := μ.getD l 0) (off := off) (e := e) (a.eval v).cells.toList 0 c w hc hvone (by omega)
          simpa using this
        refine good_skip (hexec _ _ hu hrun) ?_
        rw [hd]
        have htl : (putAll c off (a.eval v).cells.toList).toList = c.toList.take off ++ (a.eval v).cells.toList ++ c.toList.drop (off + (get s.t z).cells.length) := by
          rw [putAll_toList _ _ _ hcs, hcl, hvl]
        have st' := st.setBox hl (putAll c off (a.eval v).cells.toList) e (splice xs off (get s.t z).cells) O' (allO n (giveO Ot z)) (by
            rw [htl]; exact hO') (by
            rw [htl]
            intro c' hc'
            rcases List.mem_append.1 hc' with hc' | hc'
            · rcases List.mem_append.1 hc' with hc' | hc'
              · exact hone _ (List.mem_of_mem_take hc')
              · exact hvone _ hc'
            · exact hone _ (List.mem_of_mem_drop hc')) (fun p => by
            have h1 := give_count (Ot := Ot) hz p
            have h2 := hOle p
            omega)
        exact ⟨A, μ, _, giveO Ot z, by simpa [Act.put] using ht, by simpa [Act.put] using h0, give_rep z hr, st'⟩
      · simp at hs
    · simp at hs
  · simp at hs
end

end Go.TL
