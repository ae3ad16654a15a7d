/- The instructions say what the operations do: parts of values, places of fields and elements, cuts. No program, no conditions. -/
import Derived.Test.YticcekapikfhaaaTL7
namespace Go.TL

section
variable {A : GM} {μ : List Nat}

theorem RepRow.get : ∀ {xs : List (List LV)} {sz b off : Nat} {O : List Own}, RepRow A μ xs sz b off O → ∀ i, i < xs.length →
    ∃ O', RepCells A μ (xs.getD i []) b (off + i * sz) O' ∧ (xs.getD i []).length = sz
  | [], _, _, _, _, _, i, hi => by simp at hi
  | x :: xs, sz, b, off, O, h, i, hi => by
    simp only [RepRow] at h
    obtain ⟨O1, O2, rfl, h2, h3, h4⟩ := h
    cases i with
    | zero => exact ⟨O1, by simpa using h3, by simpa using h2⟩
    | succ i =>
      obtain ⟨O', h5, h6⟩ := RepRow.get h4 i (by simpa using hi)
      refine ⟨O', ?_, by simpa using h6⟩
      rw [show off + (i + 1) * sz = off + sz + i * sz by rw [Nat.add_mul]; omega]
      simpa using h5

theorem RepRow.take : ∀ {xs : List (List LV)} {sz b off : Nat} {O : List Own}, RepRow A μ xs sz b off O → ∀ m, ∃ O', RepRow A μ (xs.take m) sz b off O'
  | [], _, _, _, _, _, m => ⟨[], by simp [RepRow]⟩
  | x :: xs, sz, b, off, O, h, 0 => ⟨[], by simp [RepRow]⟩
  | x :: xs, sz, b, off, O, h, m + 1 => by
    simp only [RepRow] at h
    obtain ⟨O1, O2, rfl, h2, h3, h4⟩ := h
    obtain ⟨O', h5⟩ := RepRow.take h4 m
    exact ⟨O1 ++ O', by simp only [List.take_succ_cons, RepRow]; exact ⟨O1, O', rfl, h2, h3, h5⟩⟩

theorem RepRow.drop : ∀ {xs : List (List LV)} {sz b off : Nat} {O : List Own}, RepRow A μ xs sz b off O → ∀ m, m ≤ xs.length → ∃ O', RepRow A μ (xs.drop m) sz b (off + m * sz) O'
  | xs, _, _, _, O, h, 0, _ => ⟨O, by simpa using h⟩
  | [], _, _, _, _, _, m + 1, hm => by simp at hm
  | x :: xs, sz, b, off, O, h, m + 1, hm => by
    simp only [RepRow] at h
    obtain ⟨O1, O2, rfl, h2, h3, h4⟩ := h
    obtain ⟨O', h5⟩ := RepRow.drop h4 m (by simpa using hm)
    refine ⟨O', ?_⟩
    rw [show off + (m + 1) * sz = off + sz + m * sz by rw [Nat.add_mul]; omega]
    simpa using h5

theorem RepVals.get : ∀ {xs : List LV} {vs : List Value} {O : List Own}, RepVals A μ xs vs O → ∀ k x, xs[k]? = some x →
    ∃ v O1 O2 O3, vs[k]? = some v ∧ O = O1 ++ O2 ++ O3 ∧ Rep A μ x v O2 ∧ RepVals A μ (xs.set k (TL.share x)) vs (O1 ++ O3)
  | [], _, _, _, k, x, hk => by simp at hk
  | y :: xs, vs, O, h, 0, x, hk => by
    simp only [RepVals] at h
    obtain ⟨v, ws, O1, O2, rfl, rfl, h3, h4⟩ := h
    simp at hk; subst hk
    refine ⟨v, [], O1, O2, by simp, by simp, h3, ?_⟩
    simp only [List.set_cons_zero, RepVals]
    exact ⟨v, ws, [], O2, rfl, rfl, Rep.share _ _ _ h3, h4⟩
  | y :: xs, vs, O, h, k + 1, x, hk => by
    simp only [RepVals] at h
    obtain ⟨v, ws, O1, O2, rfl, rfl, h3, h4⟩ := h
    obtain ⟨u, P1, P2, P3, h5, rfl, h6, h7⟩ := RepVals.get h4 k x (by simpa using hk)
    refine ⟨u, O1 ++ P1, P2, P3, by simpa using h5, by simp [List.append_assoc], h6, ?_⟩
    simp only [List.set_cons_succ, RepVals]
    exact ⟨v, ws, O1, P1 ++ P3, rfl, by simp [List.append_assoc], h3, h7⟩

theorem RepCells.drop {ys : List LV} {b off : Nat} {O : List Own} (h : RepCells A μ ys b off O) (m : Nat) (hm : m ≤ ys.length) : ∃ O', RepCells A μ (ys.drop m) b (off + m) O' := by
  obtain ⟨vs, hv, hA⟩ := h.vals
  have hl := hv.length
  have e : ys = ys.take m ++ ys.drop m := (List.take_append_drop m ys).symm
  rw [e] at hv
  obtain ⟨v1, v2, O1, O2, rfl, rfl, h1, h2⟩ := hv.split
  have l1 := h1.length
  refine ⟨O2, RepCells.of h2 fun j v hj => ?_⟩
  have := hA (m + j) v (by
    rw [List.getElem?_append_right (by simp at l1; omega)]
    rw [show m + j - v1.length = j by simp at l1; omega]; exact hj)
  rwa [← Nat.add_assoc] at this
end

section
variable {P : Program} {x : Cx} {n : Nat} {o : Oper} {s s' : St} {a : Act} {w : World}

theorem sound_fieldA {d f sz : Nat} {g : Field} {y : X} {u : Operand} {t : TypeId} (ho : o.op = .fieldAddr t u f) (hd : o.dst = some d) (hdn : d < n) (hy : XOk n y u)
    (hg : fieldOf P t f = some g) (hsz : sz? P g.type = some sz) (hz : sz ≠ 0) (hs : step (.fieldA d g.offset y) s = some s') (sim : Sim x n s a w) : Good P x n o s' a w := by
  obtain ⟨A, μ, OH, Ot, ht, h0, hr, st⟩ := sim
  have hrep := get_rep hy hr
  have hexec : ∀ b off, a.eval u = .pointer (some ⟨b, off, none⟩) → (execOp a.eval o).run P w = .ok (.value (.pointer (some ⟨b, off + g.offset, none⟩))) w := by
    intro b off hu
    unfold fieldOf at hg
    split at hg
    · rename_i fs hfs
      simp [execOp, ho, Instr.fieldAt, run_underlying hfs, hg, hu, Instr.sureAddr, fieldPlace, sizeOf_run hsz, hz, addr_add]
    · simp at hg
  simp only [step] at hs
  split at hs
  · rename_i l off hg2
    simp only [Option.some.injEq] at hs
    subst hs
    rw [hg2] at hrep
    simp only [Rep] at hrep
    refine good_value (hexec _ _ hrep.2.2) ?_
    rw [hd]
    exact put_same ht h0 hr hdn (Od := []) (by simp only [Rep]; exact ⟨trivial, hrep.2.1, trivial⟩) st (fun p => by simp)
  · rename_i ys hg2
    split at hs
    · rename_i hle
      simp only [Option.some.injEq] at hs
      subst hs
      rw [hg2] at hrep
      simp only [Rep] at hrep
      obtain ⟨b, off, hu, hc⟩ := hrep
      obtain ⟨O', hc'⟩ := hc.drop g.offset hle
      refine good_value (hexec _ _ hu) ?_
      rw [hd]
      exact put_same ht h0 hr hdn (Rep.share (.rp (ys.drop g.offset)) _ O' (by simp only [Rep]; exact ⟨b, _, rfl, hc'⟩)) st (fun p => by simp)
    · simp at hs
  · simp at hs

theorem part_run {t : TypeId} {agg : Bool} {sz off : Nat} {cs : Array Value} {vs : List Value} (ha : isAggB P t = some agg) (hsz : sz? P t = some sz) (hvs : vs = (cs.toList.drop off).take sz)
    (h1 : agg = false → ∃ u, vs = [u]) : (part t cs off).run P w = .ok (if agg then .agg vs.toArray else vs.headD undef) w := by
  unfold part
  rw [Sem.run_bind, isAggB_ok ha w]
  cases agg with
  | true =>
    simp only [Result.andThen_ok, if_true]
    rw [Sem.run_bind, sizeOf_run hsz w]
    simp only [Result.andThen_ok]
    have : cs.extract off (off + sz) = vs.toArray := by
      apply Array.toList_inj.1
      rw [hvs]
      simp [Array.toList_extract]
    rw [this]; rfl
  | false =>
    obtain ⟨u, hu⟩ := h1 rfl
    rw [hu] at hvs
    have hc : cs[off]? = some u := by
      have h2 : ((cs.toList.drop off).take sz)[0]? = some u := by rw [← hvs]; rfl
      have := drop_take_get h2
      simpa using this
    simp [hc, hu]

theorem sound_field {d f sz : Nat} {agg : Bool} {g : Field} {y : X} {u : Operand} {t : TypeId} (ho : o.op = .field t u f) (hd : o.dst = some d) (hdn : d < n) (hy : XOk n y u)
    (hg : fieldOf P t f = some g) (ha : isAggB P g.type = some agg) (hsz : sz? P g.type = some sz) (hs : step (.field d agg g.offset sz y) s = some s') (sim : Sim x n s a w) : Good P x n o s' a w := by
  obtain ⟨A, μ, OH, Ot, ht, h0, hr, st⟩ := sim
  have hrep := get_rep hy hr
  simp only [step] at hs
  split at hs
  · rename_i xs hg2
    rw [hg2] at hrep
    simp only [Rep] at hrep
    obtain ⟨vs, hu, hone, hvs⟩ := hrep
    split at hs
    · rename_i hle
      split at hs
      · rename_i v hv
        simp only [Option.some.injEq] at hs
        subst hs
        obtain ⟨O1, O2, O3, _, _, hpart, _⟩ := hvs.mid g.offset sz hle
        obtain ⟨uv, huv, hue, hu1⟩ := ofCells_rep hv hpart (fun c hc => hone c (List.mem_of_mem_drop (List.mem_of_mem_take hc)))
        have hrun := part_run (P := P) (w := w) (cs := vs.toArray) (off := g.offset) ha hsz rfl (fun h => ⟨uv, hu1 h⟩)
        rw [← hue] at hrun
        refine good_value (v := uv) (w' := w) (by
          unfold fieldOf at hg
          split at hg
          · rename_i fs hfs
            simp [execOp, ho, Instr.field, run_underlying hfs, hg, hu, asAgg, hrun]
          · simp at hg) ?_
        rw [hd]
        exact put_same ht h0 hr hdn (Rep.share _ _ _ huv) st (fun p => by simp)
      · simp at hs
    · simp at hs
  · simp at hs

theorem elemOf_ok {t e : TypeId} (h : elemOf' P t = some e) : P.underlying t = some (.slice e) := by
  unfold elemOf' at h
  split at h
  · simp at h; subst h; assumption
  · simp at h

theorem sound_indexA {d sz : Nat} {e : TypeId} {y z : X} {u v : Operand} {t : TypeId} (ho : o.op = .indexAddr t u v) (hd : o.dst = some d) (hdn : d < n) (hy : XOk n y u) (hz : XOk n z v)
    (he : elemOf' P t = some e) (hsz : sz? P e = some sz) (hs : step (.indexA d sz y z) s = some s') (sim : Sim x n s a w) : Good P x n o s' a w := by
  obtain ⟨A, μ, OH, Ot, ht, h0, hr, st⟩ := sim
  have hry := get_rep hy hr
  have hrz := get_rep hz hr
  have hexec : ∀ b off len cap k (i : Int), a.eval u = .slice (some ⟨b, off, none⟩) len cap → a.eval v = .int k i → 0 ≤ i → i < len →
      (execOp a.eval o).run P w = .ok (.value (.pointer (some ⟨b, off + i.toNat * sz, none⟩))) w := by
    intro b off len cap k i hu hv h1 h2
    simp [execOp, ho, Instr.indexAt, run_underlying (elemOf_ok he), hu, hv, asIntOf, h1, h2, sizeOf_run hsz, addr_add]
  simp only [step] at hs
  split at hs
  · rename_i u' nil sz' xs i hg1 hg2
    split at hs
    · rename_i hc
      obtain ⟨rfl, hi0, hi1⟩ := hc
      simp only [Option.some.injEq] at hs
      subst hs
      rw [hg1] at hry
      obtain ⟨k, hk⟩ := intOf_rep hg2 hrz
      simp only [Rep] at hry
      rcases hry with ⟨_, _, rfl, _⟩ | ⟨_, b, off, sp, cap, O', hu, hsp, _, hrow, _⟩
      · simp at hi1; omega
      · have hsp : sp = none := hsp.resolve_right (fun h => by rw [h.1] at hi1; simp at hi1; omega)
        subst hsp
        refine good_value (hexec b off xs.length cap k i hu hk hi0 hi1) ?_
        rw [hd]
        obtain ⟨O2, h5, h6⟩ := hrow.get i.toNat (by omega)
        exact put_same ht h0 hr hdn (Rep.share (.rp (xs.getD i.toNat [])) _ O2 (by simp only [Rep]; exact ⟨b, _, rfl, h5⟩)) st (fun p => by simp)
    · simp at hs
  · rename_i l sz' off m i hg1 hg2
    split at hs
    · rename_i hc
      obtain ⟨rfl, hi0, hi1⟩ := hc
      simp only [Option.some.injEq] at hs
      subst hs
      rw [hg1] at hry
      obtain ⟨k, hk⟩ := intOf_rep hg2 hrz
      simp only [Rep] at hry
      obtain ⟨_, hl, hu⟩ := hry
      refine good_value (hexec _ _ _ m k i hu hk hi0 hi1) ?_
      rw [hd]
      refine put_same ht h0 hr hdn (Od := []) ?_ st (fun p => by simp)
      simp only [Rep]
      exact ⟨trivial, hl, by rw [Nat.add_mul]⟩
    · simp at hs
  · simp at hs

theorem sound_extract {d k : Nat} {y : X} {u : Operand} (ho : o.op = .extract u k) (hd : o.dst = some d) (hdn : d < n) (hy : XOk n y u)
    (hs : step (.extract d k y) s = some s') (sim : Sim x n s a w) : Good P x n o s' a w := by
  obtain ⟨A, μ, OH, Ot, ht, h0, hr, st⟩ := sim
  have hrep := get_rep hy hr
  simp only [step] at hs
  split at hs
  · rename_i xs hg
    split at hs
    · rename_i v hv
      split at hs
      · rename_i i
        simp only [Option.some.injEq] at hs
        subst hs
        obtain ⟨rfl, hi⟩ := hy
        rw [hg] at hrep
        simp only [Rep] at hrep
        obtain ⟨vs, hu, hvs⟩ := hrep
        obtain ⟨q, O1, O2, O3, hq, hO, hqv, hset⟩ := hvs.get k v hv
        refine good_value (v := q) (w' := w) (by
          simp [execOp, ho, hu, Instr.extract, hq]) ?_
        rw [hd]
        refine put_same (t := upd s.t i (.tup (xs.set k (share v)))) (Ot := upd Ot i (O1 ++ O3)) ht h0 (fun j hj => ?_) hdn hqv st (fun p => ?_)
        · by_cases hji : j = i
          · subst hji
            rw [upd_same, upd_same]
            simp only [Rep]
            exact ⟨vs, hu, hset⟩
          · rw [upd_other _ _ _ hji, upd_other _ _ _ hji]; exact hr j hj
        · have h1 := count_upd p Ot i (O1 ++ O3) n hi
          have h2 : (Ot i).countP p = O1.countP p + O2.countP p + O3.countP p := by
            show (getO Ot (.t i)).countP p = _
            rw [hO]; simp only [List.countP_append]
          simp only [List.countP_append] at h1
          omega
      · simp at hs
    · simp at hs
  · simp at hs

theorem shareXs_rep {A : GM} {μ : List Nat} {Ot : Nat → List Own} (hr : ∀ i, i < n → Rep A μ (s.t i) (a.tmps.getD i undef) (Ot i)) :
    ∀ {ts : List TypeId} {os : List Operand} {ys : List X}, cXs P n ts os = some ys → RepVals A μ (ys.map fun c => share (get s.t c)) (os.map a.eval) []
  | ts, [], ys, h => by simp only [cXs, Option.some.injEq] at h; subst h; simp [RepVals]
  | ts, o :: os, ys, h => by
    simp only [cXs] at h
    split at h
    · rename_i y r hy hrr
      simp only [Option.some.injEq] at h; subst h
      simp only [List.map_cons, RepVals]
      exact ⟨_, _, [], [], rfl, rfl, Rep.share _ _ _ (get_rep (cX_ok hy) hr), shareXs_rep hr hrr⟩
    · simp at h

theorem sound_mkfn {d : Nat} {f : FuncId} {first caps : Array Operand} {ys : List X} (ho : o.op = .makeFunc (.func f) first caps) (hf : first.size = 0) (hd : o.dst = some d) (hdn : d < n)
    (hy : cXs P n [] caps.toList = some ys) (hs : step (.mkfn d f false ys) s = some s') (sim : Sim x n s a w) : Good P x n o s' a w := by
  obtain ⟨A, μ, OH, Ot, ht, h0, hr, st⟩ := sim
  simp only [step, Option.some.injEq] at hs
  subst hs
  rw [Array.size_eq_zero_iff] at hf
  refine good_value (v := .func (.func f) #[] (caps.map a.eval)) (w' := w) (by simp [execOp, ho, Instr.makeFunc, hf]) ?_
  rw [hd]
  refine put_same ht h0 hr hdn (Od := []) ?_ st (fun p => by simp)
  simp only [Bool.false_eq_true, if_false, Rep]
  exact ⟨caps.toList.map a.eval, by rw [← Array.toList_map], shareXs_rep hr hy⟩
theorem sound_mkfnm {d : Nat} {f : FuncId} {first caps : Array Operand} {ys : List X} (ho : o.op = .makeFunc (.func f) first caps) (hf : caps.size = 0) (hd : o.dst = some d) (hdn : d < n)
    (hy : cXs P n [] first.toList = some ys) (hs : step (.mkfn d f true ys) s = some s') (sim : Sim x n s a w) : Good P x n o s' a w := by
  obtain ⟨A, μ, OH, Ot, ht, h0, hr, st⟩ := sim
  simp only [step, Option.some.injEq] at hs
  subst hs
  rw [Array.size_eq_zero_iff] at hf
  refine good_value (v := .func (.func f) (first.map a.eval) #[]) (w' := w) (by simp [execOp, ho, Instr.makeFunc, hf]) ?_
  rw [hd]
  refine put_same ht h0 hr hdn (Od := []) ?_ st (fun p => by simp)
  simp only [if_true, Rep]
  exact ⟨first.toList.map a.eval, by rw [← Array.toList_map], shareXs_rep hr hy⟩

theorem sound_nilchk {d : Nat} {y : X} {u : Operand} (ho : o.op = .nilCheck u) (hd : o.dst = some d) (hdn : d < n) (hy : XOk n y u)
    (hs : step (.nilchk d y) s = some s') (sim : Sim x n s a w) : Good P x n o s' a w := by
  obtain ⟨A, μ, OH, Ot, ht, h0, hr, st⟩ := sim
  have hrep := get_rep hy hr
  simp only [step] at hs
  split at hs
  · rename_i l off hg
    simp only [Option.some.injEq] at hs
    subst hs
    rw [hg] at hrep
    have hrep' := hrep
    simp only [Rep] at hrep
    refine good_value (v := a.eval u) (w' := w) (by rw [hrep.2.2]; simp [execOp, ho, hrep.2.2]) ?_
    rw [hd]
    exact put_same ht h0 hr hdn (Rep.share _ _ _ hrep') st (fun p => by simp)
  · rename_i ys hg
    simp only [Option.some.injEq] at hs
    subst hs
    rw [hg] at hrep
    have hrep' := hrep
    simp only [Rep] at hrep
    obtain ⟨b, off, hu, _⟩ := hrep
    refine good_value (v := a.eval u) (w' := w) (by rw [hu]; simp [execOp, ho, hu]) ?_
    rw [hd]
    exact put_same ht h0 hr hdn (Rep.share _ _ _ hrep') st (fun p => by simp)
  · rename_i f caps hg
    simp only [Option.some.injEq] at hs
    subst hs
    rw [hg] at hrep
    have hrep' := hrep
    simp only [Rep] at hrep
    obtain ⟨vs, hu, _⟩ := hrep
    refine good_value (v := a.eval u) (w' := w) (by rw [hu]; simp [execOp, ho, hu]) ?_
    rw [hd]
    exact put_same ht h0 hr hdn (Rep.share _ _ _ hrep') st (fun p => by simp)
  · rename_i f caps hg
    simp only [Option.some.injEq] at hs
    subst hs
    rw [hg] at hrep
    have hrep' := hrep
    simp only [Rep] at hrep
    obtain ⟨vs, hu, _⟩ := hrep
    refine good_value (v := a.eval u) (w' := w) (by rw [hu]; simp [execOp, ho, hu]) ?_
    rw [hd]
    exact put_same ht h0 hr hdn (Rep.share _ _ _ hrep') st (fun p => by simp)
  · simp at hs

/-- a bound's operand, if there is one -/
def BOk (n : Nat) : Option X → Option Operand → Prop
  | none, none => True
  | some y, some u => XOk n y u
  | _, _ => False

theorem cOpt_ok {u : Option Operand} {y : Option X} (h : cOpt P n u = some y) : BOk n y u := by
  cases u with
  | none => simp [cOpt] at h; subst h; exact trivial
  | some u =>
    simp only [cOpt, Option.map_eq_some_iff] at h
    obtain ⟨z, hz, rfl⟩ := h
    exact cX_ok hz

theorem bound_rep {A : GM} {μ : List Nat} {Ot : Nat → List Own} (hr : ∀ i, i < n → Rep A μ (s.t i) (a.tmps.getD i undef) (Ot i)) {y : Option X} {u : Option Operand} {d m : Int} (hb : BOk n y u)
    (h : bound s.t d y = some m) : (u = none ∧ m = d) ∨ (∃ u' k, u = some u' ∧ a.eval u' = .int k m) := by
  cases y with
  | none =>
    cases u with
    | none => simp [bound] at h; exact .inl ⟨rfl, h.symm⟩
    | some u => exact hb.elim
  | some y =>
    cases u with
    | none => exact hb.elim
    | some u =>
      simp only [bound] at h
      obtain ⟨k, hk⟩ := intOf_rep h (get_rep hb hr)
      exact .inr ⟨u, k, rfl, hk⟩

theorem sound_sliceS {d : Nat} {y : X} {lo hi : Option X} {u : Operand} {lo' hi' : Option Operand} {t : TypeId} (ho : o.op = .slice t u lo' hi' none) (he : P.underlying t = some .string)
    (hd : o.dst = some d) (hdn : d < n) (hy : XOk n y u) (hlo : BOk n lo lo') (hhi : BOk n hi hi')
    (hs : step (.sliceS d y lo hi) s = some s') (sim : Sim x n s a w) : Good P x n o s' a w := by
  obtain ⟨A, μ, OH, Ot, ht, h0, hr, st⟩ := sim
  have hrep := get_rep hy hr
  simp only [step] at hs
  split at hs
  · rename_i b hg
    rw [hg] at hrep
    simp only [Rep] at hrep
    split at hs
    · rename_i l h hl hh
      split at hs
      · rename_i hc
        obtain ⟨h1, h2, h3⟩ := hc
        have h4 : 0 ≤ h := by omega
        have h5 : l ≤ max h 0 := by omega
        simp only [Option.some.injEq] at hs
        subst hs
        refine good_value (v := .string (b.extract l.toNat h.toNat)) (w' := w) (by
          rcases bound_rep hr hlo hl with ⟨rfl, rfl⟩ | ⟨lu, k, rfl, hlu⟩ <;> rcases bound_rep hr hhi hh with ⟨rfl, rfl⟩ | ⟨hu, k', rfl, hhu⟩ <;>
            simp [execOp, ho, Instr.sliceAt, Instr.slice, run_underlying he, hrep.1, Instr.sliceBounds, Instr.sliceBound, asIntOf, *]) ?_
        rw [hd]
        exact put_same ht h0 hr hdn (Od := []) (by simp [Rep]) st (fun p => by simp)
      · simp at hs
    · simp at hs
  · simp at hs

theorem bounds_run {len cap : Nat} {lo hi mx : Option Value} {l h m : Int} (hlo : (lo = none ∧ l = 0) ∨ ∃ k, lo = some (.int k l)) (hhi : (hi = none ∧ h = len) ∨ ∃ k, hi = some (.int k h))
    (hmx : (mx = none ∧ m = len) ∨ ∃ k, mx = some (.int k m)) (hmh : mx.isSome = true → hi.isSome = true) (h1 : 0 ≤ l) (h2 : l ≤ h) (h3 : h ≤ m) (h4 : m ≤ len) (h5 : len ≤ cap) :
    (Instr.sliceBounds true len cap lo hi mx).run P w = .ok (l.toNat, h.toNat, if mx.isSome then m.toNat else cap) w := by
  have a1 : 0 ≤ h := by omega
  have a2 : 0 ≤ m := by omega
  have a3 : m ≤ cap := by omega
  have a4 : h ≤ cap := by omega
  have a5 : l ≤ max h 0 := by omega
  have a6 : h ≤ max m 0 := by omega
  rcases hmx with ⟨rfl, rfl⟩ | ⟨km, rfl⟩
  · rcases hhi with ⟨rfl, rfl⟩ | ⟨kh, rfl⟩ <;> rcases hlo with ⟨rfl, rfl⟩ | ⟨kl, rfl⟩ <;>
      simp [Instr.sliceBounds, Instr.sliceBound, asIntOf, *]
  · rcases hhi with ⟨rfl, _⟩ | ⟨kh, rfl⟩
    · simp at hmh
    · rcases hlo with ⟨rfl, rfl⟩ | ⟨kl, rfl⟩ <;>
        simp [Instr.sliceBounds, Instr.sliceBound, asIntOf, *]

theorem bound_val {A : GM} {μ : List Nat} {Ot : Nat → List Own} (hr : ∀ i, i < n → Rep A μ (s.t i) (a.tmps.getD i undef) (Ot i)) {y : Option X} {u : Option Operand} {d m : Int} (hb : BOk n y u)
    (h : bound s.t d y = some m) : (u.map a.eval = none ∧ m = d) ∨ (∃ k, u.map a.eval = some (.int k m)) := by
  rcases bound_rep hr hb h with ⟨rfl, rfl⟩ | ⟨u', k, rfl, hk⟩
  · exact .inl ⟨rfl, rfl⟩
  · exact .inr ⟨k, by simp [hk]⟩

theorem sound_slice {d sz : Nat} {e : TypeId} {y : X} {lo hi mx : Option X} {u : Operand} {lo' hi' mx' : Option Operand} {t : TypeId} (ho : o.op = .slice t u lo' hi' mx') (he : P.underlying t = some (.slice e)) (hsz : sz? P e = some sz)
    (hd : o.dst = some d) (hdn : d < n) (hy : XOk n y u) (hlo : BOk n lo lo') (hhi : BOk n hi hi') (hmx : BOk n mx mx') (hmh : mx'.isSome = true → hi'.isSome = true)
    (hs : step (.slice d sz y lo hi mx) s = some s') (sim : Sim x n s a w) : Good P x n o s' a w := by
  obtain ⟨A, μ, OH, Ot, ht, h0, hr, st⟩ := sim
  have hrep := get_rep hy hr
  simp only [step] at hs
  split at hs
  · rename_i u' nil sz' xs hg
    rw [hg] at hrep
    simp only [Rep] at hrep
    split at hs
    · rename_i l h m hl hh hm
      split at hs
      · rename_i hc
        obtain ⟨rfl, h1, h2, h3, h4⟩ := hc
        simp only [Option.some.injEq] at hs
        subst hs
        have hb := fun (cap : Nat) (hcap : xs.length ≤ cap) => bounds_run (P := P) (w := w) (len := xs.length) (cap := cap) (bound_val hr hlo hl) (bound_val hr hhi hh) (bound_val hr hmx hm) (by simpa using hmh) h1 h2 h3 h4 hcap
        rcases hrep with ⟨rfl, hu, rfl, _⟩ | ⟨rfl, b, off, sp, cap, O', hu, hsp, hcap, hrow, _⟩
        · have hb0 := hb 0 (by simp)
          simp at h4
          obtain ⟨rfl, rfl, rfl⟩ : l = 0 ∧ h = 0 ∧ m = 0 := by omega
          refine good_value (v := .slice none 0 0) (w' := w) (by
            simp only [List.length_nil] at hb0
            simp [execOp, ho, Instr.sliceAt, Instr.slice, run_underlying he, hu, hb0, sizeOf_run hsz]) ?_
          rw [hd]
          exact put_same ht h0 hr hdn (Od := []) (by simp [shareRow, Rep]) st (fun p => by simp)
        · have hb1 := hb cap hcap
          have hlen : ((xs.take h.toNat).drop l.toNat).length = h.toNat - l.toNat := by simp; omega
          obtain ⟨O1, hr1⟩ := hrow.take h.toNat
          obtain ⟨O2, hr2⟩ := hr1.drop l.toNat (by simp; omega)
          have hMle : h.toNat ≤ (if (mx'.map a.eval).isSome = true then m.toNat else cap) := by split <;> omega
          have hMu : (mx.isSome && decide (l = m)) = true → (if (mx'.map a.eval).isSome = true then m.toNat else cap) - l.toNat = 0 := by
            intro hq
            simp only [Bool.and_eq_true, decide_eq_true_eq] at hq
            have : mx'.isSome = true := by
              cases mx' with
              | some _ => rfl
              | none => cases mx with
                | none => simp at hq
                | some _ => exact hmx.elim
            rw [if_pos (by simpa using this), hq.2]; omega
          generalize (mx.isSome && decide (l = m)) = uq at hMu ⊢
          generalize (if (mx'.map a.eval).isSome = true then m.toNat else cap) = M at hb1 hMle hMu
          refine good_value (v := .slice (some (if M = l.toNat then ⟨b, off, sp⟩ else (⟨b, off, sp⟩ : Addr).add (l.toNat * sz'))) (h.toNat - l.toNat) (M - l.toNat)) (w' := w) (by
            simp [execOp, ho, Instr.sliceAt, Instr.slice, run_underlying he, hu, hb1, sizeOf_run hsz]
            split <;> rfl) ?_
          obtain ⟨sp', hadd, hsp'⟩ : ∃ sp', (⟨b, off, sp⟩ : Addr).add (l.toNat * sz') = ⟨b, off + l.toNat * sz', sp'⟩ ∧ (sp' = none ∨ (xs.take h.toNat).drop l.toNat = []) := by
            unfold Addr.add
            split
            · rename_i h0; exact ⟨sp, by rw [h0]; rfl, hsp.imp id (fun k => by rw [k.1]; simp)⟩
            · exact ⟨none, rfl, .inl rfl⟩
          rw [hadd]
          rw [hd]
          have hU : ∀ q : Bool, (q = false ∨ M - l.toNat = 0) → Rep A μ (.sl q false sz' (shareRow ((xs.take h.toNat).drop l.toNat))) (.slice (some (if M = l.toNat then ⟨b, off, sp⟩ else ⟨b, off + l.toNat * sz', sp'⟩)) (h.toNat - l.toNat) (M - l.toNat)) [] := by
            intro q hq
            have := Rep.share (A := A) (μ := μ) (.sl false false sz' ((xs.take h.toNat).drop l.toNat)) (.slice (some (if M = l.toNat then ⟨b, off, sp⟩ else ⟨b, off + l.toNat * sz', sp'⟩)) (h.toNat - l.toNat) (M - l.toNat)) (if M = l.toNat then [] else O2) ?_
            · simp only [TL.share, Rep] at this ⊢
              rcases this with h | ⟨g0, b', off', sp2, cap', O', g1, gs, g2, g3, g4⟩
              · simp at h
              · have hq' : q = false ∨ cap' = 0 := by
                  rcases hq with h | h
                  · exact .inl h
                  · right
                    simp only [Value.slice.injEq] at g1
                    omega
                refine .inr ⟨trivial, b', off', sp2, cap', O', g1, gs.imp id (fun k => ⟨k.1, hq'⟩), g2, g3, .inr ⟨hq', ?_⟩⟩
                · rcases g4 with ⟨h, _⟩ | ⟨_, h⟩
                  · simp at h
                  · exact h
            simp only [Rep]
            refine .inr ⟨trivial, ?_⟩
            by_cases hM : M = l.toNat
            · have hnil : (xs.take h.toNat).drop l.toNat = [] := by
                apply List.eq_nil_of_length_eq_zero; rw [hlen]; omega
              rw [if_pos hM, if_pos hM, hnil]
              refine ⟨b, off, sp, M - l.toNat, [], by rw [show h.toNat - l.toNat = 0 by omega]; rfl, .inr ⟨rfl, .inl trivial⟩, by simp, by simp [RepRow], .inr ⟨.inl trivial, rfl⟩⟩
            · rw [if_neg hM, if_neg hM]
              exact ⟨b, _, sp', M - l.toNat, O2, by rw [hlen], hsp'.imp id (fun k => ⟨k, .inl trivial⟩), by omega, hr2, .inr ⟨.inl trivial, rfl⟩⟩
          refine put_same ht h0 hr hdn (hU uq ?_) st (fun p => by simp)
          cases uq with
          | false => exact .inl rfl
          | true => exact .inr (hMu rfl)
      · simp at hs
    · simp at hs
  · rename_i l0 sz' off n0 cap hg
    rw [hg] at hrep
    simp only [Rep] at hrep
    obtain ⟨hO, hlμ, hu⟩ := hrep
    split at hs
    · rename_i l h m hl hh hm
      split at hs
      · rename_i hc
        obtain ⟨rfl, rfl, h1, h2, h3, h4⟩ := hc
        simp only [Option.some.injEq] at hs
        subst hs
        have hmx0 : mx = none := by cases mx with
          | none => rfl
          | some _ => simp at h4
        subst hmx0
        have hmx1 : mx' = none := by cases mx' with
          | none => rfl
          | some _ => exact hmx.elim
        subst hmx1
        have hm0 : m = n0 := by simp only [bound, Option.some.injEq] at hm; exact hm.symm
        subst hm0
        have hb := bounds_run (P := P) (w := w) (len := n0) (cap := cap) (bound_val hr hlo hl) (bound_val hr hhi hh) (mx := none) (m := n0) (.inl ⟨rfl, rfl⟩) (by simp) (by omega) h1 h2 (Int.le_refl _) h3
        refine good_value (v := .slice (some (⟨μ.getD l0 0, off * sz', none⟩ : Addr)) h.toNat cap) (w' := w) (by
          simp only [Option.isSome_none, Bool.false_eq_true, if_false, Int.toNat_zero] at hb
          simp [execOp, ho, Instr.sliceAt, Instr.slice, run_underlying he, hu, hb, sizeOf_run hsz, Addr.add]) ?_
        rw [hd]
        exact put_same ht h0 hr hdn (Od := []) (by simp only [Rep]; exact ⟨trivial, hlμ, trivial⟩) st (fun p => by simp)
      · simp at hs
    · simp at hs
  · simp at hs

theorem RepRow.of_chunks {A : GM} {μ : List Nat} : ∀ (m : Nat) {sz b off : Nat} {xs : List LV} {O : List Own}, xs.length = m * sz → RepCells A μ xs b off O → RepRow A μ (chunks sz m xs) sz b off O
  | 0, sz, b, off, xs, O, hl, h => by
    have : xs = [] := List.eq_nil_of_length_eq_zero (by simpa using hl)
    subst this
    simpa [chunks, RepRow, RepCells] using h
  | m + 1, sz, b, off, xs, O, hl, h => by
    obtain ⟨vs, hv, hA⟩ := h.vals
    have e : xs = xs.take sz ++ xs.drop sz := (List.take_append_drop sz xs).symm
    rw [e] at hv
    obtain ⟨v1, v2, O1, O2, rfl, rfl, h1, h2⟩ := hv.split
    have l1 := h1.length
    have hlt : sz ≤ xs.length := by rw [hl, Nat.add_mul]; omega
    have l1' : v1.length = sz := by simp at l1; omega
    simp only [chunks, RepRow]
    refine ⟨O1, O2, rfl, by simp; omega, RepCells.of h1 fun j v hj => ?_, RepRow.of_chunks m (by simp [hl, Nat.add_mul]) (RepCells.of h2 fun j v hj => ?_)⟩
    · refine hA j v ?_
      rw [List.getElem?_append_left]
      · exact hj
      · rcases Nat.lt_or_ge j v1.length with g | g
        · exact g
        · rw [List.getElem?_eq_none g] at hj; simp at hj
    · have := hA (sz + j) v (by rw [List.getElem?_append_right (by omega), show sz + j - v1.length = j by omega]; exact hj)
      rwa [← Nat.add_assoc] at this

theorem chunks_take (sz : Nat) : ∀ (m : Nat) (xs : List LV), chunks sz m xs = chunks sz m (xs.take (m * sz))
  | 0, _ => rfl
  | m + 1, xs => by
    simp only [chunks]
    rw [chunks_take sz m (xs.drop sz), chunks_take sz m ((xs.take ((m + 1) * sz)).drop sz)]
    congr 1
    · rw [List.take_take]; congr 1; rw [Nat.add_mul]; omega
    · congr 1
      rw [List.drop_take, List.take_take]; congr 1
      rw [Nat.add_mul]; omega
theorem chunks_length (sz : Nat) : ∀ (m : Nat) (xs : List LV), (chunks sz m xs).length = m
  | 0, _ => rfl
  | m + 1, xs => by simp [chunks, chunks_length sz m]

/-- a variable is settled -/
theorem frz_sim {d : Nat} {y : X} {u : Operand} (hdn : d < n) (hy : XOk n y u)
    (hs : step (.mv d .frz y) s = some s') (sim : Sim x n s a w) : Sim x n s' (a.put (some d) (a.eval u)) w := by
  obtain ⟨A, μ, OH, Ot, ht, h0, hr, st⟩ := sim
  have hrep := get_rep hy hr
  simp only [step] at hs
  have core : ∀ (l : Nat) (xs : List LV) (lv : LV) (m : Nat), m ≤ xs.length → s.h[l]? = some (some xs) →
      (∀ (c : Array Value) (e : TypeId) (Oc Or : List Own), w.heap[μ.getD l 0]? = some (.cells c e (0, 0)) → c.size = xs.length → OH.getD l [] = Oc ++ Or →
        RepCells (A.put (μ.getD l 0) 0 m c) μ (xs.take m) (μ.getD l 0) 0 Oc → ∃ Ox, Rep (A.put (μ.getD l 0) 0 m c) μ lv (a.eval u) Ox ∧
        ∀ p : Own → Bool, Ox.countP p ≤ (OH.getD l []).countP p + (if p (μ.getD l 0, m, c.size) then 1 else 0)) →
      Sim x n ({ s with h := s.h.set l none }.put d lv) (a.put (some d) (a.eval u)) w := by
    intro l xs lv m hm hl hcore
    obtain ⟨c, e, hc, hxs, hone⟩ := st.inv.box l xs hl
    have hcl : c.size = xs.length := by rw [← hxs.length, Array.length_toList]
    have hlv : Live μ s.h (μ.getD l 0) := ⟨l, xs, hl, rfl⟩
    have hle : A.Le (A.put (μ.getD l 0) 0 m c) := GM.put_le (fun i _ => st.inv.loose _ hlv i)
    obtain ⟨Oc, Or, hO, hcells⟩ : ∃ Oc Or, OH.getD l [] = Oc ++ Or ∧ RepCells (A.put (μ.getD l 0) 0 m c) μ (xs.take m) (μ.getD l 0) 0 Oc := by
      have h2 := RepVals.mono (ν := []) hle xs c.toList _ hxs
      rw [List.append_nil, ← List.take_append_drop m xs] at h2
      obtain ⟨v1, v2, Oc, Or, e1, e2, k1, k2⟩ := h2.split
      have l1 := k1.length
      rw [List.length_take, Nat.min_eq_left hm] at l1
      refine ⟨Oc, Or, e2, RepCells.of k1 fun j v hj => ?_⟩
      have hjl : j < v1.length := by
        rcases Nat.lt_or_ge j v1.length with g | g
        · exact g
        · rw [List.getElem?_eq_none (by simpa using g)] at hj; simp at hj
      have hj' : c[j]? = some v := by
        rw [← Array.getElem?_toList, e1, List.getElem?_append_left hjl]; exact hj
      refine ⟨?_, hone v (List.mem_of_getElem? (by rw [Array.getElem?_toList]; exact hj'))⟩
      unfold GM.put
      rw [if_pos (by omega), Nat.zero_add]
      exact hj'
    obtain ⟨Ox, hlvr, hcnt⟩ := hcore c e Oc Or hc hcl hO hcells
    have st' := st.settle hl (allO n (upd Ot d Ox)) hc m (fun p => by
      have h1 := count_upd p Ot d Ox n hdn
      have h2 := hcnt p
      omega)
    have := mk_put (x := x) (w' := w) (ν := []) (B := A.put (μ.getD l 0) 0 m c) (lv := lv) (v := a.eval u) (Od := Ox) ht h0 hr hle hdn (by simpa using hlvr) (by
      rw [List.append_nil]; exact st')
    exact this
  split at hs
  · rename_i l hg
    rw [hg] at hrep
    simp only [Rep] at hrep
    split at hs
    · rename_i xs hl
      simp only [Option.some.injEq] at hs
      subst hs
      refine core l xs (.rp xs) xs.length (Nat.le_refl _) hl fun c e Oc Or hc hcl hO hcells => ⟨Oc, ?_, fun p => by rw [hO]; simp only [List.countP_append]; omega⟩
      rw [List.take_of_length_le (Nat.le_refl _)] at hcells
      simp only [Rep]
      exact ⟨_, 0, hrep.2.2, hcells⟩
    · simp at hs
  · rename_i l sz m cap hg
    rw [hg] at hrep
    simp only [Rep] at hrep
    obtain ⟨_, hlμ, hu⟩ := hrep
    split at hs
    · rename_i xs hl
      split at hs
      · rename_i hlen
        obtain ⟨hlen, hcap⟩ := hlen
        simp only [Option.some.injEq] at hs
        subst hs
        have hmc : m * sz ≤ xs.length := by rw [hlen]; exact Nat.mul_le_mul_right _ hcap
        refine core l xs (.sl true false sz (chunks sz m xs)) (m * sz) hmc hl fun c e Oc Or hc hcl hO hcells => ⟨(μ.getD l 0, m * sz, c.size) :: Oc, ?_, fun p => ?_⟩
        · simp only [Rep]
          refine .inr ⟨trivial, _, 0, none, cap, Oc, by rw [hu, chunks_length, Nat.zero_mul], .inl rfl, by rw [chunks_length]; exact hcap, ?_, .inl ⟨trivial, rfl, ?_⟩⟩
          · rw [chunks_take]
            exact RepRow.of_chunks m (by rw [List.length_take, Nat.min_eq_left hmc]) hcells
          · rw [chunks_length, hcl, hlen]
        · rw [hO]; simp only [List.countP_cons, List.countP_append]; omega
      · simp at hs
    · simp at hs
  · simp at hs
theorem sound_mv_frz {d : Nat} {y : X} {u : Operand} (he : execOp a.eval o = pure (.value (a.eval u))) (hd : o.dst = some d) (hdn : d < n) (hy : XOk n y u)
    (hs : step (.mv d .frz y) s = some s') (sim : Sim x n s a w) : Good P x n o s' a w :=
  good_value (v := a.eval u) (w' := w) (by rw [he]; rfl) (by rw [hd]; exact frz_sim hdn hy hs sim)
/-- the same, where no operation is done -/
theorem ghost_frz {k : Nat} (hk : k < n) (hs : step (.mv k .frz (.t k)) s = some s') (sim : Sim x n s a w) : Sim x n s' a w := by
  have h1 := frz_sim (u := .tmp k) (a := a) hk (by simp [XOk, hk]) hs sim
  have e : a.put (some k) (a.eval (.tmp k)) = a := by
    obtain ⟨A, μ, OH, Ot, ht, _⟩ := sim
    cases a with
    | mk tmps defers =>
      simp only [Act.put, Act.eval] at ht ⊢
      congr 1
      apply Array.ext_getElem?
      intro i
      simp only [Array.getElem?_setIfInBounds]
      split
      · rename_i hik
        subst hik
        simp [ht, hk, Array.getD_eq_getD_getElem?]
      · rfl
  rwa [e] at h1
end
end Go.TL
