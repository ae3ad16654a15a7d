/- The instructions say what the operations do: what is reckoned with numbers, strings and bools. No program, no conditions. -/
import Derived.Test.YticcekapikfhaaaTL6
namespace Go.TL

theorem intBin_run {P : Program} {w : World} {t : TypeId} {X Y : Operand} {op : BinOp} {k : IntKind} {a b : Int} {r : Value} (h : intBin op k a b = some r) :
    (do eqGuard op t X Y (.int k a) (.int k b); binOp op t (.int k a) (.int k b) : Sem Value).run P w = .ok r w ∧ r.oneCell' = true := by
  cases op <;> simp only [intBin] at h <;>
    first
    | (simp at h; done)
    | (split at h
       · simp at h
       · simp only [Option.some.injEq] at h; subst h
         simp [eqGuard, binOp, Op.intDiv, Value.oneCell', *])
    | (simp only [Option.some.injEq] at h; subst h
       simp [eqGuard, binOp, Op.intArith, Op.intBits, Op.intCmp, Value.oneCell'])

theorem strBin_run {P : Program} {w : World} {t : TypeId} {X Y : Operand} {op : BinOp} {a b : ByteArray} {r : Value} (h : strBin op a b = some r) :
    (do eqGuard op t X Y (.string a) (.string b); binOp op t (.string a) (.string b) : Sem Value).run P w = .ok r w ∧ r.oneCell' = true := by
  cases op <;> simp only [strBin] at h <;>
    first
    | (simp at h; done)
    | (split at h
       · rename_i hle
         simp only [Option.some.injEq] at h; subst h
         simp [eqGuard, binOp, Op.stringOp, Value.oneCell', IntKind.max, IntKind.signed, IntKind.bits]
         omega
       · simp at h)
    | (simp only [Option.some.injEq] at h; subst h
       simp [eqGuard, binOp, Op.stringOp, Value.oneCell'])

theorem nilP_rep {A : GM} {μ : List Nat} {x : LV} {u : Value} {O : List Own} {b : Bool} (h : nilP x = some b) (hr : Rep A μ x u O) :
    ∃ p : Option Addr, u = .pointer p ∧ p.isNone = b := by
  unfold nilP at h
  split at h
  · simp at h; subst h; simp only [Rep] at hr; exact ⟨none, hr.1, rfl⟩
  · simp at h; subst h; simp only [Rep] at hr; exact ⟨_, hr.2.2, rfl⟩
  · simp at h; subst h; simp only [Rep] at hr; obtain ⟨b, off, rfl, _⟩ := hr; exact ⟨_, rfl, rfl⟩
  · simp at h

theorem nilS_rep {A : GM} {μ : List Nat} {x : LV} {u : Value} {O : List Own} {b : Bool} (h : nilS x = some b) (hr : Rep A μ x u O) :
    ∃ (p : Option Addr) (m c : Nat), u = .slice p m c ∧ p.isNone = b := by
  unfold nilS at h
  split at h
  · simp at h; subst h; simp only [Rep] at hr
    rcases hr with ⟨rfl, rfl, _⟩ | ⟨rfl, b, off, sp, cap, O', rfl, _⟩
    · exact ⟨none, 0, 0, rfl, rfl⟩
    · exact ⟨_, _, _, rfl, rfl⟩
  · simp at h; subst h; simp only [Rep] at hr; obtain ⟨_, _, rfl⟩ := hr; exact ⟨_, _, _, rfl, rfl⟩
  · simp at h

theorem cmOf_ok {P : Program} {t : TypeId} {c : Cm} (h : cmOf P t = some c) : match c with
    | .num => True
    | .str => True
    | .bool => P.underlying t = some .bool
    | .ptr => ∃ e, P.underlying t = some (.pointer e)
    | .slc => ∃ e, P.underlying t = some (.slice e) := by
  unfold cmOf at h
  split at h <;> simp at h <;> subst h <;> simp_all

theorem equalIn_slice_nil {P : Program} (w : World) (d : Nat) (t e : TypeId) (a : Option Addr) (n c : Nat) (h : P.underlying t = some (.slice e)) :
    (Op.equalIn (d + 1) t (.slice a n c) (.slice none 0 0)).run P w = .ok a.isNone w := by
  cases a <;> simp [Op.equalIn, run_underlying h]

theorem equal_slice_nil {P : Program} (w : World) (t e : TypeId) (a : Option Addr) (n c : Nat) (h : P.underlying t = some (.slice e)) :
    (Op.equal t (.slice a n c) (.slice none 0 0)).run P w = .ok a.isNone w := equalIn_slice_nil w 9999 t e a n c h

theorem nil_run {P : Program} {w : World} {t : TypeId} {X Y : Operand} {op : BinOp} {u : Value} {b : Bool} {r : Value} (h : neg op b = some r)
    (hu : (∃ e, P.underlying t = some (.pointer e)) ∧ (∃ p : Option Addr, u = .pointer p ∧ p.isNone = b)) :
    (do eqGuard op t X Y u (.pointer none); binOp op t u (.pointer none) : Sem Value).run P w = .ok r w ∧ r.oneCell' = true := by
  obtain ⟨⟨e, he⟩, p, rfl, rfl⟩ := hu
  have he' : P.underlying t = some (.pointer (P.pointee t)) := by simp [Program.pointee, he]
  have hg : ∀ op, (eqGuard op t X Y (.pointer p) (.pointer none)).run P w = .ok () w := by
    intro op; unfold eqGuard; cases op <;> simp
  cases op <;> simp only [neg] at h <;> (try (simp at h; done))
  all_goals
    simp only [Option.some.injEq] at h; subst h
    rw [Sem.run_bind, hg]
    simp [run_eql_pointer_nil, run_neq_pointer_nil, he', Value.oneCell']

theorem nil_run_slc {P : Program} {w : World} {t : TypeId} {X Y : Operand} {op : BinOp} {u : Value} {b : Bool} {r : Value} (h : neg op b = some r)
    (hu : (∃ e, P.underlying t = some (.slice e)) ∧ (∃ (p : Option Addr) (m c : Nat), u = .slice p m c ∧ p.isNone = b)) :
    (do eqGuard op t X Y u (.slice none 0 0); binOp op t u (.slice none 0 0) : Sem Value).run P w = .ok r w ∧ r.oneCell' = true := by
  obtain ⟨⟨e, he⟩, p, m, c, rfl, rfl⟩ := hu
  have hg : ∀ op, (eqGuard op t X Y (.slice p m c) (.slice none 0 0)).run P w = .ok () w := by
    intro op; unfold eqGuard; cases op <;> simp
  cases op <;> simp only [neg] at h <;> (try (simp at h; done))
  all_goals
    simp only [Option.some.injEq] at h; subst h
    rw [Sem.run_bind, hg]
    simp only [Result.andThen_ok, binOp]
    simp [equal_slice_nil w t e p m c he, Value.oneCell']

theorem bool_run {P : Program} {w : World} {t : TypeId} {X Y : Operand} {op : BinOp} {a b : Bool} {r : Value} (h : neg op (a == b) = some r) (he : P.underlying t = some .bool) :
    (do eqGuard op t X Y (.bool a) (.bool b); binOp op t (.bool a) (.bool b) : Sem Value).run P w = .ok r w ∧ r.oneCell' = true := by
  have hg : ∀ op, (eqGuard op t X Y (.bool a) (.bool b)).run P w = .ok () w := by
    intro op; unfold eqGuard; cases op <;> simp
  cases op <;> simp only [neg] at h <;> (try (simp at h; done))
  all_goals
    simp only [Option.some.injEq] at h; subst h
    rw [Sem.run_bind, hg]
    simp [run_eql_bool, run_neq_bool, he, Value.oneCell']

theorem binLV_run {P : Program} {w : World} {A : GM} {μ : List Nat} {t : TypeId} {X Y : Operand} {c : Cm} {op : BinOp} {x y r : LV} {u v : Value} {Ox Oy : List Own}
    (hc : cmOf P t = some c) (h : binLV c op x y = some r) (hx : Rep A μ x u Ox) (hy : Rep A μ y v Oy) :
    ∃ q, (do eqGuard op t X Y u v; binOp op t u v : Sem Value).run P w = .ok q w ∧ Rep A μ r q [] := by
  have hok := cmOf_ok hc
  unfold binLV at h
  split at h
  · -- numbers
    simp only [Rep] at hx hy
    obtain ⟨rfl, _⟩ := hx
    obtain ⟨rfl, _⟩ := hy
    split at h
    · split at h
      · simp at h
      · rename_i hb
        simp only [Option.some.injEq] at h; subst h
        exact ⟨_, by simp [eqGuard, binOp, Op.shift, hb]; rfl, by simp [Rep]⟩
    · split at h
      · simp at h
      · rename_i hb
        simp only [Option.some.injEq] at h; subst h
        exact ⟨_, by simp [eqGuard, binOp, Op.shift, hb]; rfl, by simp [Rep]⟩
    · split at h
      · rename_i hk
        subst hk
        simp only [Option.map_eq_some_iff] at h
        obtain ⟨q, hq, rfl⟩ := h
        exact ⟨q, (intBin_run hq).1, by simp [Rep]⟩
      · simp at h
  · simp only [Rep] at hx hy
    obtain ⟨rfl, _⟩ := hx
    obtain ⟨rfl, _⟩ := hy
    simp only [Option.map_eq_some_iff] at h
    obtain ⟨q, hq, rfl⟩ := h
    exact ⟨q, (strBin_run hq).1, by simp [Rep]⟩
  · simp only [Rep] at hx hy
    obtain ⟨rfl, _⟩ := hx
    obtain ⟨rfl, _⟩ := hy
    simp only [Option.map_eq_some_iff] at h
    obtain ⟨q, hq, rfl⟩ := h
    exact ⟨q, (bool_run hq hok).1, by simp [Rep]⟩
  · simp only [Rep] at hy
    obtain ⟨rfl, _⟩ := hy
    split at h
    · rename_i b hb
      simp only [Option.map_eq_some_iff] at h
      obtain ⟨q, hq, rfl⟩ := h
      exact ⟨q, (nil_run hq ⟨hok, nilP_rep hb hx⟩).1, by simp [Rep]⟩
    · simp at h
  · simp only [Rep] at hy
    rcases hy with ⟨_, rfl, _⟩ | ⟨h0, _⟩
    · split at h
      · rename_i b hb
        simp only [Option.map_eq_some_iff] at h
        obtain ⟨q, hq, rfl⟩ := h
        exact ⟨q, (nil_run_slc hq ⟨hok, nilS_rep hb hx⟩).1, by simp [Rep]⟩
      · simp at h
    · simp at h0
  · simp at h

section
variable {P : Program} {x : Cx} {n : Nat} {o : Oper} {s s' : St} {a : Act} {w : World}

/-- a value that owns nothing is put, the world is as it was -/
theorem good_plain {d : Nat} {v : Value} {lv : LV} (hd : o.dst = some d) (hdn : d < n) (hrun : (execOp a.eval o).run P w = .ok (.value v) w)
    (hv : ∀ A μ, (∀ i, i < n → ∃ O, Rep A μ (s.t i) (a.tmps.getD i undef) O) → Rep A μ lv v []) (sim : Sim x n s a w) : Good P x n o (s.put d lv) a w := by
  obtain ⟨A, μ, OH, Ot, ht, h0, hr, st⟩ := sim
  refine good_value hrun ?_
  rw [hd]
  exact put_same ht h0 hr hdn (hv A μ fun i hi => ⟨_, hr i hi⟩) st (fun p => by simp)

theorem sound_bin {d : Nat} {c : Cm} {op : BinOp} {y z : X} {u v : Operand} {t t' : TypeId} (ho : o.op = .binOp op t u v t') (hd : o.dst = some d) (hdn : d < n) (hy : XOk n y u) (hz : XOk n z v)
    (hc : cmOf P t = some c) (hs : step (.bin d c op y z) s = some s') (sim : Sim x n s a w) : Good P x n o s' a w := by
  obtain ⟨A, μ, OH, Ot, ht, h0, hr, st⟩ := sim
  simp only [step, Option.map_eq_some_iff] at hs
  obtain ⟨r, hr2, rfl⟩ := hs
  obtain ⟨q, hq, hrep⟩ := binLV_run (P := P) (w := w) (X := u) (Y := v) hc hr2 (get_rep hy hr) (get_rep hz hr)
  refine good_value (v := q) (w' := w) (by simp only [execOp, ho, Sem.run_bind]; rw [← Sem.run_bind, hq]; rfl) ?_
  rw [hd]
  exact put_same ht h0 hr hdn hrep st (fun p => by simp)

theorem sound_un {d : Nat} {op : UnOp} {y : X} {u : Operand} {t : TypeId} (ho : o.op = .unOp op t u) (hd : o.dst = some d) (hdn : d < n) (hy : XOk n y u)
    (hs : step (.un d op y) s = some s') (sim : Sim x n s a w) : Good P x n o s' a w := by
  obtain ⟨A, μ, OH, Ot, ht, h0, hr, st⟩ := sim
  simp only [step, Option.map_eq_some_iff] at hs
  obtain ⟨r, hr2, rfl⟩ := hs
  have hrep := get_rep hy hr
  unfold unLV at hr2
  split at hr2
  · rename_i k m hg
    simp only [Option.some.injEq] at hr2; subst hr2
    rw [hg] at hrep
    simp only [Rep] at hrep
    refine good_value (v := .int k (k.wrap (0 - m))) (w' := w) (by simp [execOp, ho, hrep.1, Op.unary, Op.intArith]) ?_
    rw [hd]
    exact put_same ht h0 hr hdn (Od := []) (by simp [Rep]) st (fun p => by simp)
  · rename_i b hg
    simp only [Option.some.injEq] at hr2; subst hr2
    rw [hg] at hrep
    simp only [Rep] at hrep
    refine good_value (v := .bool !b) (w' := w) (by simp [execOp, ho, hrep.1, Op.unary]) ?_
    rw [hd]
    exact put_same ht h0 hr hdn (Od := []) (by simp [Rep]) st (fun p => by simp)
  · simp at hr2

theorem intOf_rep {A : GM} {μ : List Nat} {y : LV} {u : Value} {O : List Own} {m : Int} (h : intOf y = some m) (hr : Rep A μ y u O) : ∃ k, u = .int k m := by
  unfold intOf at h
  split at h
  · simp at h; subst h; simp only [Rep] at hr; exact ⟨_, hr.1⟩
  · simp at h

theorem sound_conv {d : Nat} {k k' : IntKind} {y : X} {u : Operand} {t t' : TypeId} (ho : o.op = .convert t t' u) (hd : o.dst = some d) (hdn : d < n) (hy : XOk n y u)
    (h1 : P.underlying t = some (.int k')) (h2 : P.underlying t' = some (.int k)) (hs : step (.conv d k y) s = some s') (sim : Sim x n s a w) : Good P x n o s' a w := by
  obtain ⟨A, μ, OH, Ot, ht, h0, hr, st⟩ := sim
  simp only [step, Option.map_eq_some_iff] at hs
  obtain ⟨r, hr2, rfl⟩ := hs
  obtain ⟨k2, hu⟩ := intOf_rep hr2 (get_rep hy hr)
  refine good_value (v := .int k (k.wrap r)) (w' := w) (by simp [execOp, ho, hu, convert, run_underlying h1, run_underlying h2, Conv.intToInt]) ?_
  rw [hd]
  exact put_same ht h0 hr hdn (Od := []) (by simp [Rep]) st (fun p => by simp)

theorem lenLV_rep {A : GM} {μ : List Nat} {y : LV} {u : Value} {O : List Own} {m : Nat} (h : lenLV y = some m) (hr : Rep A μ y u O) : ∃ p c, u = .slice p m c := by
  unfold lenLV at h
  split at h
  · simp at h; subst h; simp only [Rep] at hr
    rcases hr with ⟨_, rfl, rfl, _⟩ | ⟨_, b, off, sp, cap, O', rfl, _⟩
    · exact ⟨none, 0, rfl⟩
    · exact ⟨_, _, rfl⟩
  · simp at h; subst h; simp only [Rep] at hr; obtain ⟨_, _, rfl⟩ := hr; exact ⟨_, _, rfl⟩
  · simp at h

theorem lenStr_rep {A : GM} {μ : List Nat} {y : LV} {u : Value} {O : List Own} {m : Nat} (h : lenStr y = some m) (hr : Rep A μ y u O) : ∃ s : ByteArray, u = .string s ∧ s.size = m := by
  unfold lenStr at h
  split at h
  · simp at h; subst h; simp only [Rep] at hr; exact ⟨_, hr.1, rfl⟩
  · simp at h

/-- a builtin's call, as an operation -/
theorem exec_builtin {b : Builtin} {c : Call} (ho : o.op = .call c) (hc : c.callee = .builtin b) :
    execOp a.eval o = builtin b c.argTypes o.type (c.args.map fun | .const _ => true | _ => false) (c.args.map a.eval) := by
  simp [execOp, ho, resolve, hc, invoke]
  rfl

theorem sound_len {d : Nat} {y : X} {u : Operand} {t e : TypeId} {c : Call} (ho : o.op = .call c) (hc : c.callee = .builtin .len) (ha : c.args.toList = [u]) (htt : c.argTypes.toList = [t])
    (he : P.underlying t = some (.slice e)) (hd : o.dst = some d) (hdn : d < n) (hy : XOk n y u)
    (hs : step (.len d y) s = some s') (sim : Sim x n s a w) : Good P x n o s' a w := by
  obtain ⟨A, μ, OH, Ot, ht, h0, hr, st⟩ := sim
  simp only [step, Option.map_eq_some_iff] at hs
  obtain ⟨m, hm, rfl⟩ := hs
  obtain ⟨p, k, hu⟩ := lenLV_rep hm (get_rep hy hr)
  have ha' : c.args = #[u] := by rw [← Array.toArray_toList (xs := c.args), ha]
  have ht' : c.argTypes = #[t] := by rw [← Array.toArray_toList (xs := c.argTypes), htt]
  refine good_value (v := .int .i64 m) (w' := w) (by
    rw [exec_builtin ho hc, ha', ht']
    simp [builtin, Builtin.len_, run_underlying he, hu, goInt]) ?_
  rw [hd]
  exact put_same ht h0 hr hdn (Od := []) (by simp [Rep]) st (fun p => by simp)

theorem sound_lenS {d : Nat} {y : X} {u : Operand} {t : TypeId} {c : Call} (ho : o.op = .call c) (hc : c.callee = .builtin .len) (ha : c.args.toList = [u]) (htt : c.argTypes.toList = [t])
    (he : P.underlying t = some .string) (hd : o.dst = some d) (hdn : d < n) (hy : XOk n y u)
    (hs : step (.lenS d y) s = some s') (sim : Sim x n s a w) : Good P x n o s' a w := by
  obtain ⟨A, μ, OH, Ot, ht, h0, hr, st⟩ := sim
  simp only [step, Option.map_eq_some_iff] at hs
  obtain ⟨m, hm, rfl⟩ := hs
  obtain ⟨p, hu, rfl⟩ := lenStr_rep hm (get_rep hy hr)
  have ha' : c.args = #[u] := by rw [← Array.toArray_toList (xs := c.args), ha]
  have ht' : c.argTypes = #[t] := by rw [← Array.toArray_toList (xs := c.argTypes), htt]
  refine good_value (v := .int .i64 p.size) (w' := w) (by
    rw [exec_builtin ho hc, ha', ht']
    simp [builtin, Builtin.len_, run_underlying he, hu, goInt]) ?_
  rw [hd]
  exact put_same ht h0 hr hdn (Od := []) (by simp [Rep]) st (fun p => by simp)

theorem sound_minmax {d : Nat} {mx : Bool} {y z : X} {u v : Operand} {c : Call} (ho : o.op = .call c) (hc : c.callee = .builtin (if mx then .max else .min)) (ha : c.args.toList = [u, v])
    (hd : o.dst = some d) (hdn : d < n) (hy : XOk n y u) (hz : XOk n z v)
    (hs : step (.minmax d mx y z) s = some s') (sim : Sim x n s a w) : Good P x n o s' a w := by
  obtain ⟨A, μ, OH, Ot, ht, h0, hr, st⟩ := sim
  have hry := get_rep hy hr
  have hrz := get_rep hz hr
  have ha' : c.args = #[u, v] := by rw [← Array.toArray_toList (xs := c.args), ha]
  simp only [step] at hs
  split at hs
  · rename_i k p k' q hg1 hg2
    simp only [Option.some.injEq] at hs
    subst hs
    rw [hg1] at hry; rw [hg2] at hrz
    simp only [Rep] at hry hrz
    refine good_value (v := .int k (if (if mx then q > p else q < p) then q else p)) (w' := w) (by
      rw [exec_builtin ho hc, ha']
      cases mx <;> simp [builtin, hry.1, hrz.1, run_max_int2, run_min_int2]) ?_
    rw [hd]
    exact put_same ht h0 hr hdn (Od := []) (by simp [Rep]) st (fun p => by simp)
  · simp at hs

theorem sound_pick {d : Nat} {c y z : X} {u v q : Operand} (ho : o.op = .pick q u v) (hd : o.dst = some d) (hdn : d < n) (hc : XOk n c q) (hy : XOk n y u) (hz : XOk n z v)
    (hs : step (.pick d c y z) s = some s') (sim : Sim x n s a w) : Good P x n o s' a w := by
  obtain ⟨A, μ, OH, Ot, ht, h0, hr, st⟩ := sim
  have hrc := get_rep hc hr
  simp only [step] at hs
  split at hs
  · rename_i b hg
    rw [hg] at hrc
    simp only [Rep] at hrc
    simp only [Option.some.injEq] at hs
    subst hs
    refine good_value (v := if b = true then a.eval u else a.eval v) (w' := w) (by simp [execOp, ho, hrc.1, asBool]) ?_
    rw [hd]
    cases b with
    | true => exact put_same ht h0 hr hdn (Rep.share _ _ _ (get_rep hy hr)) st (fun p => by simp)
    | false => exact put_same ht h0 hr hdn (Rep.share _ _ _ (get_rep hz hr)) st (fun p => by simp)
  · simp at hs

theorem sound_indexS {d : Nat} {y z : X} {u v : Operand} {t : TypeId} (ho : o.op = .index t u v) (he : P.underlying t = some .string) (hd : o.dst = some d) (hdn : d < n) (hy : XOk n y u) (hz : XOk n z v)
    (hs : step (.indexS d y z) s = some s') (sim : Sim x n s a w) : Good P x n o s' a w := by
  obtain ⟨A, μ, OH, Ot, ht, h0, hr, st⟩ := sim
  have hry := get_rep hy hr
  have hrz := get_rep hz hr
  simp only [step] at hs
  split at hs
  · rename_i b i hg1 hg2
    split at hs
    · rename_i hb
      simp only [Option.some.injEq] at hs
      subst hs
      rw [hg1] at hry
      simp only [Rep] at hry
      obtain ⟨k, hk⟩ := intOf_rep hg2 hrz
      have hlt : i.toNat < b.size := by omega
      refine good_value (v := .int .u8 ((b.data.toList.getD i.toNat 0).toNat : Int)) (w' := w) (by
        have e1 : b[i.toNat]? = some b[i.toNat] := by simp [hlt]
        have e2 : b[i.toNat] = b.data.toList.getD i.toNat 0 := by
          have hlt' : i.toNat < b.data.size := hlt
          simp [List.getD_eq_getElem?_getD, ByteArray.getElem_eq_getElem_data, Array.getElem?_eq_getElem hlt']
        simp [execOp, ho, Instr.index, hk, hry.1, asIntOf, run_underlying he, hb.1, e1, e2]) ?_
      rw [hd]
      exact put_same ht h0 hr hdn (Od := []) (by simp [Rep]) st (fun p => by simp)
    · simp at hs
  · simp at hs
end

end Go.TL
