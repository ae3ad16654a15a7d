/- A call does what is said of it, a region what its instructions lead to, in any order. No program, no conditions. -/
import Derived.Test.YticcekapikfhaaaTLE
namespace Go.TL

theorem two_mem {O O1 O2 : List Own} (hf : ∀ p : Own → Bool, O.countP p ≤ O1.countP p + O2.countP p) {e : Own} (he : e ∈ O) : e ∈ O1 ∨ e ∈ O2 := by
  have h1 : 0 < O.countP (isE e) := List.countP_pos_iff.2 ⟨e, he, (isE_iff e e).2 rfl⟩
  have h2 := hf (isE e)
  by_cases h : 0 < O1.countP (isE e)
  · obtain ⟨z, hz, hze⟩ := List.countP_pos_iff.1 h
    exact .inl ((isE_iff e z).1 hze ▸ hz)
  · obtain ⟨z, hz, hze⟩ := List.countP_pos_iff.1 (show 0 < O2.countP (isE e) by omega)
    exact .inr ((isE_iff e z).1 hze ▸ hz)

section
variable {x : Cx} {w w' : World} {A B : GM} {μ ν : List Nat} {h h' : List Box} {OH OH' : List (List Own)} {O O' O2 : List Own}

/-- behind a call the caller's state goes on -/
theorem St'.call (s : St' x w A μ h OH O) (c : St' (CallCx w A μ h OH []) w' B (μ ++ ν) h' OH' O') (hf : ∀ p : Own → Bool, O2.countP p ≤ O.countP p + O'.countP p) : St' x w' B (μ ++ ν) h' OH' O2 := by
  have hmem : ∀ {b m k}, (b, m, k) ∈ O2 ++ OH'.flatten → (b, m, k) ∈ O ∨ (b, m, k) ∈ O' ++ OH'.flatten := by
    intro b m k hm
    rcases List.mem_append.1 hm with hm | hm
    · exact (two_mem hf hm).imp id (fun h => List.mem_append.2 (.inl h))
    · exact .inr (List.mem_append.2 (.inr hm))
  -- what the caller's slots own is out of the call's reach
  have hout : ∀ {b m k}, (b, m, k) ∈ O → b < w.heap.size ∧ ¬ (Live μ h b ∨ Owns (([] : List Own) ++ OH.flatten) b) := by
    intro b m k hm
    have hm' : (b, m, k) ∈ O ++ OH.flatten := List.mem_append.2 (.inl hm)
    refine ⟨s.inv.own_lt hm', ?_⟩
    rintro (hl | ⟨m', k', ho⟩)
    · exact (s.inv.own b m k hm').2.2 hl
    · have h1 := s.inv.once b
      simp only [List.nil_append] at ho
      have h2 : 0 < O.countP (isAt b) := owns_count.1 ⟨m, k, hm⟩
      have h3 : 0 < OH.flatten.countP (isAt b) := owns_count.1 ⟨m', k', ho⟩
      simp only [List.countP_append] at h1
      omega
  have hx : ∀ b, (Live μ h b ∨ Owns (([] : List Own) ++ OH.flatten) b) → x.w0.heap.size ≤ b ∨ x.T0 b := by
    rintro b (hl | ⟨m, k, ho⟩)
    · exact s.since.liveT b hl
    · exact s.since.ownT b m k (List.mem_append.2 (.inr (by simpa using ho)))
  have hsz := s.since.size
  have csz : w.heap.size ≤ w'.heap.size := c.since.size
  refine ⟨⟨c.inv.len, c.inv.lenO, c.inv.cells, c.inv.box, c.inv.loose, c.inv.apart, ?_, ?_⟩, ⟨Nat.le_trans hsz csz, ?_, ?_, ?_, ?_, ?_, s.since.still.trans c.since.still⟩⟩
  · intro b m k hm
    rcases hmem hm with hm | hm
    · obtain ⟨hlt, hT⟩ := hout hm
      obtain ⟨⟨cs, e, g1, g2⟩, g3, g4⟩ := s.inv.own b m k (List.mem_append.2 (.inl hm))
      obtain ⟨k1, k2⟩ := c.since.kept b hlt hT
      refine ⟨⟨cs, e, by rw [k1]; exact g1, g2⟩, fun i hi => by rw [k2 i]; exact g3 i hi, fun hl => ?_⟩
      rcases c.since.liveT b hl with h1 | h1
      · exact absurd hlt (Nat.not_lt.2 h1)
      · exact hT h1
    · exact c.inv.own b m k hm
  · intro b
    have h1 := s.inv.once b
    have h2 := c.inv.once b
    have h3 := hf (isAt b)
    simp only [List.countP_append] at h1 h2 ⊢
    by_cases hb : 0 < O.countP (isAt b)
    · obtain ⟨m, k, hm⟩ := owns_count.2 hb
      obtain ⟨hlt, hT⟩ := hout hm
      have h4 : (O' ++ OH'.flatten).countP (isAt b) = 0 := by
        refine Nat.eq_zero_of_not_pos fun hp => ?_
        obtain ⟨m', k', hm'⟩ := owns_count.2 hp
        rcases c.since.ownT b m' k' hm' with h1 | h1
        · exact absurd hlt (Nat.not_lt.2 h1)
        · exact hT h1
      simp only [List.countP_append] at h4
      omega
    · omega
  · intro b hb ht
    have hT : ¬ (Live μ h b ∨ Owns (([] : List Own) ++ OH.flatten) b) := fun hc => by
      rcases hx b hc with h1 | h1
      · omega
      · exact ht h1
    obtain ⟨g1, g2⟩ := s.since.kept b hb ht
    obtain ⟨k1, k2⟩ := c.since.kept b (show b < w.heap.size by omega) hT
    exact ⟨k1.trans g1, fun i => (k2 i).trans (g2 i)⟩
  · intro b m k hm
    rcases hmem hm with hm | hm
    · exact s.since.ownT b m k (List.mem_append.2 (.inl hm))
    · rcases c.since.ownT b m k hm with h1 | h1
      · exact .inl (Nat.le_trans hsz h1)
      · exact hx b h1
  · intro b hb
    rcases c.since.liveT b hb with h1 | h1
    · exact .inl (Nat.le_trans hsz h1)
    · exact hx b h1
  · exact fun b i v hv => c.since.le b i v (s.since.le b i v hv)
  · obtain ⟨ξ, hξ⟩ := s.since.ext
    exact ⟨ξ ++ ν, by rw [hξ, List.append_assoc]⟩
end

section
variable {P : Program} {x : Cx} {n : Nat} {o : Oper} {s : St} {a : Act} {w : World}

/-- what an operation leads to, over trees -/
def Leads (P : Program) (x : Cx) (n : Nat) (o : Oper) (K : St → Prop) (a : Act) (w : World) : Prop :=
  ∀ (next : Act → World → Prop) (Q : Exit → Act → World → Prop), (∀ s' a' w', Sim x n s' a' w' → K s' → next a' w') → o.wp P a w next Q

theorem RepVals.share_args {A : GM} {μ : List Nat} {caps : List LV} {vs : List Value} {O : List Own} (h : RepVals A μ caps vs O) : RepVals A μ (shareAll caps) vs [] := RepVals.share _ _ _ h

theorem callFunc_run {fid : FuncId} {args : Array Value} (hc : callable P fid = true) : (callFunc fid args).run P w = .ok (.enter fid args) w := by
  unfold callable at hc
  split at hc
  · rename_i fn hfn
    simp only [Bool.and_eq_true, Bool.not_eq_true', beq_eq_false_iff_ne, ne_eq] at hc
    obtain ⟨h1, h2⟩ := hc
    have h4 : ¬ fn.body = none := by intro h; rw [h] at h2; simp at h2
    simp [callFunc, hfn, h1, h4]
  · simp at hc

theorem compile_call {m : Md} {rw : Rw} {d : Option Nat} {f : X} {args : List X} (hc : compile P n o m = some (.call rw d f args)) :
    ∃ c g, o.op = .call c ∧ c.callee = .value g ∧ (o.dst = d ∧ ∀ k ∈ d.toList, k < n) ∧ XOk n f g ∧ cXs P n c.argTypes.toList c.args.toList = some args := by
  cases hop : o.op with
  | call c =>
    simp only [compile, hop] at hc
    split at hc
    · split at hc
      · simp [Option.bind_eq_some_iff, Option.map_eq_some_iff] at hc
      · simp [Option.bind_eq_some_iff, Option.map_eq_some_iff] at hc
      · simp at hc
    · split at hc
      · simp [Option.bind_eq_some_iff, Option.map_eq_some_iff] at hc
      · simp [Option.bind_eq_some_iff, Option.map_eq_some_iff] at hc
      · simp at hc
    · simp [Option.bind_eq_some_iff, Option.map_eq_some_iff] at hc
    · simp [Option.bind_eq_some_iff, Option.map_eq_some_iff] at hc
    · split at hc
      · simp [Option.bind_eq_some_iff, Option.map_eq_some_iff] at hc
      · simp at hc
    · rename_i g hcal
      simp only [Option.bind_eq_some_iff, Option.map_eq_some_iff] at hc
      obtain ⟨d', hd', g', hg', ys, hys, he⟩ := hc
      simp only [I.call.injEq] at he
      obtain ⟨_, rfl, rfl, rfl⟩ := he
      refine ⟨c, g, rfl, hcal, ?_, cX_ok hg', hys⟩
      cases hod : o.dst with
      | none => simp [hod] at hd'; subst hd'; exact ⟨rfl, by simp⟩
      | some k =>
        simp only [hod] at hd'
        split at hd'
        · rename_i hkn; simp at hd'; subst hd'; exact ⟨rfl, by simpa using hkn⟩
        · simp at hd'
    · simp at hc
  | makeFunc fn first caps =>
    cases fn <;> (try (simp [compile, hop] at hc; done))
    simp only [compile, hop, Option.bind_eq_some_iff] at hc
    obtain ⟨_, _, hc⟩ := hc
    split at hc
    · simp [Option.map_eq_some_iff] at hc
    · split at hc <;> simp [Option.map_eq_some_iff] at hc
  | store t y z =>
    simp only [compile, hop] at hc
    split at hc <;> simp [Option.bind_eq_some_iff, Option.map_eq_some_iff] at hc
  | build t ps =>
    simp only [compile, hop] at hc
    split at hc <;> simp [Option.bind_eq_some_iff, Option.map_eq_some_iff] at hc
  | slice t y lo hi mx =>
    simp only [compile, hop] at hc
    split at hc
    · simp only [Option.bind_eq_some_iff, Option.map_eq_some_iff] at hc
      obtain ⟨_, _, _, _, _, _, _, _, _, _, _, _, _, _, hc⟩ := hc
      split at hc <;> simp at hc
    · simp [Option.bind_eq_some_iff, Option.map_eq_some_iff] at hc
    · simp at hc
  | index t y z =>
    simp only [compile, hop] at hc
    split at hc <;> simp [Option.bind_eq_some_iff, Option.map_eq_some_iff] at hc
  | convert t t' y =>
    simp only [compile, hop] at hc
    split at hc <;> simp [Option.bind_eq_some_iff, Option.map_eq_some_iff] at hc
  | makeSlice t l c =>
    simp only [compile, hop, Option.bind_eq_some_iff] at hc
    obtain ⟨_, _, _, _, _, _, _, _, _, _, hc⟩ := hc
    split at hc
    · split at hc <;> simp at hc
    · simp at hc
  | fieldAddr t y f =>
    simp only [compile, hop, Option.bind_eq_some_iff] at hc
    obtain ⟨_, _, _, _, _, _, _, _, hc⟩ := hc
    split at hc <;> simp at hc
  | _ => simp [compile, hop, Option.bind_eq_some_iff, Option.map_eq_some_iff] at hc

theorem sound_call {m : Md} {rw : Rw} {d : Option Nat} {f : X} {args : List X} {K : St → Prop} (hc : compile P n o m = some (.call rw d f args)) (hk : wpCall P rw d f args K s) (sim : Sim x n s a w) :
    Leads P x n o K a w := by
  obtain ⟨c, g, hop, hcal, hd, hg, hargs⟩ := compile_call hc
  obtain ⟨fid, vals, hfn, hcalls⟩ := hk
  have hcalls := callWp_lcalls hcalls
  obtain ⟨A, μ, OH, Ot, ht, h0, hr, st⟩ := sim
  have hfr := get_rep hg hr
  have hav := shareXs_rep (P := P) (s := s) (a := a) hr hargs
  obtain ⟨ws, hall, hrun⟩ : ∃ ws : List Value, RepVals A μ vals ws [] ∧ (execOp a.eval o).run P w = .ok (.enter fid ws.toArray) w := by
    unfold fnArgs at hfn
    split at hfn
    · rename_i f' caps hgf
      simp only [Option.some.injEq, Prod.mk.injEq] at hfn
      obtain ⟨rfl, rfl⟩ := hfn
      rw [hgf] at hfr
      simp only [Rep] at hfr
      obtain ⟨cvs, hfv, hcaps⟩ := hfr
      exact ⟨c.args.toList.map a.eval ++ cvs, RepVals.app (O1 := []) (O2 := []) hav (RepVals.share_args hcaps), by
        simp [execOp, hop, resolve, hcal, hfv, Deferred.ofValue, invoke, callFunc_run hcalls.1]⟩
    · rename_i f' first hgf
      simp only [Option.some.injEq, Prod.mk.injEq] at hfn
      obtain ⟨rfl, rfl⟩ := hfn
      rw [hgf] at hfr
      simp only [Rep] at hfr
      obtain ⟨cvs, hfv, hcaps⟩ := hfr
      exact ⟨cvs ++ c.args.toList.map a.eval, RepVals.app (O1 := []) (O2 := []) (RepVals.share_args hcaps) hav, by
        simp [execOp, hop, resolve, hcal, hfv, Deferred.ofValue, invoke, callFunc_run hcalls.1]⟩
    · simp at hfn
  intro next Q hnext
  unfold Oper.wp
  rw [hrun, Oper.upon_enter]
  refine (hcalls.2.2 w A μ OH _ [] hall (st.inv.fewer (Fewer.nil _))).mono fun e w' he => ?_
  obtain ⟨v, r, h', B, ν, OH', O', rfl, hK, hrep, st'⟩ := he
  refine hnext (putcall s d r h') _ _ ?_ hK
  rw [hd.1]
  have hle : A.Le B := st'.since.le
  cases d with
  | none =>
    refine ⟨B, μ ++ ν, OH', Ot, by simpa [Act.put] using ht, by simpa [Act.put] using h0, fun i hi => ?_, St'.call st st' (fun p => by omega)⟩
    exact Rep.mono hle _ _ _ (hr i hi)
  | some k =>
    have hkn : k < n := hd.2 k (by simp)
    exact mk_put ht h0 hr hle hkn hrep (St'.call st st' (fun p => by
      have := count_upd p Ot k O' n hkn
      omega))
end

section
variable (P : Program) (n : Nat)

/-- an operation with its guard -/
def cG (ops : Array Oper) (o : Oper) (m : Md) : Option GI :=
  match o.guard with
  | none => (compileT P n o m).map fun i => (none, i)
  | some (j, want) => match (ops[j]?).bind (·.dst) with
    | some d => if d < n then (compileT P n o m).map fun i => (some (d, want), i) else none
    | none => none
def cOps (ops : Array Oper) : List Oper → List Md → Option (List GI)
  | [], _ => some []
  | o :: os, ms => match cG P n ops o (ms.headD .copy), cOps ops os ms.tail with
    | some g, some gs => some (g :: gs)
    | _, _ => none
end

section
variable {P : Program} {x : Cx} {n : Nat} {s : St} {a : Act} {w : World}

theorem boolOf_rep {A : GM} {μ : List Nat} {y : LV} {v : Value} {O : List Own} {b : Bool} (h : boolOf y = some b) (hr : Rep A μ y v O) : v = .bool b := by
  unfold boolOf at h
  split at h
  · simp at h; subst h; simp only [Rep] at hr; exact hr.1
  · simp at h

theorem compile_dst {o : Oper} {m : Md} {i : I} (h : compile P n o m = some i) : o.dst = i.dst ∧ ∀ k ∈ i.dst.toList, k < n := by
  cases hcall : i.isCall with
  | true =>
    cases i <;> simp [I.isCall] at hcall
    obtain ⟨c, g, _, _, h3, _, _⟩ := compile_call h
    exact h3
  | false =>
    cases hop : o.op <;> simp only [compile, hop] at h
    all_goals (try (simp at h; done))
    case store t y z =>
      split at h
      · rename_i hd
        simp only [Option.bind_eq_some_iff, Option.map_eq_some_iff] at h
        obtain ⟨_, _, _, _, _, _, rfl⟩ := h
        exact ⟨hd, by simp [I.dst]⟩
      · simp at h
    case makeFunc fn first caps =>
      cases fn <;> simp only at h
      all_goals (try (simp at h; done))
      simp only [Option.bind_eq_some_iff] at h
      obtain ⟨d, hd, h⟩ := h
      obtain ⟨h1, h2⟩ := cD_ok hd
      split at h
      · simp only [Option.map_eq_some_iff] at h
        obtain ⟨_, _, rfl⟩ := h
        exact ⟨h1, by simpa [I.dst] using h2⟩
      · split at h
        · simp only [Option.map_eq_some_iff] at h
          obtain ⟨_, _, rfl⟩ := h
          exact ⟨h1, by simpa [I.dst] using h2⟩
        · simp at h
    case call c =>
      split at h
      · split at h
        · simp only [Option.bind_eq_some_iff, Option.map_eq_some_iff] at h
          obtain ⟨d, hd, _, _, rfl⟩ := h
          obtain ⟨h1, h2⟩ := cD_ok hd
          exact ⟨h1, by simpa [I.dst] using h2⟩
        · simp only [Option.bind_eq_some_iff, Option.map_eq_some_iff] at h
          obtain ⟨d, hd, _, _, rfl⟩ := h
          obtain ⟨h1, h2⟩ := cD_ok hd
          exact ⟨h1, by simpa [I.dst] using h2⟩
        · simp at h
      · split at h
        · simp only [Option.bind_eq_some_iff, Option.map_eq_some_iff] at h
          obtain ⟨d, hd, _, _, _, _, _, _, _, _, _, _, _, _, rfl⟩ := h
          obtain ⟨h1, h2⟩ := cD_ok hd
          exact ⟨h1, by simpa [I.dst] using h2⟩
        · simp only [Option.bind_eq_some_iff, Option.map_eq_some_iff] at h
          obtain ⟨d, hd, _, _, _, _, _, _, _, _, _, _, _, _, rfl⟩ := h
          obtain ⟨h1, h2⟩ := cD_ok hd
          exact ⟨h1, by simpa [I.dst] using h2⟩
        · simp at h
      · simp only [Option.bind_eq_some_iff, Option.map_eq_some_iff] at h
        obtain ⟨d, hd, _, _, _, _, rfl⟩ := h
        obtain ⟨h1, h2⟩ := cD_ok hd
        exact ⟨h1, by simpa [I.dst] using h2⟩
      · simp only [Option.bind_eq_some_iff, Option.map_eq_some_iff] at h
        obtain ⟨d, hd, _, _, _, _, rfl⟩ := h
        obtain ⟨h1, h2⟩ := cD_ok hd
        exact ⟨h1, by simpa [I.dst] using h2⟩
      · split at h
        · simp only [Option.bind_eq_some_iff, Option.map_eq_some_iff] at h
          obtain ⟨d, hd, _, _, rfl⟩ := h
          obtain ⟨h1, h2⟩ := cD_ok hd
          exact ⟨h1, by simpa [I.dst] using h2⟩
        · simp at h
      · simp only [Option.bind_eq_some_iff, Option.map_eq_some_iff] at h
        obtain ⟨_, _, _, _, _, _, rfl⟩ := h
        simp [I.isCall] at hcall
      · simp at h
    case build t ps =>
      split at h
      · simp only [Option.bind_eq_some_iff, Option.map_eq_some_iff] at h
        obtain ⟨d, hd, _, _, _, _, _, _, rfl⟩ := h
        obtain ⟨h1, h2⟩ := cD_ok hd
        exact ⟨h1, by simpa [I.dst] using h2⟩
      · simp at h
    case slice t y lo hi mx =>
      split at h
      · simp only [Option.bind_eq_some_iff, Option.map_eq_some_iff] at h
        obtain ⟨d, hd, _, _, _, _, _, _, _, _, _, _, _, _, rfl⟩ := h
        obtain ⟨h1, h2⟩ := cD_ok hd
        split <;> exact ⟨h1, by simpa [I.dst] using h2⟩
      · simp only [Option.bind_eq_some_iff, Option.map_eq_some_iff] at h
        obtain ⟨d, hd, _, _, _, _, _, _, _, _, rfl⟩ := h
        obtain ⟨h1, h2⟩ := cD_ok hd
        exact ⟨h1, by simpa [I.dst] using h2⟩
      · simp at h
    case index t y z =>
      split at h
      · simp only [Option.bind_eq_some_iff, Option.map_eq_some_iff] at h
        obtain ⟨d, hd, _, _, _, _, rfl⟩ := h
        obtain ⟨h1, h2⟩ := cD_ok hd
        exact ⟨h1, by simpa [I.dst] using h2⟩
      · simp at h
    case convert t t' y =>
      split at h
      · simp only [Option.bind_eq_some_iff, Option.map_eq_some_iff] at h
        obtain ⟨d, hd, _, _, rfl⟩ := h
        obtain ⟨h1, h2⟩ := cD_ok hd
        exact ⟨h1, by simpa [I.dst] using h2⟩
      · simp at h
    case makeSlice t l c =>
      simp only [Option.bind_eq_some_iff] at h
      obtain ⟨d, hd, _, _, _, _, _, _, _, _, h⟩ := h
      obtain ⟨h1, h2⟩ := cD_ok hd
      split at h
      · split at h
        · simp only [Option.some.injEq] at h
          subst h
          exact ⟨h1, by simpa [I.dst] using h2⟩
        · simp at h
      · simp at h
    case fieldAddr t y f =>
      simp only [Option.bind_eq_some_iff] at h
      obtain ⟨d, hd, _, _, _, _, _, _, h⟩ := h
      obtain ⟨h1, h2⟩ := cD_ok hd
      split at h
      · simp at h
      · simp only [Option.some.injEq] at h
        subst h
        exact ⟨h1, by simpa [I.dst] using h2⟩
    all_goals
      simp only [Option.bind_eq_some_iff, Option.map_eq_some_iff] at h
      obtain ⟨d, hd, h⟩ := h
      obtain ⟨h1, h2⟩ := cD_ok hd
      repeat (obtain ⟨_, _, h⟩ := h)
      exact ⟨h1, by simpa [I.dst] using h2⟩

theorem compileT_dst {o : Oper} {m : Md} {i : I} (h : compileT P n o m = some i) : o.dst = i.dst ∧ ∀ k ∈ i.dst.toList, k < n := by
  rcases compileT_cases h with h1 | ⟨h1, h2⟩
  · exact compile_dst h1
  · subst h1; exact ⟨rfl, h2⟩

theorem sound_G {ops : Array Oper} {k : Nat} {o : Oper} {m : Md} {g : GI} {K : St → Prop} {next : Act → World → Prop} {Q : Exit → Act → World → Prop} (hk : ops[k]? = some o) (hc : cG P n ops o m = some g)
    (hw : wpG P g K s) (sim : Sim x n s a w) (hnext : ∀ s' a' w', Sim x n s' a' w' → K s' → next a' w') : wpOp P ops Q k next a w := by
  unfold wpOp
  simp only [hk]
  have core : ∀ i, compileT P n o m = some i → wpG P (none, i) K s → o.wp P a w next Q := by
    intro i hi hwi
    have hi : compile P n o m = some i := by
      rcases compileT_cases hi with h1 | ⟨h1, _⟩
      · exact h1
      · rw [h1, wpG_det (g := (none, _)) rfl] at hwi
        obtain ⟨s', h2, _⟩ := hwi
        simp [gstep, step] at h2
    cases hcall : i.isCall with
    | true =>
      cases i <;> simp [I.isCall] at hcall
      rw [wpG_call (g := (none, _)) rfl] at hwi
      exact sound_call hi hwi sim next Q hnext
    | false =>
      rw [wpG_det (g := (none, i)) hcall] at hwi
      obtain ⟨s', h1, h2⟩ := hwi
      exact sound_one hi (s' := s') h1 sim next Q (fun a' w' hs => hnext s' a' w' hs h2)
  unfold cG at hc
  split at hc
  · rename_i hg
    simp only [Option.map_eq_some_iff] at hc
    obtain ⟨i, hi, rfl⟩ := hc
    rw [if_pos (by simp [Region.wanted, hg])]
    exact .inl (core i hi hw)
  · rename_i j want hg
    split at hc
    · rename_i d hd
      split at hc
      · rename_i hcond
        simp only [Option.map_eq_some_iff] at hc
        obtain ⟨i, hi, rfl⟩ := hc
        obtain ⟨A, μ, OH, Ot, ht, h0, hr, st⟩ := sim
        have hy : ∀ b, gd want (s.t d) = some b → (yielded ops a.tmps j = some b ∨ (yielded ops a.tmps j = none ∧ b = !want)) := by
          intro b hb
          have hrd := hr d hcond
          rw [Array.getD_eq_getD_getElem?] at hrd
          rw [Array.getElem?_eq_getElem (show d < a.tmps.size by rw [ht]; exact hcond)] at hrd
          simp only [Option.getD_some] at hrd
          unfold yielded
          rw [hd]
          simp only [Option.bind_some]
          rw [Array.getElem?_eq_getElem (show d < a.tmps.size by rw [ht]; exact hcond)]
          unfold gd at hb
          split at hb
          · rename_i b' hs
            rw [hs] at hrd
            simp only [Rep] at hrd
            simp only [Option.some.injEq] at hb
            subst hb
            left; rw [hrd.1]
          · rename_i vs hs
            rw [hs] at hrd
            simp only [Rep] at hrd
            simp only [Option.some.injEq] at hb
            right; rw [hrd.1]; exact ⟨rfl, hb.symm⟩
          · simp at hb
        have sim : Sim x n s a w := ⟨A, μ, OH, Ot, ht, h0, hr, st⟩
        have hdst := compileT_dst hi
        have skipSim : Sim x n (TL.skip i s) (a.put o.dst undef) w := by
          rw [hdst.1]
          unfold TL.skip
          cases hid : i.dst with
          | none => exact ⟨A, μ, OH, Ot, by simpa [Act.put] using ht, by simpa [Act.put] using h0, hr, st⟩
          | some k =>
            exact put_same ht h0 hr (hdst.2 k (by simp [hid])) (Od := []) (by simp [Rep]) st (fun p => by simp)
        cases hcall : i.isCall with
        | true =>
          cases i <;> simp [I.isCall] at hcall
          rw [wpG_call (g := (some (d, want), _)) rfl] at hw
          obtain ⟨b, hb, h1, h2⟩ := hw
          have hyb := hy b hb
          by_cases hbw : b = want
          · have hyb : yielded ops a.tmps j = some b := hyb.resolve_right (fun h => by rw [h.2] at hbw; cases want <;> simp at hbw)
            rw [if_pos (by simp [Region.wanted, hg, hyb, hbw])]
            exact .inl (core _ hi (by rw [wpG_call (g := (none, _)) rfl]; exact h1 hbw))
          · rw [if_neg (by rcases hyb with hyb | ⟨hyb, _⟩ <;> simp [Region.wanted, hg, hyb, hbw])]
            exact hnext _ _ _ skipSim (h2 hbw)
        | false =>
          rw [wpG_det (g := (some (d, want), i)) hcall] at hw
          obtain ⟨s', h1, h2⟩ := hw
          unfold gstep at h1
          simp only at h1
          split at h1
          · rename_i b hb
            have hyb := hy b hb
            split at h1
            · rename_i hbw
              have hyb : yielded ops a.tmps j = some b := hyb.resolve_right (fun h => by rw [h.2] at hbw; cases want <;> simp at hbw)
              rw [if_pos (by simp [Region.wanted, hg, hyb, hbw])]
              exact .inl (core _ hi (by rw [wpG_det (g := (none, i)) hcall]; exact ⟨s', h1, h2⟩))
            · rename_i hbw
              rw [if_neg (by rcases hyb with hyb | ⟨hyb, _⟩ <;> simp [Region.wanted, hg, hyb, hbw])]
              simp only [Option.some.injEq] at h1
              subst h1
              exact hnext _ _ _ skipSim h2
          · simp at h1
      · simp at hc
    · simp at hc
end

end Go.TL
