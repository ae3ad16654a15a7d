/- A region does what its instructions lead to, in whatever order its edges allow. No program, no conditions. -/
import Derived.Test.YticcekapikfhaaaTLF
namespace Go.TL

section
variable {P : Program} {x : Cx} {n : Nat} {ops : Array Oper} {Q : Exit → Act → World → Prop} {K : St → Prop}

theorem drop_head {l : List Oper} {k : Nat} {o : Oper} {os : List Oper} (h : ops.toList.drop k = o :: os) : ops[k]? = some o ∧ ops.toList.drop (k + 1) = os ∧ l = l := by
  refine ⟨?_, ?_, rfl⟩
  · have := congrArg (fun l => l[0]?) h
    simpa using this
  · rw [← List.drop_drop, h]; rfl

/-- one after the other -/
theorem seq_sound (hq : ∀ s' a' w', Sim x n s' a' w' → K s' → Q .normal a' w') : ∀ (l : List Oper) (k : Nat) (ms : List Md) (gs : List GI) (s : St) (a : Act) (w : World), ops.toList.drop k = l →
    cOps P n ops l ms = some gs → wpL P gs K s → Sim x n s a w → wpOps P ops Q (List.range' k l.length) a w
  | [], k, ms, gs, s, a, w, _, hc, hw, sim => by
    simp only [cOps, Option.some.injEq] at hc
    subst hc
    exact hq s a w sim hw
  | o :: os, k, ms, gs, s, a, w, hl, hc, hw, sim => by
    obtain ⟨h1, h2, _⟩ := drop_head (l := []) hl
    simp only [cOps] at hc
    split at hc
    · rename_i g gs' hg hgs
      simp only [Option.some.injEq] at hc
      subst hc
      rw [List.length_cons, List.range'_succ, wpOps_cons]
      exact sound_G h1 hg hw sim fun s' a' w' sim' hk => seq_sound hq os (k + 1) ms.tail gs' s' a' w' h2 hgs hk sim'
    · simp at hc

theorem region_sound {id : Nat} {ms : List Md} {gs : List GI} {s : St} {a : Act} {w : World} (hc : cOps P n ops ops.toList ms = some gs) (hw : wpL P gs K s) (sim : Sim x n s a w)
    (hq : ∀ s' a' w', Sim x n s' a' w' → K s' → Q .normal a' w') : (Code.region id ops false).wp P Q a w := by
  refine wp_region ?_
  have := seq_sound hq ops.toList 0 ms gs s a w (by simp) hc hw sim
  rwa [Array.length_toList, ← List.range_eq_range'] at this
end

/-! any order -/

theorem cXs_each {P : Program} {n : Nat} : ∀ (xs : List Operand) (ts : List TypeId) (ys : List X), cXs P n ts xs = some ys → ∀ y ∈ ys, ∃ o, XOk n y o
  | [], ts, ys, h, y, hy => by simp only [cXs, Option.some.injEq] at h; subst h; simp at hy
  | x :: xs, ts, ys, h, y, hy => by
    simp only [cXs] at h
    split at h
    · rename_i z r hz hrs
      simp only [Option.some.injEq] at h
      subst h
      rcases List.mem_cons.1 hy with rfl | hy
      · exact ⟨x, cX_ok hz⟩
      · exact cXs_each xs ts.tail r hrs y hy
    · simp at h
/-- what a call reads stands for values -/
theorem seen_sim {P : Program} {x : Cx} {n : Nat} {ops : Array Oper} {o : Oper} {m : Md} {g : GI} {s : St} {a : Act} {w : World} (hc : cG P n ops o m = some g) (sim : Sim x n s a w) : Seen g s := by
  intro hcall y hy
  obtain ⟨A, μ, OH, Ot, ht, h0, hr, st⟩ := sim
  rw [← st.inv.len]
  obtain ⟨i, hi, hgi⟩ : ∃ i, compileT P n o m = some i ∧ g.2 = i := by
    unfold cG at hc
    split at hc
    · simp only [Option.map_eq_some_iff] at hc
      obtain ⟨i, h1, rfl⟩ := hc
      exact ⟨i, h1, rfl⟩
    · split at hc
      · split at hc
        · simp only [Option.map_eq_some_iff] at hc
          obtain ⟨i, h1, rfl⟩ := hc
          exact ⟨i, h1, rfl⟩
        · simp at hc
      · simp at hc
  rw [hgi] at hcall hy
  cases i <;> (try (simp [I.isCall] at hcall; done))
  rename_i rw d f args
  have hcc : compile P n o m = some (.call rw d f args) := by
    unfold compileT at hi
    split at hi
    · rename_i j hj; simp only [Option.some.injEq] at hi; rw [hj, hi]
    · split at hi
      · simp at hi
      · split at hi <;> simp at hi
  obtain ⟨c, gg, hop, hcal, hd, hg, hargs⟩ := compile_call hcc
  obtain ⟨oy, hoy⟩ : ∃ oy, XOk n y oy := by
    simp only [I.ops, List.mem_cons] at hy
    rcases hy with rfl | hy
    · exact ⟨gg, hg⟩
    · exact cXs_each _ _ _ hargs y hy
  exact Rep.seen _ _ _ (get_rep hoy hr)


def directs (o : Oper) : List Nat := (o.after.toList.filter fun e => Region.binds .any e).map (·.on)
def maskOf (acc : List Nat) (ds : List Nat) : Nat := ds.foldl (fun m k => m ||| (2 ^ k ||| acc.getD k 0)) 0
def masks : List Oper → List Nat → List Nat
  | [], acc => acc
  | o :: os, acc => masks os (acc ++ [maskOf acc (directs o)])
def okEdges : List Oper → Nat → Bool
  | [], _ => true
  | o :: os, i => (directs o).all (· < i) && okEdges os (i + 1)
def okPairs (ms : List Nat) : List (Nat × GI) → Bool
  | [] => true
  | (j, g) :: rest => (rest.all fun p => indepF g p.2 || (ms.getD p.1 0).testBit j) && okPairs ms rest
def number : Nat → List GI → List (Nat × GI)
  | _, [] => []
  | k, g :: gs => (k, g) :: number (k + 1) gs
/-- may the region's operations be done in any order that their edges allow? -/
def okRegion (ops : Array Oper) (gs : List GI) : Bool := okEdges ops.toList 0 && okPairs (masks ops.toList []) (number 0 gs)

theorem maskOf_bit (acc : List Nat) (j : Nat) : ∀ (ds : List Nat) (m : Nat), (ds.foldl (fun m k => m ||| (2 ^ k ||| acc.getD k 0)) m).testBit j = true → m.testBit j = true ∨ ∃ k ∈ ds, j = k ∨ (acc.getD k 0).testBit j = true
  | [], m, h => .inl h
  | d :: ds, m, h => by
    rcases maskOf_bit acc j ds _ h with h1 | ⟨k, hk, h2⟩
    · rw [Nat.testBit_or, Nat.testBit_or] at h1
      simp only [Bool.or_eq_true] at h1
      rcases h1 with h1 | h1 | h1
      · exact .inl h1
      · refine .inr ⟨d, by simp, .inl ?_⟩
        rw [Nat.testBit_two_pow] at h1
        simpa using (of_decide_eq_true h1).symm
      · exact .inr ⟨d, by simp, .inr h1⟩
    · exact .inr ⟨k, by simp [hk], h2⟩

theorem masks_prefix : ∀ (os : List Oper) (acc : List Nat) (i : Nat), i < acc.length → (masks os acc).getD i 0 = acc.getD i 0
  | [], acc, i, _ => rfl
  | o :: os, acc, i, h => by
    rw [masks, masks_prefix os _ i (by simp; omega)]
    simp [List.getD_eq_getElem?_getD, List.getElem?_append_left h]

theorem masks_spec : ∀ (os : List Oper) (acc : List Nat) (i : Nat) (o : Oper), os[i]? = some o → okEdges os acc.length = true → ∀ j, ((masks os acc).getD (acc.length + i) 0).testBit j = true →
    ∃ k ∈ directs o, k < acc.length + i ∧ (j = k ∨ ((masks os acc).getD k 0).testBit j = true)
  | [], acc, i, o, h, _, _, _ => by simp at h
  | q :: os, acc, 0, o, h, hok, j, hb => by
    simp at h; subst h
    simp only [okEdges, Bool.and_eq_true, List.all_eq_true, decide_eq_true_eq] at hok
    simp only [masks] at hb ⊢
    rw [masks_prefix os _ _ (by simp)] at hb
    simp [List.getD_eq_getElem?_getD] at hb
    rcases maskOf_bit acc j (directs q) 0 hb with h1 | ⟨k, hk, h2⟩
    · simp at h1
    · have hlt := hok.1 k hk
      refine ⟨k, hk, by omega, h2.imp id fun h3 => ?_⟩
      rw [masks_prefix os _ k (by simp; omega)]
      simpa [List.getD_eq_getElem?_getD, List.getElem?_append_left hlt] using h3
  | q :: os, acc, i + 1, o, h, hok, j, hb => by
    simp only [okEdges, Bool.and_eq_true] at hok
    simp only [masks] at hb ⊢
    have := masks_spec os (acc ++ [maskOf acc (directs q)]) i o (by simpa using h) (by simpa using hok.2) j (by
      rw [List.length_append, List.length_singleton, show acc.length + 1 + i = acc.length + (i + 1) by omega]; exact hb)
    obtain ⟨k, h1, h2, h3⟩ := this
    refine ⟨k, h1, by simp at h2; omega, h3⟩

theorem number_map : ∀ (k : Nat) (gs : List GI), (number k gs).map (·.2) = gs
  | _, [] => rfl
  | k, g :: gs => by simp [number, number_map]
theorem number_get : ∀ (k : Nat) (gs : List GI) (p : Nat × GI), p ∈ number k gs → k ≤ p.1 ∧ gs[p.1 - k]? = some p.2
  | k, g :: gs, p, h => by
    simp only [number, List.mem_cons] at h
    rcases h with rfl | h
    · simp
    · obtain ⟨h1, h2⟩ := number_get (k + 1) gs p h
      refine ⟨by omega, ?_⟩
      rw [show p.1 - k = (p.1 - (k + 1)) + 1 by omega]; simpa using h2
theorem number_mem : ∀ (k : Nat) (gs : List GI) (i : Nat) (g : GI), gs[i]? = some g → (k + i, g) ∈ number k gs
  | k, q :: gs, 0, g, h => by simp at h; subst h; simp [number]
  | k, q :: gs, i + 1, g, h => by
    simp only [number, List.mem_cons]
    right
    have := number_mem (k + 1) gs i g (by simpa using h)
    rwa [show k + 1 + i = k + (i + 1) by omega] at this
theorem number_sorted : ∀ (k : Nat) (gs : List GI), (number k gs).Pairwise fun p q => p.1 < q.1
  | _, [] => List.Pairwise.nil
  | k, g :: gs => by
    simp only [number]
    exact List.Pairwise.cons (fun q hq => by have := (number_get _ _ q hq).1; simp only; omega) (number_sorted (k + 1) gs)

theorem okPairs_spec {ms : List Nat} : ∀ {l : List (Nat × GI)}, okPairs ms l = true → ∀ pre q post, l = pre ++ q :: post → ∀ p ∈ pre, indepF p.2 q.2 = true ∨ (ms.getD q.1 0).testBit p.1 = true
  | [], _, pre, q, post, h, _, _ => by simp at h
  | (j, g) :: rest, hok, [], q, post, _, p, hp => by simp at hp
  | (j, g) :: rest, hok, r :: pre, q, post, h, p, hp => by
    simp only [okPairs, Bool.and_eq_true, List.all_eq_true, Bool.or_eq_true] at hok
    simp only [List.cons_append, List.cons.injEq] at h
    obtain ⟨rfl, h⟩ := h
    simp only [List.mem_cons] at hp
    rcases hp with rfl | hp
    · exact hok.1 q (by rw [h]; simp)
    · exact okPairs_spec hok.2 pre q post h p hp

theorem cOps_get {P : Program} {n : Nat} {ops : Array Oper} : ∀ (l : List Oper) (ms : List Md) (gs : List GI), cOps P n ops l ms = some gs → gs.length = l.length ∧ ∀ (i : Nat) (o : Oper) (g : GI), l[i]? = some o → gs[i]? = some g → ∃ m, cG P n ops o m = some g
  | [], ms, gs, h => by simp only [cOps, Option.some.injEq] at h; subst h; simp
  | q :: os, ms, gs, h => by
    simp only [cOps] at h
    split at h
    · rename_i g gs' hg hgs
      simp only [Option.some.injEq] at h
      subst h
      obtain ⟨h1, h2⟩ := cOps_get os ms.tail gs' hgs
      refine ⟨by simp [h1], fun i o g' ho hg' => ?_⟩
      cases i with
      | zero => simp at ho hg'; subst ho; subst hg'; exact ⟨_, hg⟩
      | succ i => exact h2 i o g' (by simpa using ho) (by simpa using hg')
    · simp at h

/-- what is not listed yet -/
def unlisted (listed : Array Bool) (l : List (Nat × GI)) : List (Nat × GI) := l.filter fun p => !listed.getD p.1 true

theorem unlisted_set {listed : Array Bool} {i : Nat} {l pre post : List (Nat × GI)} {g : GI} (hs : l.Pairwise fun p q => p.1 < q.1) (hi : i < listed.size) (h : unlisted listed l = pre ++ (i, g) :: post) :
    unlisted (listed.setIfInBounds i true) l = pre ++ post := by
  have h1 : unlisted (listed.setIfInBounds i true) l = (unlisted listed l).filter fun p => p.1 != i := by
    unfold unlisted
    rw [List.filter_filter]
    apply List.filter_congr
    intro p _
    by_cases e : p.1 = i
    · simp [e, hi]
    · simp [e, Array.getD_eq_getD_getElem?, Array.getElem?_setIfInBounds_ne (fun q => e q.symm)]
  have hsub : (unlisted listed l).Pairwise fun p q => p.1 < q.1 := hs.sublist List.filter_sublist
  rw [h] at hsub
  rw [h1, h, List.filter_append, List.filter_cons_of_neg (by simp)]
  rw [List.pairwise_append] at hsub
  obtain ⟨s1, s2, s3⟩ := hsub
  rw [List.pairwise_cons] at s2
  rw [List.filter_eq_self.2 (fun p hp => ?_), List.filter_eq_self.2 (fun p hp => ?_)]
  · have := s2.1 p hp; simp; omega
  · have := s3 p hp (i, g) (by simp); simp at this ⊢; omega

section
variable {P : Program} {x : Cx} {n : Nat} {ops : Array Oper} {Q : Exit → Act → World → Prop} {K : St → Prop}

theorem any_sound {ms : List Md} {gs : List GI} (hc : cOps P n ops ops.toList ms = some gs) (hok : okRegion ops gs = true) (hq : ∀ s' a' w', Sim x n s' a' w' → K s' → Q .normal a' w') :
    ∀ (fuel : Nat) (listed : Array Bool) (s : St) (a : Act) (w : World), listed.size = ops.size → (unlisted listed (number 0 gs)).length = fuel →
      (∀ i, listed.getD i true = true → ∀ o, ops[i]? = some o → ∀ k ∈ directs o, listed.getD k false = true) →
      wpL P ((unlisted listed (number 0 gs)).map (·.2)) K s → Sim x n s a w → wpAny P .any ops Q fuel listed a w := by
  obtain ⟨hlen, hget⟩ := cOps_get _ _ _ hc
  simp only [okRegion, Bool.and_eq_true] at hok
  obtain ⟨hed, hpr⟩ := hok
  have hops : ∀ (i : Nat) (o : Oper), ops[i]? = some o → ops.toList[i]? = some o := fun i o h => by rw [Array.getElem?_toList]; exact h
  -- direct edges lead back
  have hback : ∀ i o, ops[i]? = some o → ∀ k ∈ directs o, k < i := by
    have : ∀ (l : List Oper) (b i : Nat) (o : Oper), okEdges l b = true → l[i]? = some o → ∀ k ∈ directs o, k < b + i := by
      intro l
      induction l with
      | nil => intro b i o _ h; simp at h
      | cons q l ih =>
        intro b i o hok h k hk
        simp only [okEdges, Bool.and_eq_true, List.all_eq_true, decide_eq_true_eq] at hok
        cases i with
        | zero => simp at h; subst h; exact hok.1 k hk
        | succ i => have := ih (b + 1) i o hok.2 (by simpa using h) k hk; omega
    intro i o h k hk
    have := this ops.toList 0 i o hed (hops i o h) k hk
    omega
  -- whoever is listed, all before it are
  have hdown : ∀ (listed : Array Bool), listed.size = ops.size → (∀ i, listed.getD i true = true → ∀ o, ops[i]? = some o → ∀ k ∈ directs o, listed.getD k false = true) →
      ∀ i o, ops[i]? = some o → (∀ k ∈ directs o, listed.getD k false = true) → ∀ j, ((masks ops.toList []).getD i 0).testBit j = true → listed.getD j false = true := by
    intro listed hsz hcl i
    induction i using Nat.strongRecOn with
    | _ i ih =>
      intro o ho hd j hj
      have := masks_spec ops.toList [] i o (hops i o ho) (by simpa using hed) j (by simpa using hj)
      obtain ⟨k, hk, hlt, h3⟩ := this
      simp at hlt
      have hkl := hd k hk
      rcases h3 with rfl | h3
      · exact hkl
      · have hks : k < ops.size := by
          have : i < ops.size := by
            rcases Nat.lt_or_ge i ops.size with h | h
            · exact h
            · rw [Array.getElem?_eq_none h] at ho; simp at ho
          omega
        refine ih k hlt ops[k] (Array.getElem?_eq_getElem hks) ?_ j h3
        refine hcl k ?_ _ (Array.getElem?_eq_getElem hks)
        have hk2 : k < listed.size := by omega
        simpa [Array.getD_eq_getD_getElem?, hk2] using hkl
  have hready : ∀ (listed : Array Bool), listed.size = ops.size → ∀ i, i ∈ Region.ready .any ops listed ↔ i < ops.size ∧ listed.getD i true = false ∧ ∃ o, ops[i]? = some o ∧ ∀ k ∈ directs o, listed.getD k false = true := by
    intro listed hsz i
    simp only [Region.ready, List.mem_filter, List.mem_range, Bool.and_eq_true, Bool.not_eq_true']
    constructor
    · rintro ⟨h1, h2, h3⟩
      refine ⟨h1, h2, ops[i], Array.getElem?_eq_getElem h1, fun k hk => ?_⟩
      rw [Array.getElem?_eq_getElem h1] at h3
      simp only [Option.map_some, Option.getD_some, Array.all_eq_true', Bool.or_eq_true, Bool.not_eq_true'] at h3
      simp only [directs, List.mem_map, List.mem_filter] at hk
      obtain ⟨e, ⟨he1, he2⟩, rfl⟩ := hk
      rcases h3 e (by simpa using he1) with h | h
      · rw [he2] at h; simp at h
      · exact h
    · rintro ⟨h1, h2, o, ho, h3⟩
      refine ⟨h1, h2, ?_⟩
      rw [ho]
      simp only [Option.map_some, Option.getD_some, Array.all_eq_true', Bool.or_eq_true, Bool.not_eq_true']
      intro e he
      cases hb : Region.binds .any e with
      | false => exact .inl rfl
      | true => exact .inr (h3 e.on (by simp only [directs, List.mem_map, List.mem_filter]; exact ⟨e, ⟨by simpa using he, hb⟩, rfl⟩))
  have hmemN : ∀ i, i < ops.size → ∃ g, (i, g) ∈ number 0 gs ∧ gs[i]? = some g := by
    intro i hi
    have : i < gs.length := by rw [hlen]; simpa using hi
    refine ⟨gs[i], ?_, List.getElem?_eq_getElem this⟩
    have := number_mem 0 gs i gs[i] (List.getElem?_eq_getElem this)
    simpa using this
  intro fuel
  induction fuel with
  | zero =>
    intro listed s a w hsz hl hcl hw sim
    have hnil : unlisted listed (number 0 gs) = [] := List.eq_nil_of_length_eq_zero hl
    refine ⟨?_, ?_⟩
    · apply List.eq_nil_iff_forall_not_mem.2
      intro i hi
      obtain ⟨h1, h2, _⟩ := (hready listed hsz i).1 hi
      obtain ⟨g, hg, _⟩ := hmemN i h1
      have : (i, g) ∈ unlisted listed (number 0 gs) := List.mem_filter.2 ⟨hg, by simpa using h2⟩
      rw [hnil] at this; simp at this
    · rw [hnil] at hw
      exact hq s a w sim hw
  | succ fuel ih =>
    intro listed s a w hsz hl hcl hw sim
    refine ⟨fun hr => ?_, fun i hi => ?_⟩
    · -- none is ready: none is left
      exfalso
      obtain ⟨p, rest, hp⟩ : ∃ p rest, unlisted listed (number 0 gs) = p :: rest := by
        cases h : unlisted listed (number 0 gs) with
        | nil => rw [h] at hl; simp at hl
        | cons p rest => exact ⟨p, rest, rfl⟩
      have hpm : p ∈ unlisted listed (number 0 gs) := by rw [hp]; simp
      obtain ⟨hpn, hpl⟩ := List.mem_filter.1 hpm
      have hpg := (number_get 0 gs p hpn).2
      have hpi : p.1 < ops.size := by
        rcases Nat.lt_or_ge p.1 ops.size with h | h
        · exact h
        · rw [List.getElem?_eq_none (by rw [hlen]; simpa using h)] at hpg; simp at hpg
      have : p.1 ∈ Region.ready .any ops listed := by
        rw [hready listed hsz]
        refine ⟨hpi, by simpa using hpl, ops[p.1], Array.getElem?_eq_getElem hpi, fun k hk => ?_⟩
        have hklt := hback p.1 _ (Array.getElem?_eq_getElem hpi) k hk
        cases hkl : listed.getD k false with
        | true => rfl
        | false =>
          exfalso
          obtain ⟨g, hg, _⟩ := hmemN k (by omega)
          have hkm : (k, g) ∈ unlisted listed (number 0 gs) := List.mem_filter.2 ⟨hg, by
            have : k < listed.size := by omega
            simpa [Array.getD_eq_getD_getElem?, this] using hkl⟩
          have hsrt : (unlisted listed (number 0 gs)).Pairwise fun p q => p.1 < q.1 := (number_sorted 0 gs).sublist List.filter_sublist
          rw [hp] at hsrt hkm
          rw [List.pairwise_cons] at hsrt
          simp only [List.mem_cons] at hkm
          rcases hkm with h | h
          · rw [← h] at hklt; simp at hklt
          · have := hsrt.1 _ h; simp at this; omega
      rw [hr] at this; simp at this
    · obtain ⟨h1, h2, o, ho, h3⟩ := (hready listed hsz i).1 hi
      obtain ⟨g, hg, hgg⟩ := hmemN i h1
      have hm : (i, g) ∈ unlisted listed (number 0 gs) := List.mem_filter.2 ⟨hg, by simpa using h2⟩
      obtain ⟨pre, post, hpp⟩ := List.append_of_mem hm
      obtain ⟨m, hcg⟩ := hget i o g (hops i o ho) hgg
      have hind : ∀ p ∈ pre.map (·.2), indepF p g = true := by
        intro p hp
        obtain ⟨q, hq1, rfl⟩ := List.mem_map.1 hp
        have hqm : q ∈ unlisted listed (number 0 gs) := by rw [hpp]; simp [hq1]
        obtain ⟨hqn, hql⟩ := List.mem_filter.1 hqm
        have hsrt : (unlisted listed (number 0 gs)).Pairwise fun p q => p.1 < q.1 := (number_sorted 0 gs).sublist List.filter_sublist
        rw [hpp, List.pairwise_append] at hsrt
        have hlt := hsrt.2.2 q hq1 (i, g) (by simp)
        -- both in the whole list, in this order
        obtain ⟨pre2, post2, hw2⟩ := List.append_of_mem hg
        have hqpre : q ∈ pre2 := by
          have hqn2 := hqn
          rw [hw2] at hqn2
          have hs2 := number_sorted 0 gs
          rw [hw2, List.pairwise_append] at hs2
          rcases List.mem_append.1 hqn2 with h | h
          · exact h
          · simp only [List.mem_cons] at h
            rcases h with h | h
            · rw [h] at hlt; simp at hlt
            · have := (List.pairwise_cons.1 hs2.2.1).1 q h
              simp at this hlt; omega
        rcases okPairs_spec hpr pre2 (i, g) post2 hw2 q hqpre with h | h
        · exact h
        · exfalso
          have := hdown listed hsz hcl i o ho h3 q.1 h
          have hq2 : q.1 < listed.size := by
            rcases Nat.lt_or_ge q.1 listed.size with h' | h'
            · exact h'
            · simp [Array.getD_eq_getD_getElem?, Array.getElem?_eq_none h'] at this
          simp [Array.getD_eq_getD_getElem?, hq2] at this hql
          rw [this] at hql; simp at hql
      rw [hpp, List.map_append, List.map_cons] at hw
      have hpull := pull hind (seen_sim hcg sim) hw
      have hset := unlisted_set (number_sorted 0 gs) (show i < listed.size by omega) hpp
      refine sound_G ho hcg hpull sim fun s' a' w' sim' hk => ?_
      refine ih (listed.setIfInBounds i true) s' a' w' (by simpa using hsz) ?_ ?_ ?_ sim'
      · rw [hset]; rw [hpp] at hl; simp at hl ⊢; omega
      · intro j hj o' ho' k hk
        have mono : ∀ k, listed.getD k false = true → (listed.setIfInBounds i true).getD k false = true := by
          intro k hk
          by_cases e : k = i
          · subst e; simp [Array.getD_eq_getD_getElem?, show k < listed.size by omega]
          · rw [Array.getD_eq_getD_getElem?, Array.getElem?_setIfInBounds_ne (fun q => e q.symm), ← Array.getD_eq_getD_getElem?]; exact hk
        by_cases e : j = i
        · subst e
          rw [ho] at ho'
          obtain rfl : o = o' := by simpa using ho'
          exact mono k (h3 k hk)
        · rw [Array.getD_eq_getD_getElem?, Array.getElem?_setIfInBounds_ne (fun q => e q.symm), ← Array.getD_eq_getD_getElem?] at hj
          exact mono k (hcl j hj o' ho' k hk)
      · rw [hset, List.map_append]; exact hk

theorem region_any {id : Nat} {ms : List Md} {gs : List GI} {s : St} {a : Act} {w : World} (hm : P.follows .mixedOrders = true) (hc : cOps P n ops ops.toList ms = some gs) (hok : okRegion ops gs = true)
    (hw : wpL P gs K s) (sim : Sim x n s a w) (hq : ∀ s' a' w', Sim x n s' a' w' → K s' → Q .normal a' w') : (Code.region id ops true).wp P Q a w := by
  refine wp_region_any hm ?_
  have hlen := (cOps_get _ _ _ hc).1
  have hun : unlisted (Array.replicate ops.size false) (number 0 gs) = number 0 gs := by
    unfold unlisted
    apply List.filter_eq_self.2
    intro p hp
    have hpg := (number_get 0 gs p hp).2
    have : p.1 < ops.size := by
      rcases Nat.lt_or_ge p.1 ops.size with h | h
      · exact h
      · rw [List.getElem?_eq_none (by rw [hlen]; simpa using h)] at hpg; simp at hpg
    simp [Array.getD_eq_getD_getElem?, this]
  have hl : (number 0 gs).length = ops.size := by
    have := congrArg List.length (number_map 0 gs)
    rw [List.length_map] at this
    rw [this, hlen]; simp
  refine any_sound hc hok hq ops.size _ s a _ (by simp) (by rw [hun, hl]) (fun i hi o ho => ?_) (by rw [hun, number_map]; exact hw) ?_
  · exfalso
    have : i < ops.size := by
      rcases Nat.lt_or_ge i ops.size with h | h
      · exact h
      · rw [Array.getElem?_eq_none h] at ho; simp at ho
    simp [Array.getD_eq_getD_getElem?, this] at hi
  · obtain ⟨A, μ, OH, Ot, ht, h0, hr, st⟩ := sim
    exact ⟨A, μ, OH, Ot, ht, h0, hr, st.heap rfl ⟨rfl, rfl, rfl⟩⟩
end


/-! either order -/

/-- one instruction, or two that may be done in either order -/
inductive It (α : Type) where
  | one (a : α)
  | two (a b : α)
  deriving Inhabited
def It.list {α : Type} : It α → List α
  | .one a => [a]
  | .two a b => [a, b]
def It.map {α β : Type} (f : α → β) : It α → It β
  | .one a => .one (f a)
  | .two a b => .two (f a) (f b)
def wpIt (P : Program) (it : It GI) (K : St → Prop) (s : St) : Prop :=
  match it with
  | .one g => wpG P g K s
  | .two g h => wpG P g (wpG P h K) s ∧ wpG P h (wpG P g K) s
def wpIts (P : Program) : List (It GI) → (St → Prop) → St → Prop
  | [], Q, s => Q s
  | it :: its, Q, s => wpIt P it (wpIts P its Q) s
theorem wpIt_mono {P : Program} {it : It GI} {K K' : St → Prop} {s : St} (h : wpIt P it K s) (hk : ∀ s', K s' → K' s') : wpIt P it K' s := by
  cases it with
  | one g => exact wpG_mono h hk
  | two g g' => exact ⟨wpG_mono h.1 fun s' hs => wpG_mono hs hk, wpG_mono h.2 fun s' hs => wpG_mono hs hk⟩
theorem wpIts_mono {P : Program} : ∀ (its : List (It GI)) {K K' : St → Prop} {s : St}, wpIts P its K s → (∀ s', K s' → K' s') → wpIts P its K' s
  | [], _, _, s, h, hk => hk s h
  | it :: its, _, _, s, h, hk => wpIt_mono h fun s' hs => wpIts_mono its hs hk
def It.callLast : It (Nat × GI) → Bool
  | .one _ => true
  | .two _ q => q.2.2.isCall
abbrev It.gi (X : It (Nat × GI)) : It GI := X.map (·.2)
theorem swapIt {P : Program} {X : It (Nat × GI)} {g : GI} {K : St → Prop} {s : St} (hi : ∀ x ∈ X.list, indep x.2 g = true) (hc : X.callLast = true) (h : wpIt P X.gi (wpG P g K) s) : wpG P g (wpIt P X.gi K) s := by
  cases X with
  | one p => exact swap (hi p (by simp [It.list])) h
  | two p q =>
    obtain ⟨h1, h2⟩ := h
    have ip := hi p (by simp [It.list])
    have iq := hi q (by simp [It.list])
    have e1 := swap ip (wpG_mono h1 fun s' hs => swap iq hs)
    have e2 := swap iq (wpG_mono h2 fun s' hs => swap ip hs)
    simp only [It.callLast] at hc
    have hg : g.2.isCall = false := by
      cases hh : g.2.isCall with
      | false => rfl
      | true => exact absurd ⟨hc, hh⟩ (indep_spec iq (.inl hc)).2.2.2.2.2
    rw [wpG_det hg] at e1 e2 ⊢
    obtain ⟨s1, k1, k2⟩ := e1
    obtain ⟨s2, k3, k4⟩ := e2
    rw [k1] at k3
    obtain rfl : s1 = s2 := by simpa using k3
    exact ⟨s1, k1, k2, k4⟩
theorem pullIt {P : Program} {g : GI} {Q : St → Prop} {Y : It (Nat × GI)} {rest : List (It (Nat × GI))} (hY : ∀ {K : St → Prop} {s : St}, wpIt P Y.gi K s → wpG P g (wpIts P (rest.map It.gi) K) s) {post : List (It (Nat × GI))} :
    ∀ {pre : List (It (Nat × GI))} {s : St}, (∀ X ∈ pre, (∀ x ∈ X.list, indep x.2 g = true) ∧ X.callLast = true) → wpIts P ((pre ++ Y :: post).map It.gi) Q s → wpG P g (wpIts P ((pre ++ rest ++ post).map It.gi) Q) s
  | [], s, _, h => by
    simp only [List.nil_append, List.map_cons, wpIts, List.map_append] at h ⊢
    refine wpG_mono (hY h) fun s' hs => ?_
    clear hY
    induction rest generalizing s' with
    | nil => exact hs
    | cons X r ih => exact wpIt_mono hs fun s2 hs2 => ih s2 hs2
  | X :: pre, s, hi, h => by
    simp only [List.cons_append, List.map_cons, wpIts] at h ⊢
    exact swapIt (hi X (by simp)).1 (hi X (by simp)).2 (wpIt_mono h fun s' hs => pullIt hY (fun Y hY => hi Y (by simp [hY])) hs)

def okIts (ms : List Nat) : List (It (Nat × GI)) → Bool
  | [] => true
  | X :: rest => (X.list.all fun x => rest.all fun Y => Y.list.all fun y => indep x.2 y.2 || (ms.getD y.1 0).testBit x.1) && X.callLast && okIts ms rest
def isLate (g : GI) : Bool := match g.2 with
  | .load _ .frz _ _ _ => true
  | _ => false
/-- late loads put beside the next call that turns the variables -/
def toItems : List (Nat × GI) → List (Nat × GI) → List (It (Nat × GI))
  | [], held => held.map .one
  | p :: rest, held =>
    if isLate p.2 = true then toItems rest (held ++ [p])
    else if p.2.2.isCall && p.2.2.hr then match held with
      | [q] => .two q p :: toItems rest []
      | _ => held.map .one ++ .one p :: toItems rest []
    else if held.any (fun q => !indep q.2 p.2) = true then held.map .one ++ .one p :: toItems rest []
    else .one p :: toItems rest held
theorem ones_list (l : List (Nat × GI)) : (l.map It.one).flatMap It.list = l := by
  induction l with
  | nil => rfl
  | cons p l ih => simp [It.list, ih]
theorem toItems_perm : ∀ (l held : List (Nat × GI)), ((toItems l held).flatMap It.list).Perm (held ++ l)
  | [], held => by simp [toItems, ones_list]
  | p :: rest, held => by
    simp only [toItems]
    split
    · have := toItems_perm rest (held ++ [p]); simpa using this
    · split
      · split
        · rename_i q
          have := toItems_perm rest []
          simp only [List.flatMap_cons, It.list, List.nil_append, List.cons_append] at this ⊢
          exact (this.cons p).cons q
        · have := toItems_perm rest []
          simp only [List.flatMap_append, ones_list, List.flatMap_cons, It.list, List.nil_append, List.cons_append] at this ⊢
          exact (this.cons p).append_left held
      · split
        · have := toItems_perm rest []
          simp only [List.flatMap_append, ones_list, List.flatMap_cons, It.list, List.nil_append, List.cons_append] at this ⊢
          exact (this.cons p).append_left held
        · have := toItems_perm rest held
          simp only [List.flatMap_cons, It.list, List.nil_append, List.cons_append] at this ⊢
          exact (this.cons p).trans List.perm_middle.symm
/-- may the region's operations be done as its items say, in any order that their edges allow? -/
def okItems (ops : Array Oper) (gs : List GI) : Bool := okEdges ops.toList 0 && okIts (masks ops.toList []) (toItems (number 0 gs) [])

def leftOne (listed : Array Bool) : It (Nat × GI) → List (It (Nat × GI))
  | .one p => if listed.getD p.1 true = true then [] else [.one p]
  | .two p q => if listed.getD p.1 true = true then (if listed.getD q.1 true = true then [] else [.one q]) else if listed.getD q.1 true = true then [.one p] else [.two p q]
def left (listed : Array Bool) (its : List (It (Nat × GI))) : List (It (Nat × GI)) := its.flatMap (leftOne listed)
theorem leftOne_mem {listed : Array Bool} {X Y : It (Nat × GI)} (h : Y ∈ leftOne listed X) : (∀ y ∈ Y.list, y ∈ X.list ∧ listed.getD y.1 true = false) ∧ (X.callLast = true → Y.callLast = true) := by
  cases X with
  | one p =>
    simp only [leftOne] at h
    split at h
    · simp at h
    · rename_i hp
      simp at h; subst h
      simpa [It.list, It.callLast] using hp
  | two p q =>
    simp only [leftOne] at h
    split at h
    · split at h
      · simp at h
      · rename_i hp hq
        simp at h; subst h
        simp [It.list, It.callLast]; simpa using hq
    · split at h
      · rename_i hp hq
        simp at h; subst h
        simp [It.list, It.callLast]; simpa using hp
      · rename_i hp hq
        simp at h; subst h
        simp only [It.list, List.mem_cons, List.not_mem_nil, or_false, forall_eq_or_imp, forall_eq, true_or, or_true, true_and, imp_self, and_true]
        exact ⟨by simpa using hp, by simpa using hq⟩
theorem getD_set {listed : Array Bool} {i j : Nat} (hi : i < listed.size) : (listed.setIfInBounds i true).getD j true = if j = i then true else listed.getD j true := by
  by_cases e : j = i
  · subst e; simp [Array.getD_eq_getD_getElem?, hi]
  · rw [if_neg e, Array.getD_eq_getD_getElem?, Array.getElem?_setIfInBounds_ne (fun q => e q.symm), ← Array.getD_eq_getD_getElem?]
theorem getD_set_same' {listed : Array Bool} {i : Nat} (hi : i < listed.size) : (listed.setIfInBounds i true).getD i true = true := by rw [getD_set hi, if_pos rfl]
theorem getD_set_ne {listed : Array Bool} {i j : Nat} (hi : i < listed.size) (h : ¬ j = i) : (listed.setIfInBounds i true).getD j true = listed.getD j true := by rw [getD_set hi, if_neg h]
/-- where an instruction that is not listed yet stands among the items that are left -/
theorem left_split {P : Program} {ms : List Nat} {listed : Array Bool} {i : Nat} {g : GI} (hi : i < listed.size) (hl : listed.getD i true = false) : ∀ (its : List (It (Nat × GI))), okIts ms its = true → ((its.flatMap It.list).map (·.1)).Nodup → (i, g) ∈ its.flatMap It.list →
    ∃ pre Y rest post, left listed its = pre ++ Y :: post ∧ left (listed.setIfInBounds i true) its = pre ++ rest ++ post ∧ (∀ {K : St → Prop} {s : St}, wpIt P Y.gi K s → wpG P g (wpIts P (rest.map It.gi) K) s) ∧
      ∀ X ∈ pre, (∀ x ∈ X.list, listed.getD x.1 true = false ∧ (indep x.2 g = true ∨ (ms.getD i 0).testBit x.1 = true)) ∧ X.callLast = true
  | [], _, _, hm => by simp at hm
  | X :: its, hok, hnd, hm => by
    simp only [okIts, Bool.and_eq_true, List.all_eq_true] at hok
    obtain ⟨⟨hok1, hok2⟩, hok3⟩ := hok
    simp only [List.flatMap_cons, List.map_append, List.nodup_append] at hnd
    obtain ⟨hn1, hn2, hn3⟩ := hnd
    simp only [List.flatMap_cons, List.mem_append] at hm
    have hout : ∀ (X : It (Nat × GI)), i ∉ X.list.map (·.1) → leftOne (listed.setIfInBounds i true) X = leftOne listed X := by
      intro X hX
      cases X with
      | one p =>
        simp [It.list] at hX
        simp only [leftOne, getD_set_ne hi (fun e => hX e.symm)]
      | two p q =>
        simp [It.list] at hX
        simp only [leftOne, getD_set_ne hi (fun e => hX.1 e.symm), getD_set_ne hi (fun e => hX.2 e.symm)]
    by_cases hX : (i, g) ∈ X.list
    · have hrest : left (listed.setIfInBounds i true) its = left listed its := by
        unfold left
        rw [List.flatMap_def, List.flatMap_def]
        congr 1
        apply List.map_congr_left
        intro Y hY
        refine hout Y fun hiY => ?_
        refine hn3 i (List.mem_map.2 ⟨(i, g), hX, rfl⟩) i ?_ rfl
        obtain ⟨y, hy, hyi⟩ := List.mem_map.1 hiY
        exact List.mem_map.2 ⟨y, List.mem_flatMap.2 ⟨Y, hY, hy⟩, hyi⟩
      cases X with
      | one p =>
        simp [It.list] at hX
        subst hX
        refine ⟨[], .one (i, g), [], left listed its, ?_, ?_, fun h => h, by simp⟩
        · unfold left; simp [leftOne, hl]
        · unfold left at hrest ⊢; simp only [List.flatMap_cons, hrest]; simp [leftOne, getD_set_same' hi]
      | two p q =>
        simp [It.list] at hX hn1
        rcases hX with hX | hX
        · subst hX
          by_cases hq : listed.getD q.1 true = true
          · refine ⟨[], .one (i, g), [], left listed its, ?_, ?_, fun h => h, by simp⟩
            · unfold left; simp [leftOne, hl, hq]
            · unfold left at hrest ⊢; simp only [List.flatMap_cons, hrest]
              simp [leftOne, getD_set_same' hi, getD_set_ne hi (fun e => hn1 e.symm), hq]
          · refine ⟨[], .two (i, g) q, [.one q], left listed its, ?_, ?_, fun h => h.1, by simp⟩
            · unfold left; simp [leftOne, hl, hq]
            · unfold left at hrest ⊢; simp only [List.flatMap_cons, hrest]
              simp [leftOne, getD_set_same' hi, getD_set_ne hi (fun e => hn1 e.symm), hq]
        · subst hX
          by_cases hp : listed.getD p.1 true = true
          · refine ⟨[], .one (i, g), [], left listed its, ?_, ?_, fun h => h, by simp⟩
            · unfold left; simp [leftOne, hl, hp]
            · unfold left at hrest ⊢; simp only [List.flatMap_cons, hrest]
              simp [leftOne, getD_set_same' hi, getD_set_ne hi hn1, hp]
          · refine ⟨[], .two p (i, g), [.one p], left listed its, ?_, ?_, fun h => h.2, by simp⟩
            · unfold left; simp [leftOne, hl, hp]
            · unfold left at hrest ⊢; simp only [List.flatMap_cons, hrest]
              simp [leftOne, getD_set_same' hi, getD_set_ne hi hn1, hp]
    · have hm' := hm.resolve_left hX
      obtain ⟨pre, Y, rest, post, h1, h2, h3, h4⟩ := left_split (P := P) hi hl its hok3 hn2 hm'
      have hiX : i ∉ X.list.map (·.1) := fun h => hn3 i h i (List.mem_map.2 ⟨(i, g), hm', rfl⟩) rfl
      refine ⟨leftOne listed X ++ pre, Y, rest, post, ?_, ?_, h3, fun Z hZ => ?_⟩
      · unfold left at h1 ⊢; simp [h1]
      · unfold left at h2 ⊢; simp [h2, hout X hiX]
      · rcases List.mem_append.1 hZ with hZ | hZ
        · obtain ⟨k1, k2⟩ := leftOne_mem hZ
          refine ⟨fun x hx => ⟨(k1 x hx).2, ?_⟩, k2 hok2⟩
          obtain ⟨Y2, hY2, hm2⟩ := List.mem_flatMap.1 hm'
          have := hok1 x (k1 x hx).1 Y2 hY2 (i, g) hm2
          simpa using this
        · exact h4 Z hZ

section
variable {P : Program} {x : Cx} {n : Nat} {ops : Array Oper} {Q : Exit → Act → World → Prop} {K : St → Prop}

theorem any_items {ms : List Md} {gs : List GI} (hc : cOps P n ops ops.toList ms = some gs) (hok : okItems ops gs = true) (hq : ∀ s' a' w', Sim x n s' a' w' → K s' → Q .normal a' w') :
    ∀ (fuel : Nat) (listed : Array Bool) (s : St) (a : Act) (w : World), listed.size = ops.size → (unlisted listed (number 0 gs)).length = fuel →
      (∀ i, listed.getD i true = true → ∀ o, ops[i]? = some o → ∀ k ∈ directs o, listed.getD k false = true) →
      wpIts P ((left listed (toItems (number 0 gs) [])).map It.gi) K s → Sim x n s a w → wpAny P .any ops Q fuel listed a w := by
  obtain ⟨hlen, hget⟩ := cOps_get _ _ _ hc
  simp only [okItems, Bool.and_eq_true] at hok
  obtain ⟨hed, hpr⟩ := hok
  have hops : ∀ (i : Nat) (o : Oper), ops[i]? = some o → ops.toList[i]? = some o := fun i o h => by rw [Array.getElem?_toList]; exact h
  -- direct edges lead back
  have hback : ∀ i o, ops[i]? = some o → ∀ k ∈ directs o, k < i := by
    have : ∀ (l : List Oper) (b i : Nat) (o : Oper), okEdges l b = true → l[i]? = some o → ∀ k ∈ directs o, k < b + i := by
      intro l
      induction l with
      | nil => intro b i o _ h; simp at h
      | cons q l ih =>
        intro b i o hok h k hk
        simp only [okEdges, Bool.and_eq_true, List.all_eq_true, decide_eq_true_eq] at hok
        cases i with
        | zero => simp at h; subst h; exact hok.1 k hk
        | succ i => have := ih (b + 1) i o hok.2 (by simpa using h) k hk; omega
    intro i o h k hk
    have := this ops.toList 0 i o hed (hops i o h) k hk
    omega
  -- whoever is listed, all before it are
  have hdown : ∀ (listed : Array Bool), listed.size = ops.size → (∀ i, listed.getD i true = true → ∀ o, ops[i]? = some o → ∀ k ∈ directs o, listed.getD k false = true) →
      ∀ i o, ops[i]? = some o → (∀ k ∈ directs o, listed.getD k false = true) → ∀ j, ((masks ops.toList []).getD i 0).testBit j = true → listed.getD j false = true := by
    intro listed hsz hcl i
    induction i using Nat.strongRecOn with
    | _ i ih =>
      intro o ho hd j hj
      have := masks_spec ops.toList [] i o (hops i o ho) (by simpa using hed) j (by simpa using hj)
      obtain ⟨k, hk, hlt, h3⟩ := this
      simp at hlt
      have hkl := hd k hk
      rcases h3 with rfl | h3
      · exact hkl
      · have hks : k < ops.size := by
          have : i < ops.size := by
            rcases Nat.lt_or_ge i ops.size with h | h
            · exact h
            · rw [Array.getElem?_eq_none h] at ho; simp at ho
          omega
        refine ih k hlt ops[k] (Array.getElem?_eq_getElem hks) ?_ j h3
        refine hcl k ?_ _ (Array.getElem?_eq_getElem hks)
        have hk2 : k < listed.size := by omega
        simpa [Array.getD_eq_getD_getElem?, hk2] using hkl
  have hready : ∀ (listed : Array Bool), listed.size = ops.size → ∀ i, i ∈ Region.ready .any ops listed ↔ i < ops.size ∧ listed.getD i true = false ∧ ∃ o, ops[i]? = some o ∧ ∀ k ∈ directs o, listed.getD k false = true := by
    intro listed hsz i
    simp only [Region.ready, List.mem_filter, List.mem_range, Bool.and_eq_true, Bool.not_eq_true']
    constructor
    · rintro ⟨h1, h2, h3⟩
      refine ⟨h1, h2, ops[i], Array.getElem?_eq_getElem h1, fun k hk => ?_⟩
      rw [Array.getElem?_eq_getElem h1] at h3
      simp only [Option.map_some, Option.getD_some, Array.all_eq_true', Bool.or_eq_true, Bool.not_eq_true'] at h3
      simp only [directs, List.mem_map, List.mem_filter] at hk
      obtain ⟨e, ⟨he1, he2⟩, rfl⟩ := hk
      rcases h3 e (by simpa using he1) with h | h
      · rw [he2] at h; simp at h
      · exact h
    · rintro ⟨h1, h2, o, ho, h3⟩
      refine ⟨h1, h2, ?_⟩
      rw [ho]
      simp only [Option.map_some, Option.getD_some, Array.all_eq_true', Bool.or_eq_true, Bool.not_eq_true']
      intro e he
      cases hb : Region.binds .any e with
      | false => exact .inl rfl
      | true => exact .inr (h3 e.on (by simp only [directs, List.mem_map, List.mem_filter]; exact ⟨e, ⟨by simpa using he, hb⟩, rfl⟩))
  have hmemN : ∀ i, i < ops.size → ∃ g, (i, g) ∈ number 0 gs ∧ gs[i]? = some g := by
    intro i hi
    have : i < gs.length := by rw [hlen]; simpa using hi
    refine ⟨gs[i], ?_, List.getElem?_eq_getElem this⟩
    have := number_mem 0 gs i gs[i] (List.getElem?_eq_getElem this)
    simpa using this
  intro fuel
  induction fuel with
  | zero =>
    intro listed s a w hsz hl hcl hw sim
    have hnil : unlisted listed (number 0 gs) = [] := List.eq_nil_of_length_eq_zero hl
    refine ⟨?_, ?_⟩
    · apply List.eq_nil_iff_forall_not_mem.2
      intro i hi
      obtain ⟨h1, h2, _⟩ := (hready listed hsz i).1 hi
      obtain ⟨g, hg, _⟩ := hmemN i h1
      have : (i, g) ∈ unlisted listed (number 0 gs) := List.mem_filter.2 ⟨hg, by simpa using h2⟩
      rw [hnil] at this; simp at this
    · have hnl : left listed (toItems (number 0 gs) []) = [] := by
        apply List.eq_nil_iff_forall_not_mem.2
        intro Y hY
        unfold left at hY
        obtain ⟨X, hX, hYX⟩ := List.mem_flatMap.1 hY
        obtain ⟨k1, _⟩ := leftOne_mem hYX
        obtain ⟨y, hy⟩ : ∃ y, y ∈ Y.list := by cases Y <;> simp [It.list]
        obtain ⟨k2, k3⟩ := k1 y hy
        have hyn : y ∈ number 0 gs := by
          have := (toItems_perm (number 0 gs) []).mem_iff.1 (List.mem_flatMap.2 ⟨X, hX, k2⟩)
          simpa using this
        have : y ∈ unlisted listed (number 0 gs) := List.mem_filter.2 ⟨hyn, by simpa using k3⟩
        rw [hnil] at this; simp at this
      rw [hnl] at hw
      exact hq s a w sim hw
  | succ fuel ih =>
    intro listed s a w hsz hl hcl hw sim
    refine ⟨fun hr => ?_, fun i hi => ?_⟩
    · -- none is ready: none is left
      exfalso
      obtain ⟨p, rest, hp⟩ : ∃ p rest, unlisted listed (number 0 gs) = p :: rest := by
        cases h : unlisted listed (number 0 gs) with
        | nil => rw [h] at hl; simp at hl
        | cons p rest => exact ⟨p, rest, rfl⟩
      have hpm : p ∈ unlisted listed (number 0 gs) := by rw [hp]; simp
      obtain ⟨hpn, hpl⟩ := List.mem_filter.1 hpm
      have hpg := (number_get 0 gs p hpn).2
      have hpi : p.1 < ops.size := by
        rcases Nat.lt_or_ge p.1 ops.size with h | h
        · exact h
        · rw [List.getElem?_eq_none (by rw [hlen]; simpa using h)] at hpg; simp at hpg
      have : p.1 ∈ Region.ready .any ops listed := by
        rw [hready listed hsz]
        refine ⟨hpi, by simpa using hpl, ops[p.1], Array.getElem?_eq_getElem hpi, fun k hk => ?_⟩
        have hklt := hback p.1 _ (Array.getElem?_eq_getElem hpi) k hk
        cases hkl : listed.getD k false with
        | true => rfl
        | false =>
          exfalso
          obtain ⟨g, hg, _⟩ := hmemN k (by omega)
          have hkm : (k, g) ∈ unlisted listed (number 0 gs) := List.mem_filter.2 ⟨hg, by
            have : k < listed.size := by omega
            simpa [Array.getD_eq_getD_getElem?, this] using hkl⟩
          have hsrt : (unlisted listed (number 0 gs)).Pairwise fun p q => p.1 < q.1 := (number_sorted 0 gs).sublist List.filter_sublist
          rw [hp] at hsrt hkm
          rw [List.pairwise_cons] at hsrt
          simp only [List.mem_cons] at hkm
          rcases hkm with h | h
          · rw [← h] at hklt; simp at hklt
          · have := hsrt.1 _ h; simp at this; omega
      rw [hr] at this; simp at this
    · obtain ⟨h1, h2, o, ho, h3⟩ := (hready listed hsz i).1 hi
      obtain ⟨g, hg, hgg⟩ := hmemN i h1
      have hm : (i, g) ∈ unlisted listed (number 0 gs) := List.mem_filter.2 ⟨hg, by simpa using h2⟩
      obtain ⟨pre, post, hpp⟩ := List.append_of_mem hm
      obtain ⟨m, hcg⟩ := hget i o g (hops i o ho) hgg
      have hperm := toItems_perm (number 0 gs) []
      rw [List.nil_append] at hperm
      have hnod : (((toItems (number 0 gs) []).flatMap It.list).map (·.1)).Nodup := by
        refine (hperm.map (·.1)).nodup_iff.2 ?_
        have := number_sorted 0 gs
        refine List.Pairwise.map _ (fun p q h => ?_) this
        exact Nat.ne_of_lt h
      have hli : i < listed.size := by omega
      obtain ⟨pre2, Y, rest2, post2, q1, q2, q3, q4⟩ := left_split (P := P) (listed := listed) (i := i) (g := g) hli (by
        simpa [Array.getD_eq_getD_getElem?, hli] using h2) _ hpr hnod (hperm.mem_iff.2 hg)
      rw [q1] at hw
      have hpull := pullIt q3 (fun X hX => ⟨fun x hx => by
        obtain ⟨k1, k2⟩ := (q4 X hX).1 x hx
        rcases k2 with k2 | k2
        · exact k2
        · exfalso
          have := hdown listed hsz hcl i o ho h3 x.1 k2
          have hx2 : x.1 < listed.size := by
            rcases Nat.lt_or_ge x.1 listed.size with h' | h'
            · exact h'
            · simp [Array.getD_eq_getD_getElem?, Array.getElem?_eq_none h'] at this
          simp [Array.getD_eq_getD_getElem?, hx2] at this k1
          rw [this] at k1; simp at k1, (q4 X hX).2⟩) hw
      rw [← q2] at hpull
      have hset := unlisted_set (number_sorted 0 gs) (show i < listed.size by omega) hpp
      refine sound_G ho hcg hpull sim fun s' a' w' sim' hk => ?_
      refine ih (listed.setIfInBounds i true) s' a' w' (by simpa using hsz) ?_ ?_ hk sim'
      · rw [hset]; rw [hpp] at hl; simp at hl ⊢; omega
      · intro j hj o' ho' k hk
        have mono : ∀ k, listed.getD k false = true → (listed.setIfInBounds i true).getD k false = true := by
          intro k hk
          by_cases e : k = i
          · subst e; simp [Array.getD_eq_getD_getElem?, show k < listed.size by omega]
          · rw [Array.getD_eq_getD_getElem?, Array.getElem?_setIfInBounds_ne (fun q => e q.symm), ← Array.getD_eq_getD_getElem?]; exact hk
        by_cases e : j = i
        · subst e
          rw [ho] at ho'
          obtain rfl : o = o' := by simpa using ho'
          exact mono k (h3 k hk)
        · rw [Array.getD_eq_getD_getElem?, Array.getElem?_setIfInBounds_ne (fun q => e q.symm), ← Array.getD_eq_getD_getElem?] at hj
          exact mono k (hcl j hj o' ho' k hk)

theorem region_items {id : Nat} {ms : List Md} {gs : List GI} {s : St} {a : Act} {w : World} (hm : P.follows .mixedOrders = true) (hc : cOps P n ops ops.toList ms = some gs) (hok : okItems ops gs = true)
    (hw : wpIts P ((toItems (number 0 gs) []).map It.gi) K s) (sim : Sim x n s a w) (hq : ∀ s' a' w', Sim x n s' a' w' → K s' → Q .normal a' w') : (Code.region id ops true).wp P Q a w := by
  refine wp_region_any hm ?_
  have hlen := (cOps_get _ _ _ hc).1
  have hun : unlisted (Array.replicate ops.size false) (number 0 gs) = number 0 gs := by
    unfold unlisted
    apply List.filter_eq_self.2
    intro p hp
    have hpg := (number_get 0 gs p hp).2
    have : p.1 < ops.size := by
      rcases Nat.lt_or_ge p.1 ops.size with h | h
      · exact h
      · rw [List.getElem?_eq_none (by rw [hlen]; simpa using h)] at hpg; simp at hpg
    simp [Array.getD_eq_getD_getElem?, this]
  have hl : (number 0 gs).length = ops.size := by
    have := congrArg List.length (number_map 0 gs)
    rw [List.length_map] at this
    rw [this, hlen]; simp
  have hlft : left (Array.replicate ops.size false) (toItems (number 0 gs) []) = toItems (number 0 gs) [] := by
    unfold left
    have key : ∀ its : List (It (Nat × GI)), (∀ x ∈ its.flatMap It.list, x ∈ number 0 gs) → its.flatMap (leftOne (Array.replicate ops.size false)) = its := by
      intro its
      induction its with
      | nil => intro _; rfl
      | cons X its ih =>
        intro hx
        rw [List.flatMap_cons, ih (fun x h => hx x (by simp [h]))]
        have hlt : ∀ x ∈ X.list, (Array.replicate ops.size false).getD x.1 true = false := by
          intro x hxX
          have hpg := (number_get 0 gs x (hx x (by simp [hxX]))).2
          have : x.1 < ops.size := by
            rcases Nat.lt_or_ge x.1 ops.size with h | h
            · exact h
            · rw [List.getElem?_eq_none (by rw [hlen]; simpa using h)] at hpg; simp at hpg
          simp [Array.getD_eq_getD_getElem?, this]
        cases X with
        | one p => simp [leftOne, hlt p (by simp [It.list])]
        | two p q => simp [leftOne, hlt p (by simp [It.list]), hlt q (by simp [It.list])]
    exact key _ (fun x hx => by have := (toItems_perm (number 0 gs) []).mem_iff.1 hx; simpa using this)
  refine any_items hc hok hq ops.size _ s a _ (by simp) (by rw [hun, hl]) (fun i hi o ho => ?_) (by rw [hlft]; exact hw) ?_
  · exfalso
    have : i < ops.size := by
      rcases Nat.lt_or_ge i ops.size with h | h
      · exact h
      · rw [Array.getElem?_eq_none h] at ho; simp at ho
    simp [Array.getD_eq_getD_getElem?, this] at hi
  · obtain ⟨A, μ, OH, Ot, ht, h0, hr, st⟩ := sim
    exact ⟨A, μ, OH, Ot, ht, h0, hr, st.heap rfl ⟨rfl, rfl, rfl⟩⟩
end

end Go.TL
