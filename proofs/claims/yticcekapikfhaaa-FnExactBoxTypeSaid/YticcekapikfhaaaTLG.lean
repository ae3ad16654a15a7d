/- A region does what its instructions lead to, in whatever order its edges allow. No program, no conditions. -/
import Derived.Test.YticcekapikfhaaaTLF
namespace Go.TL

section
variable {P : Program} {x : Cx} {n : Nat} {ops : Array Oper} {Q : Exit → Act → World → Prop} {K : St → Prop}

theorem drop_head {l : List Oper} {k : Nat} {o : Oper} {os : List Oper} (h : ops.toList.drop k = o :: os) : ops[k]? = some o ∧ ops.toList.drop (k + 1) = os ∧ l = l := by
  refine ⟨?_, ?_, rfl⟩
  · have := congrArg (fun l => l[0]?) h
    simpa using this
  · rw [← List.drop_drop, h]; rfl

/-- one after the other -/
theorem seq_sound (hq : ∀ s' a' w', Sim x n s' a' w' → K s' → Q .normal a' w') : ∀ (l : List Oper) (k : Nat) (ms : List Md) (gs : List GI) (s : St) (a : Act) (w : World), ops.toList.drop k = l →
    cOps P n ops l ms = some gs → wpL P gs K s → Sim x n s a w → wpOps P ops Q (List.range' k l.length) a w
  | [], k, ms, gs, s, a, w, _, hc, hw, sim => by
    simp only [cOps, Option.some.injEq] at hc
    subst hc
    exact hq s a w sim hw
  | o :: os, k, ms, gs, s, a, w, hl, hc, hw, sim => by
    obtain ⟨h1, h2, _⟩ := drop_head (l := []) hl
    simp only [cOps] at hc
    split at hc
    · rename_i g gs' hg hgs
      simp only [Option.some.injEq] at hc
      subst hc
      rw [List.length_cons, List.range'_succ, wpOps_cons]
      exact sound_G h1 hg hw sim fun s' a' w' sim' hk => seq_sound hq os (k + 1) ms.tail gs' s' a' w' h2 hgs hk sim'
    · simp at hc

theorem region_sound {id : Nat} {ms : List Md} {gs : List GI} {s : St} {a : Act} {w : World} (hc : cOps P n ops ops.toList ms = some gs) (hw : wpL P gs K s) (sim : Sim x n s a w)
    (hq : ∀ s' a' w', Sim x n s' a' w' → K s' → Q .normal a' w') : (Code.region id ops false).wp P Q a w := by
  refine wp_region ?_
  have := seq_sound hq ops.toList 0 ms gs s a w (by simp) hc hw sim
  rwa [Array.length_toList, ← List.range_eq_range'] at this
end

/-! any order -/

def directs (o : Oper) : List Nat := (o.after.toList.filter fun e => Region.binds .any e).map (·.on)
def maskOf (acc : List Nat) (ds : List Nat) : Nat := ds.foldl (fun m k => m ||| (2 ^ k ||| acc.getD k 0)) 0
def masks : List Oper → List Nat → List Nat
  | [], acc => acc
  | o :: os, acc => masks os (acc ++ [maskOf acc (directs o)])
def okEdges : List Oper → Nat → Bool
  | [], _ => true
  | o :: os, i => (directs o).all (· < i) && okEdges os (i + 1)
def okPairs (ms : List Nat) : List (Nat × GI) → Bool
  | [] => true
  | (j, g) :: rest => (rest.all fun p => indep g p.2 || (ms.getD p.1 0).testBit j) && okPairs ms rest
def number : Nat → List GI → List (Nat × GI)
  | _, [] => []
  | k, g :: gs => (k, g) :: number (k + 1) gs
/-- may the region's operations be done in any order that their edges allow? -/
def okRegion (ops : Array Oper) (gs : List GI) : Bool := okEdges ops.toList 0 && okPairs (masks ops.toList []) (number 0 gs)

theorem maskOf_bit (acc : List Nat) (j : Nat) : ∀ (ds : List Nat) (m : Nat), (ds.foldl (fun m k => m ||| (2 ^ k ||| acc.getD k 0)) m).testBit j = true → m.testBit j = true ∨ ∃ k ∈ ds, j = k ∨ (acc.getD k 0).testBit j = true
  | [], m, h => .inl h
  | d :: ds, m, h => by
    rcases maskOf_bit acc j ds _ h with h1 | ⟨k, hk, h2⟩
    · rw [Nat.testBit_or, Nat.testBit_or] at h1
      simp only [Bool.or_eq_true] at h1
      rcases h1 with h1 | h1 | h1
      · exact .inl h1
      · refine .inr ⟨d, by simp, .inl ?_⟩
        rw [Nat.testBit_two_pow] at h1
        simpa using (of_decide_eq_true h1).symm
      · exact .inr ⟨d, by simp, .inr h1⟩
    · exact .inr ⟨k, by simp [hk], h2⟩

theorem masks_prefix : ∀ (os : List Oper) (acc : List Nat) (i : Nat), i < acc.length → (masks os acc).getD i 0 = acc.getD i 0
  | [], acc, i, _ => rfl
  | o :: os, acc, i, h => by
    rw [masks, masks_prefix os _ i (by simp; omega)]
    simp [List.getD_eq_getElem?_getD, List.getElem?_append_left h]

theorem masks_spec : ∀ (os : List Oper) (acc : List Nat) (i : Nat) (o : Oper), os[i]? = some o → okEdges os acc.length = true → ∀ j, ((masks os acc).getD (acc.length + i) 0).testBit j = true →
    ∃ k ∈ directs o, k < acc.length + i ∧ (j = k ∨ ((masks os acc).getD k 0).testBit j = true)
  | [], acc, i, o, h, _, _, _ => by simp at h
  | q :: os, acc, 0, o, h, hok, j, hb => by
    simp at h; subst h
    simp only [okEdges, Bool.and_eq_true, List.all_eq_true, decide_eq_true_eq] at hok
    simp only [masks] at hb ⊢
    rw [masks_prefix os _ _ (by simp)] at hb
    simp [List.getD_eq_getElem?_getD] at hb
    rcases maskOf_bit acc j (directs q) 0 hb with h1 | ⟨k, hk, h2⟩
    · simp at h1
    · have hlt := hok.1 k hk
      refine ⟨k, hk, by omega, h2.imp id fun h3 => ?_⟩
      rw [masks_prefix os _ k (by simp; omega)]
      simpa [List.getD_eq_getElem?_getD, List.getElem?_append_left hlt] using h3
  | q :: os, acc, i + 1, o, h, hok, j, hb => by
    simp only [okEdges, Bool.and_eq_true] at hok
    simp only [masks] at hb ⊢
    have := masks_spec os (acc ++ [maskOf acc (directs q)]) i o (by simpa using h) (by simpa using hok.2) j (by
      rw [List.length_append, List.length_singleton, show acc.length + 1 + i = acc.length + (i + 1) by omega]; exact hb)
    obtain ⟨k, h1, h2, h3⟩ := this
    refine ⟨k, h1, by simp at h2; omega, h3⟩

theorem number_map : ∀ (k : Nat) (gs : List GI), (number k gs).map (·.2) = gs
  | _, [] => rfl
  | k, g :: gs => by simp [number, number_map]
theorem number_get : ∀ (k : Nat) (gs : List GI) (p : Nat × GI), p ∈ number k gs → k ≤ p.1 ∧ gs[p.1 - k]? = some p.2
  | k, g :: gs, p, h => by
    simp only [number, List.mem_cons] at h
    rcases h with rfl | h
    · simp
    · obtain ⟨h1, h2⟩ := number_get (k + 1) gs p h
      refine ⟨by omega, ?_⟩
      rw [show p.1 - k = (p.1 - (k + 1)) + 1 by omega]; simpa using h2
theorem number_mem : ∀ (k : Nat) (gs : List GI) (i : Nat) (g : GI), gs[i]? = some g → (k + i, g) ∈ number k gs
  | k, q :: gs, 0, g, h => by simp at h; subst h; simp [number]
  | k, q :: gs, i + 1, g, h => by
    simp only [number, List.mem_cons]
    right
    have := number_mem (k + 1) gs i g (by simpa using h)
    rwa [show k + 1 + i = k + (i + 1) by omega] at this
theorem number_sorted : ∀ (k : Nat) (gs : List GI), (number k gs).Pairwise fun p q => p.1 < q.1
  | _, [] => List.Pairwise.nil
  | k, g :: gs => by
    simp only [number]
    exact List.Pairwise.cons (fun q hq => by have := (number_get _ _ q hq).1; simp only; omega) (number_sorted (k + 1) gs)

theorem okPairs_spec {ms : List Nat} : ∀ {l : List (Nat × GI)}, okPairs ms l = true → ∀ pre q post, l = pre ++ q :: post → ∀ p ∈ pre, indep p.2 q.2 = true ∨ (ms.getD q.1 0).testBit p.1 = true
  | [], _, pre, q, post, h, _, _ => by simp at h
  | (j, g) :: rest, hok, [], q, post, _, p, hp => by simp at hp
  | (j, g) :: rest, hok, r :: pre, q, post, h, p, hp => by
    simp only [okPairs, Bool.and_eq_true, List.all_eq_true, Bool.or_eq_true] at hok
    simp only [List.cons_append, List.cons.injEq] at h
    obtain ⟨rfl, h⟩ := h
    simp only [List.mem_cons] at hp
    rcases hp with rfl | hp
    · exact hok.1 q (by rw [h]; simp)
    · exact okPairs_spec hok.2 pre q post h p hp

theorem cOps_get {P : Program} {n : Nat} {ops : Array Oper} : ∀ (l : List Oper) (ms : List Md) (gs : List GI), cOps P n ops l ms = some gs → gs.length = l.length ∧ ∀ (i : Nat) (o : Oper) (g : GI), l[i]? = some o → gs[i]? = some g → ∃ m, cG P n ops o m = some g
  | [], ms, gs, h => by simp only [cOps, Option.some.injEq] at h; subst h; simp
  | q :: os, ms, gs, h => by
    simp only [cOps] at h
    split at h
    · rename_i g gs' hg hgs
      simp only [Option.some.injEq] at h
      subst h
      obtain ⟨h1, h2⟩ := cOps_get os ms.tail gs' hgs
      refine ⟨by simp [h1], fun i o g' ho hg' => ?_⟩
      cases i with
      | zero => simp at ho hg'; subst ho; subst hg'; exact ⟨_, hg⟩
      | succ i => exact h2 i o g' (by simpa using ho) (by simpa using hg')
    · simp at h

/-- what is not listed yet -/
def unlisted (listed : Array Bool) (l : List (Nat × GI)) : List (Nat × GI) := l.filter fun p => !listed.getD p.1 true

theorem unlisted_set {listed : Array Bool} {i : Nat} {l pre post : List (Nat × GI)} {g : GI} (hs : l.Pairwise fun p q => p.1 < q.1) (hi : i < listed.size) (h : unlisted listed l = pre ++ (i, g) :: post) :
    unlisted (listed.setIfInBounds i true) l = pre ++ post := by
  have h1 : unlisted (listed.setIfInBounds i true) l = (unlisted listed l).filter fun p => p.1 != i := by
    unfold unlisted
    rw [List.filter_filter]
    apply List.filter_congr
    intro p _
    by_cases e : p.1 = i
    · simp [e, hi]
    · simp [e, Array.getD_eq_getD_getElem?, Array.getElem?_setIfInBounds_ne (fun q => e q.symm)]
  have hsub : (unlisted listed l).Pairwise fun p q => p.1 < q.1 := hs.sublist List.filter_sublist
  rw [h] at hsub
  rw [h1, h, List.filter_append, List.filter_cons_of_neg (by simp)]
  rw [List.pairwise_append] at hsub
  obtain ⟨s1, s2, s3⟩ := hsub
  rw [List.pairwise_cons] at s2
  rw [List.filter_eq_self.2 (fun p hp => ?_), List.filter_eq_self.2 (fun p hp => ?_)]
  · have := s2.1 p hp; simp; omega
  · have := s3 p hp (i, g) (by simp); simp at this ⊢; omega

section
variable {P : Program} {x : Cx} {n : Nat} {ops : Array Oper} {Q : Exit → Act → World → Prop} {K : St → Prop}

theorem any_sound {ms : List Md} {gs : List GI} (hc : cOps P n ops ops.toList ms = some gs) (hok : okRegion ops gs = true) (hq : ∀ s' a' w', Sim x n s' a' w' → K s' → Q .normal a' w') :
    ∀ (fuel : Nat) (listed : Array Bool) (s : St) (a : Act) (w : World), listed.size = ops.size → (unlisted listed (number 0 gs)).length = fuel →
      (∀ i, listed.getD i true = true → ∀ o, ops[i]? = some o → ∀ k ∈ directs o, listed.getD k false = true) →
      wpL P ((unlisted listed (number 0 gs)).map (·.2)) K s → Sim x n s a w → wpAny P .any ops Q fuel listed a w := by
  obtain ⟨hlen, hget⟩ := cOps_get _ _ _ hc
  simp only [okRegion, Bool.and_eq_true] at hok
  obtain ⟨hed, hpr⟩ := hok
  have hops : ∀ (i : Nat) (o : Oper), ops[i]? = some o → ops.toList[i]? = some o := fun i o h => by rw [Array.getElem?_toList]; exact h
  -- direct edges lead back
  have hback : ∀ i o, ops[i]? = some o → ∀ k ∈ directs o, k < i := by
    have : ∀ (l : List Oper) (b i : Nat) (o : Oper), okEdges l b = true → l[i]? = some o → ∀ k ∈ directs o, k < b + i := by
      intro l
      induction l with
      | nil => intro b i o _ h; simp at h
      | cons q l ih =>
        intro b i o hok h k hk
        simp only [okEdges, Bool.and_eq_true, List.all_eq_true, decide_eq_true_eq] at hok
        cases i with
        | zero => simp at h; subst h; exact hok.1 k hk
        | succ i => have := ih (b + 1) i o hok.2 (by simpa using h) k hk; omega
    intro i o h k hk
    have := this ops.toList 0 i o hed (hops i o h) k hk
    omega
  -- whoever is listed, all before it are
  have hdown : ∀ (listed : Array Bool), listed.size = ops.size → (∀ i, listed.getD i true = true → ∀ o, ops[i]? = some o → ∀ k ∈ directs o, listed.getD k false = true) →
      ∀ i o, ops[i]? = some o → (∀ k ∈ directs o, listed.getD k false = true) → ∀ j, ((masks ops.toList []).getD i 0).testBit j = true → listed.getD j false = true := by
    intro listed hsz hcl i
    induction i using Nat.strongRecOn with
    | _ i ih =>
      intro o ho hd j hj
      have := masks_spec ops.toList [] i o (hops i o ho) (by simpa using hed) j (by simpa using hj)
      obtain ⟨k, hk, hlt, h3⟩ := this
      simp at hlt
      have hkl := hd k hk
      rcases h3 with rfl | h3
      · exact hkl
      · have hks : k < ops.size := by
          have : i < ops.size := by
            rcases Nat.lt_or_ge i ops.size with h | h
            · exact h
            · rw [Array.getElem?_eq_none h] at ho; simp at ho
          omega
        refine ih k hlt ops[k] (Array.getElem?_eq_getElem hks) ?_ j h3
        refine hcl k ?_ _ (Array.getElem?_eq_getElem hks)
        have hk2 : k < listed.size := by omega
        simpa [Array.getD_eq_getD_getElem?, hk2] using hkl
  have hready : ∀ (listed : Array Bool), listed.size = ops.size → ∀ i, i ∈ Region.ready .any ops listed ↔ i < ops.size ∧ listed.getD i true = false ∧ ∃ o, ops[i]? = some o ∧ ∀ k ∈ directs o, listed.getD k false = true := by
    intro listed hsz i
    simp only [Region.ready, List.mem_filter, List.mem_range, Bool.and_eq_true, Bool.not_eq_true']
    constructor
    · rintro ⟨h1, h2, h3⟩
      refine ⟨h1, h2, ops[i], Array.getElem?_eq_getElem h1, fun k hk => ?_⟩
      rw [Array.getElem?_eq_getElem h1] at h3
      simp only [Option.map_some, Option.getD_some, Array.all_eq_true', Bool.or_eq_true, Bool.not_eq_true'] at h3
      simp only [directs, List.mem_map, List.mem_filter] at hk
      obtain ⟨e, ⟨he1, he2⟩, rfl⟩ := hk
      rcases h3 e (by simpa using he1) with h | h
      · rw [he2] at h; simp at h
      · exact h
    · rintro ⟨h1, h2, o, ho, h3⟩
      refine ⟨h1, h2, ?_⟩
      rw [ho]
      simp only [Option.map_some, Option.getD_some, Array.all_eq_true', Bool.or_eq_true, Bool.not_eq_true']
      intro e he
      cases hb : Region.binds .any e with
      | false => exact .inl rfl
      | true => exact .inr (h3 e.on (by simp only [directs, List.mem_map, List.mem_filter]; exact ⟨e, ⟨by simpa using he, hb⟩, rfl⟩))
  have hmemN : ∀ i, i < ops.size → ∃ g, (i, g) ∈ number 0 gs ∧ gs[i]? = some g := by
    intro i hi
    have : i < gs.length := by rw [hlen]; simpa using hi
    refine ⟨gs[i], ?_, List.getElem?_eq_getElem this⟩
    have := number_mem 0 gs i gs[i] (List.getElem?_eq_getElem this)
    simpa using this
  intro fuel
  induction fuel with
  | zero =>
    intro listed s a w hsz hl hcl hw sim
    have hnil : unlisted listed (number 0 gs) = [] := List.eq_nil_of_length_eq_zero hl
    refine ⟨?_, ?_⟩
    · apply List.eq_nil_iff_forall_not_mem.2
      intro i hi
      obtain ⟨h1, h2, _⟩ := (hready listed hsz i).1 hi
      obtain ⟨g, hg, _⟩ := hmemN i h1
      have : (i, g) ∈ unlisted listed (number 0 gs) := List.mem_filter.2 ⟨hg, by simpa using h2⟩
      rw [hnil] at this; simp at this
    · rw [hnil] at hw
      exact hq s a w sim hw
  | succ fuel ih =>
    intro listed s a w hsz hl hcl hw sim
    refine ⟨fun hr => ?_, fun i hi => ?_⟩
    · -- none is ready: none is left
      exfalso
      obtain ⟨p, rest, hp⟩ : ∃ p rest, unlisted listed (number 0 gs) = p :: rest := by
        cases h : unlisted listed (number 0 gs) with
        | nil => rw [h] at hl; simp at hl
        | cons p rest => exact ⟨p, rest, rfl⟩
      have hpm : p ∈ unlisted listed (number 0 gs) := by rw [hp]; simp
      obtain ⟨hpn, hpl⟩ := List.mem_filter.1 hpm
      have hpg := (number_get 0 gs p hpn).2
      have hpi : p.1 < ops.size := by
        rcases Nat.lt_or_ge p.1 ops.size with h | h
        · exact h
        · rw [List.getElem?_eq_none (by rw [hlen]; simpa using h)] at hpg; simp at hpg
      have : p.1 ∈ Region.ready .any ops listed := by
        rw [hready listed hsz]
        refine ⟨hpi, by simpa using hpl, ops[p.1], Array.getElem?_eq_getElem hpi, fun k hk => ?_⟩
        have hklt := hback p.1 _ (Array.getElem?_eq_getElem hpi) k hk
        cases hkl : listed.getD k false with
        | true => rfl
        | false =>
          exfalso
          obtain ⟨g, hg, _⟩ := hmemN k (by omega)
          have hkm : (k, g) ∈ unlisted listed (number 0 gs) := List.mem_filter.2 ⟨hg, by
            have : k < listed.size := by omega
            simpa [Array.getD_eq_getD_getElem?, this] using hkl⟩
          have hsrt : (unlisted listed (number 0 gs)).Pairwise fun p q => p.1 < q.1 := (number_sorted 0 gs).sublist List.filter_sublist
          rw [hp] at hsrt hkm
          rw [List.pairwise_cons] at hsrt
          simp only [List.mem_cons] at hkm
          rcases hkm with h | h
          · rw [← h] at hklt; simp at hklt
          · have := hsrt.1 _ h; simp at this; omega
      rw [hr] at this; simp at this
    · obtain ⟨h1, h2, o, ho, h3⟩ := (hready listed hsz i).1 hi
      obtain ⟨g, hg, hgg⟩ := hmemN i h1
      have hm : (i, g) ∈ unlisted listed (number 0 gs) := List.mem_filter.2 ⟨hg, by simpa using h2⟩
      obtain ⟨pre, post, hpp⟩ := List.append_of_mem hm
      obtain ⟨m, hcg⟩ := hget i o g (hops i o ho) hgg
      have hind : ∀ p ∈ pre.map (·.2), indep p g = true := by
        intro p hp
        obtain ⟨q, hq1, rfl⟩ := List.mem_map.1 hp
        have hqm : q ∈ unlisted listed (number 0 gs) := by rw [hpp]; simp [hq1]
        obtain ⟨hqn, hql⟩ := List.mem_filter.1 hqm
        have hsrt : (unlisted listed (number 0 gs)).Pairwise fun p q => p.1 < q.1 := (number_sorted 0 gs).sublist List.filter_sublist
        rw [hpp, List.pairwise_append] at hsrt
        have hlt := hsrt.2.2 q hq1 (i, g) (by simp)
        -- both in the whole list, in this order
        obtain ⟨pre2, post2, hw2⟩ := List.append_of_mem hg
        have hqpre : q ∈ pre2 := by
          have hqn2 := hqn
          rw [hw2] at hqn2
          have hs2 := number_sorted 0 gs
          rw [hw2, List.pairwise_append] at hs2
          rcases List.mem_append.1 hqn2 with h | h
          · exact h
          · simp only [List.mem_cons] at h
            rcases h with h | h
            · rw [h] at hlt; simp at hlt
            · have := (List.pairwise_cons.1 hs2.2.1).1 q h
              simp at this hlt; omega
        rcases okPairs_spec hpr pre2 (i, g) post2 hw2 q hqpre with h | h
        · exact h
        · exfalso
          have := hdown listed hsz hcl i o ho h3 q.1 h
          have hq2 : q.1 < listed.size := by
            rcases Nat.lt_or_ge q.1 listed.size with h' | h'
            · exact h'
            · simp [Array.getD_eq_getD_getElem?, Array.getElem?_eq_none h'] at this
          simp [Array.getD_eq_getD_getElem?, hq2] at this hql
          rw [this] at hql; simp at hql
      rw [hpp, List.map_append, List.map_cons] at hw
      have hpull := pull hind hw
      have hset := unlisted_set (number_sorted 0 gs) (show i < listed.size by omega) hpp
      refine sound_G ho hcg hpull sim fun s' a' w' sim' hk => ?_
      refine ih (listed.setIfInBounds i true) s' a' w' (by simpa using hsz) ?_ ?_ ?_ sim'
      · rw [hset]; rw [hpp] at hl; simp at hl ⊢; omega
      · intro j hj o' ho' k hk
        have mono : ∀ k, listed.getD k false = true → (listed.setIfInBounds i true).getD k false = true := by
          intro k hk
          by_cases e : k = i
          · subst e; simp [Array.getD_eq_getD_getElem?, show k < listed.size by omega]
          · rw [Array.getD_eq_getD_getElem?, Array.getElem?_setIfInBounds_ne (fun q => e q.symm), ← Array.getD_eq_getD_getElem?]; exact hk
        by_cases e : j = i
        · subst e
          rw [ho] at ho'
          obtain rfl : o = o' := by simpa using ho'
          exact mono k (h3 k hk)
        · rw [Array.getD_eq_getD_getElem?, Array.getElem?_setIfInBounds_ne (fun q => e q.symm), ← Array.getD_eq_getD_getElem?] at hj
          exact mono k (hcl j hj o' ho' k hk)
      · rw [hset, List.map_append]; exact hk

theorem region_any {id : Nat} {ms : List Md} {gs : List GI} {s : St} {a : Act} {w : World} (hm : P.follows .mixedOrders = true) (hc : cOps P n ops ops.toList ms = some gs) (hok : okRegion ops gs = true)
    (hw : wpL P gs K s) (sim : Sim x n s a w) (hq : ∀ s' a' w', Sim x n s' a' w' → K s' → Q .normal a' w') : (Code.region id ops true).wp P Q a w := by
  refine wp_region_any hm ?_
  have hlen := (cOps_get _ _ _ hc).1
  have hun : unlisted (Array.replicate ops.size false) (number 0 gs) = number 0 gs := by
    unfold unlisted
    apply List.filter_eq_self.2
    intro p hp
    have hpg := (number_get 0 gs p hp).2
    have : p.1 < ops.size := by
      rcases Nat.lt_or_ge p.1 ops.size with h | h
      · exact h
      · rw [List.getElem?_eq_none (by rw [hlen]; simpa using h)] at hpg; simp at hpg
    simp [Array.getD_eq_getD_getElem?, this]
  have hl : (number 0 gs).length = ops.size := by
    have := congrArg List.length (number_map 0 gs)
    rw [List.length_map] at this
    rw [this, hlen]; simp
  refine any_sound hc hok hq ops.size _ s a _ (by simp) (by rw [hun, hl]) (fun i hi o ho => ?_) (by rw [hun, number_map]; exact hw) ?_
  · exfalso
    have : i < ops.size := by
      rcases Nat.lt_or_ge i ops.size with h | h
      · exact h
      · rw [Array.getElem?_eq_none h] at ho; simp at ho
    simp [Array.getD_eq_getD_getElem?, this] at hi
  · obtain ⟨A, μ, OH, Ot, ht, h0, hr, st⟩ := sim
    exact ⟨A, μ, OH, Ot, ht, h0, hr, st.heap rfl ⟨rfl, rfl, rfl⟩⟩
end

end Go.TL
