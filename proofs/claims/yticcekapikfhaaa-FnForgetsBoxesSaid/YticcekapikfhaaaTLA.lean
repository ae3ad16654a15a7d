/- The instructions say what the operations do: append. No program, no conditions. -/
import Derived.Test.YticcekapikfhaaaTL9
namespace Go.TL

section
variable {P : Program} {x : Cx} {n : Nat} {o : Oper} {s s' : St} {a : Act} {w : World}

theorem zeroCells_one {z : Array Value} (h : ∀ c ∈ z.toList, c.oneCell' = true) (n : Nat) : ∀ c ∈ (Builtin.zeroCells z n).toList, c.oneCell' = true := by
  intro c hc
  simp only [Builtin.zeroCells, Array.toList_map, List.mem_map] at hc
  obtain ⟨i, hi, rfl⟩ := hc
  simp at hi
  have hz : 0 < z.size := by
    rcases Nat.eq_zero_or_pos z.size with h0 | h0
    · rw [h0] at hi; simp at hi
    · exact h0
  have h2 : i % z.size < z.size := Nat.mod_lt _ hz
  refine h _ ?_
  simp [h2]

/-- the run of an append that stays in place -/
theorem run_append_in (t u e ue ty : TypeId) (i : TypeInfo) (ht : P.underlying t = some (.slice e)) (hu : P.underlying u = some (.slice ue)) (hi : P.info? e = some i)
    (base : Option Addr) (sLen sCap : Nat) (b2 : Option Addr) (m c2 : Nat) (news : List Value) (hl : news.length = m * i.size)
    (hnews : ∀ ad, b2 = some ad → ∀ j v, news[j]? = some v → w.cell? (ad.add j) = some v) (hnil : b2 = none → m = 0) (hle : sLen + m ≤ sCap) (w' : World)
    (hst : ∀ ad, base = some ad → (storeCells (ad.add (sLen * i.size)) news).run P w = .ok () w') (hst2 : base = none → w' = w) :
    (Builtin.append_ #[t, u] ty #[.slice base sLen sCap, .slice b2 m c2]).run P w = .ok (.slice base (sLen + m) sCap) w' := by
  have hf : (Builtin.firstCells i.size m (.slice b2 m c2)).run P w = .ok news.toArray w := by
    cases b2 with
    | none =>
      have := hnil rfl
      subst this
      have : news = [] := List.eq_nil_of_length_eq_zero (by simpa using hl)
      subst this
      simp [Builtin.firstCells]
    | some ad => exact run_firstCells_some (P := P) w i.size m ad m c2 news hl (fun j v hj => hnews ad rfl j v hj)
  cases base with
  | none =>
    rw [hst2 rfl]
    simp [Builtin.append_, run_underlying ht, run_underlying hu, sizeOf, typeInfo, hi, Builtin.lenOf, hle, hf]
  | some ad =>
    have := hst ad rfl
    simp [Builtin.append_, run_underlying ht, run_underlying hu, sizeOf, typeInfo, hi, Builtin.lenOf, hle, hf, this]

/-- the run of an append that makes a new row -/
theorem run_append_out (t u e ue ty : TypeId) (i : TypeInfo) (z : Value) (ht : P.underlying t = some (.slice e)) (hu : P.underlying u = some (.slice ue)) (hi : P.info? e = some i) (hz : i.zero = some z)
    (base : Option Addr) (sLen sCap : Nat) (b2 : Option Addr) (m c2 : Nat) (olds news : List Value) (hlo : olds.length = sLen * i.size) (hl : news.length = m * i.size)
    (holds : ∀ ad, base = some ad → ∀ j v, olds[j]? = some v → w.cell? (ad.add j) = some v) (hnil0 : base = none → sLen = 0)
    (hnews : ∀ ad, b2 = some ad → ∀ j v, news[j]? = some v → w.cell? (ad.add j) = some v) (hnil : b2 = none → m = 0) (hle : ¬ sLen + m ≤ sCap) (hmost : sLen + m ≤ most) (hby : i.bytes ≤ 128) (hone : ∀ c ∈ z.cells.toList, c.oneCell' = true) :
    ∃ rest : List Value, rest.length = (grownCap w (sLen + m) sCap e - (sLen + m)) * z.cells.size ∧ (∀ c ∈ rest, c.oneCell' = true) ∧ sLen + m ≤ grownCap w (sLen + m) sCap e ∧
    (Builtin.append_ #[t, u] ty #[.slice base sLen sCap, .slice b2 m c2]).run P w = .ok (.slice (some ⟨w.heap.size, 0, none⟩) (sLen + m) (grownCap w (sLen + m) sCap e))
      { w.drew with heap := w.heap.push (.cells (olds ++ news ++ rest).toArray e (0, 0)) } := by
  have hmost' : sLen + m ≤ 1099511627776 := hmost
  have hf : (Builtin.firstCells i.size m (.slice b2 m c2)).run P w.drew = .ok news.toArray w.drew := by
    cases b2 with
    | none =>
      have := hnil rfl
      subst this
      have : news = [] := List.eq_nil_of_length_eq_zero (by simpa using hl)
      subst this
      simp [Builtin.firstCells]
    | some ad => exact run_firstCells_some (P := P) w.drew i.size m ad m c2 news hl (fun j v hj => by simpa using hnews ad rfl j v hj)
  have hfo : (Builtin.firstCells i.size sLen (.slice base sLen sCap)).run P w.drew = .ok olds.toArray w.drew := by
    cases base with
    | none =>
      have := hnil0 rfl
      subst this
      have : olds = [] := List.eq_nil_of_length_eq_zero (by simpa using hlo)
      subst this
      simp [Builtin.firstCells]
    | some ad => exact run_firstCells_some (P := P) w.drew i.size sLen ad sLen sCap olds hlo (fun j v hj => by simpa using holds ad rfl j v hj)
  have hfit : Builtin.nextslicecap (sLen + m) sCap * i.bytes ≤ 281474976710656 := growslice_fits (by omega) (by
    have : (sLen + m) * i.bytes ≤ 1099511627776 * 128 := Nat.mul_le_mul hmost' hby
    omega)
  have h48' : ¬ (281474976710656 < Builtin.nextslicecap (sLen + m) sCap * i.bytes) := by omega
  have h63' : ¬ (9223372036854775807 < ((sLen : Int) + (m : Int))) := by omega
  refine ⟨(Builtin.zeroCells z.cells (grownCap w (sLen + m) sCap e - (sLen + m))).toList, by simp [size_zeroCells], zeroCells_one hone _, by simp [grownCap, Question.cut], ?_⟩
  simp [Builtin.append_, run_underlying ht, run_underlying hu, sizeOf, typeInfo, zeroValue, hi, hz, Builtin.lenOf, hle, h63', h48', Question.forced, hf, hfo, newRow, grownCap]
  have harr : ∀ Z : Array Value, olds.toArray ++ (news.toArray ++ Z) = (olds ++ (news ++ Z.toList)).toArray := by
    intro Z
    apply Array.toList_inj.1
    simp
  rw [harr]
  rfl

theorem sound_append {d sz : Nat} {e ue : TypeId} {z : List LV} {y1 y2 : X} {u1 u2 : Operand} {t u : TypeId} {c : Call} (ho : o.op = .call c) (hc : c.callee = .builtin .append) (hargs : c.args.toList = [u1, u2]) (htt : c.argTypes.toList = [t, u])
    (hue : P.underlying u = some (.slice ue)) (hd : o.dst = some d) (hdn : d < n)
    (he : elemOf' P t = some e) (hsz : sz? P e = some sz) (hz : zLV P e = some z) (hzl : z.length = sz) (hpos : 0 < sz) (hby : P.bytesOf e ≤ 128)
    (hy1 : XOk n y1 u1) (hy2 : XOk n y2 u2) (hs : step (.append d sz y1 y2) s = some s') (sim : Sim x n s a w) : Good P x n o s' a w := by
  obtain ⟨A, μ, OH, Ot, ht, h0, hr, st⟩ := sim
  obtain ⟨i, v, hi, hv, hrep, hone⟩ := zLV_ok hz
  have hvl : v.cells.size = sz := by rw [← Array.length_toList, (hrep A μ).length, hzl]
  have hby' : i.bytes ≤ 128 := by simpa [Program.bytesOf, hi] using hby
  obtain ⟨i2, hi2, hisz⟩ := sz_ok hsz
  rw [hi] at hi2
  obtain rfl : i = i2 := by simpa using hi2
  have hargs' : c.args = #[u1, u2] := by rw [← Array.toArray_toList (xs := c.args), hargs]
  have ht' : c.argTypes = #[t, u] := by rw [← Array.toArray_toList (xs := c.argTypes), htt]
  have hexec : ∀ r w', (Builtin.append_ #[t, u] o.type #[a.eval u1, a.eval u2]).run P w = .ok r w' → (execOp a.eval o).run P w = .ok (.value r) w' := by
    intro r w' h
    rw [exec_builtin ho hc, hargs', ht']
    simp [builtin, h]
  simp only [step] at hs
  split at hs
  · rename_i g1 g2 uq nil sz' xs uq2 nil2 sz2 ys hg1 hg2
    split at hs
    · rename_i hcond
      obtain ⟨hown, hsz1, hsz2, hmost⟩ := hcond
      simp only [Option.some.injEq] at hs
      subst hs
      have hr1 := get_rep hy1 hr
      rw [hg1] at hr1
      have hrg := give_rep (Ot := Ot) y1 hr
      have hr2 := get_rep hy2 hrg
      rw [hg2] at hr2
      have hrgg := give_rep (Ot := giveO Ot y1) y2 hrg
      have hcnt : ∀ p : Own → Bool, (allO n (giveO (giveO Ot y1) y2)).countP p + (getO Ot y1).countP p + (getO (giveO Ot y1) y2).countP p = (allO n Ot).countP p := by
        intro p
        have k1 := give_count (Ot := Ot) hy1 p
        have k2 := give_count (Ot := giveO Ot y1) hy2 p
        omega
      obtain ⟨b1, cap1, vs1, O1, e1, hcap1, rv1, vl1, xl1, oc1, one1, nb1, nc1, cell1, row1⟩ := slice_cells hr1
      obtain ⟨b2, cap2, vs2, O2, e2, hcap2, rv2, vl2, xl2, oc2, one2, nb2, nc2, cell2, row2⟩ := slice_cells hr2
      have hnil1 : b1 = none → xs = [] := by
        intro h
        have := nc1 (by rw [nb1, h]; rfl)
        exact List.eq_nil_of_length_eq_zero (by omega)
      have hnil2 : b2 = none → ys = [] := by
        intro h
        have := nc2 (by rw [nb2, h]; rfl)
        exact List.eq_nil_of_length_eq_zero (by omega)
      have vl1' : vs1.length = xs.length * i.size := by
        rw [vl1, hisz]
        rcases hsz1 with h | h
        · rw [h]
        · rw [hnil1 (by rw [nb1] at h; simpa using h)]; simp
      have vl2' : vs2.length = ys.length * i.size := by
        rw [vl2, hisz]
        rcases hsz2 with h | h
        · rw [h]
        · rw [hnil2 (by rw [nb2] at h; simpa using h)]; simp
      have xl1' : ∀ x ∈ xs, x.length = sz := by
        rcases hsz1 with h | h
        · rw [← h]; exact xl1
        · rw [hnil1 (by rw [nb1] at h; simpa using h)]; simp
      have xl2' : ∀ x ∈ ys, x.length = sz := by
        rcases hsz2 with h | h
        · rw [← h]; exact xl2
        · rw [hnil2 (by rw [nb2] at h; simpa using h)]; simp
      by_cases hle : xs.length + ys.length ≤ cap1
      · by_cases hys : ys = []
        · -- nothing is appended
          subst hys
          have vs2nil : vs2 = [] := List.eq_nil_of_length_eq_zero (by simpa using vl2)
          subst vs2nil
          have hrun := run_append_in (P := P) (w := w) t u e ue o.type i (elemOf_ok he) hue hi b1 xs.length cap1 b2 0 cap2 [] (by simp) (by simp) (fun _ => rfl) (by omega) w (by
            intro ad _; rfl) (fun _ => rfl)
          simp only [List.length_nil] at e2
          rw [← e2] at hrun
          simp only [Nat.add_zero] at hrun
          rw [← e1] at hrun
          refine good_value (hexec _ _ hrun) ?_
          rw [hd]
          refine put_same ht h0 hrgg hdn (Od := getO Ot y1) ?_ st (fun p => by have := hcnt p; omega)
          simp only [List.isEmpty_nil, Bool.not_true, Bool.or_false, Bool.and_true, List.append_nil]
          rcases hsz1 with h | h
          · rw [← h]; exact hr1
          · subst h
            have hx : xs = [] := hnil1 (by simpa using nb1)
            subst hx
            simp only [Rep] at hr1 ⊢
            simpa using hr1
        · -- in place
          have hne : b1 ≠ none := by
            intro h
            have h1 := nc1 (by rw [nb1, h]; rfl)
            have h2 := hnil1 h
            subst h2
            have : 0 < ys.length := List.length_pos_iff.2 hys
            simp at hle; omega
          obtain ⟨ad, had⟩ := Option.ne_none_iff_exists'.1 hne
          have hu : uq = true := by
            rcases hown with h | h | h
            · exact h
            · rw [nb1, had] at h; simp at h
            · exact absurd h hys
          obtain ⟨hrow1, hO1⟩ := row1 ad had
          obtain ⟨hoff, hspot, hOe⟩ := (hO1 hu).resolve_left (fun h => by
            have : 0 < ys.length := List.length_pos_iff.2 hys
            omega)
          have hszE : sz' = sz := by
            rcases hsz1 with h | h
            · exact h
            · rw [nb1, had] at h; simp at h
          subst hszE
          obtain ⟨⟨b, off, spot⟩, rfl⟩ : ∃ q : Addr, ad = q := ⟨_, rfl⟩
          simp only at hoff hspot hOe hrow1
          subst hoff hspot
          have hmem : (b, xs.length * sz', cap1 * sz') ∈ allO n Ot := by
            have h1 := hcnt (isE (b, xs.length * sz', cap1 * sz'))
            have h2 : 0 < (getO Ot y1).countP (isE (b, xs.length * sz', cap1 * sz')) := by
              rw [hOe]; exact List.countP_pos_iff.2 ⟨_, by simp, (isE_iff _ _).2 rfl⟩
            obtain ⟨q, hq, hqe⟩ := List.countP_pos_iff.1 (show 0 < (allO n Ot).countP (isE (b, xs.length * sz', cap1 * sz')) by omega)
            rw [(isE_iff _ _).1 hqe] at hq
            exact hq
          obtain ⟨⟨cs, ee, hb, hcs, hc1⟩, hAfree, _⟩ := st.inv.own _ _ _ (List.mem_append.2 (.inl hmem))
          have hroom : xs.length * sz' + vs2.length ≤ cs.size := by
            rw [hcs, vl2', hisz, ← Nat.add_mul]
            exact Nat.mul_le_mul_right _ hle
          have hrun := run_append_in (P := P) (w := w) t u e ue o.type i (elemOf_ok he) hue hi b1 xs.length cap1 b2 ys.length cap2 vs2 vl2' (cell2 w st.inv.cells) (fun h => by rw [hnil2 h]; rfl) hle
            { w with heap := w.heap.setIfInBounds b (.cells (putAll cs (xs.length * sz') vs2) ee (0, 0)) } (by
              intro ad' had'
              rw [had] at had'
              obtain rfl : (⟨b, 0, none⟩ : Addr) = ad' := by simpa using had'
              rw [addr_add, hisz, Nat.zero_add]
              have := run_store_block (P := P) (b := b) (off := xs.length * sz') (e := ee) vs2 0 cs w hb one2 (by omega)
              simpa using this) (fun h => absurd h hne)
          rw [← e1, ← e2] at hrun
          refine good_value (hexec _ _ hrun) ?_
          rw [hd]
          have hle2 : A.Le (A.put b (xs.length * sz') (xs.length * sz' + vs2.length) (putAll cs (xs.length * sz') vs2)) := GM.put_le hAfree
          have st' := st.grow (m := vs2.length) hb hmem (putAll_size vs2 cs _) (putAll_one vs2 cs _ hc1 one2) (fun j hj => by rw [putAll_get _ _ _ _ hroom, if_neg (by omega)])
            (allO n (upd (giveO (giveO Ot y1) y2) d ((b, xs.length * sz' + vs2.length, cap1 * sz') :: (O1 ++ O2)))) (fun p => by
              have k1 := count_upd p (giveO (giveO Ot y1) y2) d ((b, xs.length * sz' + vs2.length, cap1 * sz') :: (O1 ++ O2)) n hdn
              have k2 := hcnt p
              have k3 := oc2 p
              rw [hOe] at k2
              simp only [List.countP_cons, List.countP_append] at k1 k2
              omega)
          refine mk_put (ν := []) ht h0 hrgg hle2 hdn ?_ (by rw [List.append_nil]; exact st')
          rw [List.append_nil]
          have hnilF : (nil && ys.isEmpty) = false := by rw [nb1, had]; simp
          rw [hnilF, hu]
          simp only [Rep, Bool.true_or]
          refine .inr ⟨trivial, b, 0, none, cap1, O1 ++ O2, by rw [had, List.length_append], .inl rfl, by rw [List.length_append]; exact hle, ?_, .inl ⟨trivial, rfl, by
            rw [List.length_append, Nat.add_mul, vl2', hisz]⟩⟩
          have hm1 := RepRow.mono (ν := []) hle2 xs _ _ _ _ hrow1
          rw [List.append_nil] at hm1
          have hm2 := RepVals.mono (ν := []) hle2 ys.flatten _ _ rv2
          rw [List.append_nil] at hm2
          refine RepRow.app hm1 (RepRow.of_vals xl2' hm2 fun j q hj => ⟨?_, one2 q (List.mem_of_getElem? hj)⟩)
          have hjl : j < vs2.length := by
            rcases Nat.lt_or_ge j vs2.length with g | g
            · exact g
            · rw [List.getElem?_eq_none g] at hj; simp at hj
          unfold GM.put
          rw [Nat.zero_add, if_pos (by omega), putAll_get _ _ _ _ hroom, if_pos (by omega), show xs.length * sz' + j - xs.length * sz' = j by omega]
          exact hj
      · -- a new row
        have hys : ys ≠ [] := by
          intro h; subst h; simp at hle; omega
        obtain ⟨rest, hrl, hrone, hgrow, hrun⟩ := run_append_out (P := P) (w := w) t u e ue o.type i v (elemOf_ok he) hue hi hv b1 xs.length cap1 b2 ys.length cap2 vs1 vs2 vl1' vl2' (cell1 w st.inv.cells) (fun h => by rw [hnil1 h]; rfl)
          (cell2 w st.inv.cells) (fun h => by rw [hnil2 h]; rfl) hle hmost hby' hone
        rw [← e1, ← e2] at hrun
        refine good_value (hexec _ _ hrun) ?_
        rw [hd]
        generalize hG : grownCap w (xs.length + ys.length) cap1 e = G at hrun hrl hgrow ⊢
        have hsize : (vs1 ++ vs2 ++ rest).toArray.size = G * sz := by
          simp only [List.size_toArray, List.length_append, vl1', vl2', hrl, hisz, hvl]
          rw [← Nat.add_mul, ← Nat.add_mul, show xs.length + ys.length + (G - (xs.length + ys.length)) = G by omega]
        have st0 : St' x w.drew A μ s.h OH (allO n Ot) := st.heap rfl ⟨rfl, rfl, rfl⟩
        have hle2 : A.Le (A.put w.heap.size 0 ((xs.length + ys.length) * sz) (vs1 ++ vs2 ++ rest).toArray) := GM.put_le (fun j _ => st.inv.unsettled (Nat.le_refl _) j)
        have hall : ∀ c ∈ (vs1 ++ vs2 ++ rest), c.oneCell' = true := fun c hc => (List.mem_append.1 hc).elim (fun h => (List.mem_append.1 h).elim (one1 c) (one2 c)) (hrone c)
        have st' := st0.newRow (vs1 ++ vs2 ++ rest).toArray hall e ((xs.length + ys.length) * sz) (allO n (upd (giveO (giveO Ot y1) y2) d ((w.heap.size, (xs.length + ys.length) * sz, (vs1 ++ vs2 ++ rest).toArray.size) :: (O1 ++ O2)))) (fun p => by
          have k1 := count_upd p (giveO (giveO Ot y1) y2) d ((w.heap.size, (xs.length + ys.length) * sz, (vs1 ++ vs2 ++ rest).toArray.size) :: (O1 ++ O2)) n hdn
          have k2 := hcnt p
          have k3 := oc1 p
          have k4 := oc2 p
          have k5 : (if p (w.drew.heap.size, (xs.length + ys.length) * sz, (vs1 ++ vs2 ++ rest).toArray.size) = true then 1 else 0) = (if p (w.heap.size, (xs.length + ys.length) * sz, (vs1 ++ vs2 ++ rest).toArray.size) = true then 1 else 0) := rfl
          simp only [List.countP_cons, List.countP_append] at k1
          omega)
        refine mk_put (ν := []) ht h0 hrgg hle2 hdn ?_ (by rw [List.append_nil]; exact st')
        rw [List.append_nil]
        have hnilF : (nil && ys.isEmpty) = false := by
          cases ys with
          | nil => exact absurd rfl hys
          | cons _ _ => simp
        have huT : (uq || !ys.isEmpty) = true := by
          cases ys with
          | nil => exact absurd rfl hys
          | cons _ _ => simp
        rw [hnilF, huT]
        simp only [Rep]
        refine .inr ⟨trivial, w.heap.size, 0, none, G, O1 ++ O2, by rw [List.length_append], .inl rfl, by rw [List.length_append]; exact hgrow, ?_, .inl ⟨trivial, rfl, by rw [List.length_append, hsize]⟩⟩
        have hm := RepVals.mono (ν := []) hle2 (xs ++ ys).flatten (vs1 ++ vs2) (O1 ++ O2) (by rw [List.flatten_append]; exact RepVals.app rv1 rv2)
        rw [List.append_nil] at hm
        refine RepRow.of_vals (fun q hq => (List.mem_append.1 hq).elim (xl1' q) (xl2' q)) hm fun j q hj => ?_
        have hjl : j < (vs1 ++ vs2).length := by
          rcases Nat.lt_or_ge j (vs1 ++ vs2).length with g | g
          · exact g
          · rw [List.getElem?_eq_none g] at hj; simp at hj
        refine ⟨?_, (List.mem_append.1 (List.mem_of_getElem? hj)).elim (one1 q) (one2 q)⟩
        unfold GM.put
        rw [Nat.zero_add, if_pos ⟨rfl, Nat.zero_le _, by rw [List.length_append, vl1', vl2', hisz, ← Nat.add_mul] at hjl; exact hjl⟩]
        simp only [List.getElem?_toArray]
        rw [List.getElem?_append_left hjl]
        exact hj
    · simp at hs
  · simp at hs

theorem sound_cap {d : Nat} {y : X} {u : Operand} {t e : TypeId} {c : Call} (ho : o.op = .call c) (hc : c.callee = .builtin .cap) (ha : c.args.toList = [u]) (htt : c.argTypes.toList = [t])
    (he : P.underlying t = some (.slice e)) (hd : o.dst = some d) (hdn : d < n) (hy : XOk n y u)
    (hs : step (.cap d y) s = some s') (sim : Sim x n s a w) : Good P x n o s' a w := by
  obtain ⟨A, μ, OH, Ot, ht, h0, hr, st⟩ := sim
  have hry := get_rep hy hr
  have ha' : c.args = #[u] := by rw [← Array.toArray_toList (xs := c.args), ha]
  have ht' : c.argTypes = #[t] := by rw [← Array.toArray_toList (xs := c.argTypes), htt]
  simp only [step] at hs
  split at hs
  · rename_i hg
    simp only [Option.some.injEq] at hs
    subst hs
    rw [hg] at hry
    simp only [Rep] at hry
    rcases hry with ⟨_, hu, _⟩ | ⟨h, _⟩
    · refine good_value (v := .int .i64 0) (w' := w) (by
        rw [exec_builtin ho hc, ha', ht']
        simp [builtin, Builtin.cap_, run_underlying he, hu, goInt]) ?_
      rw [hd]
      exact put_same ht h0 hr hdn (Od := []) (by simp [Rep]) st (fun p => by simp)
    · simp at h
  · simp at hs

theorem run_append_zeros (t u e ty : TypeId) (k : IntKind) (i : TypeInfo) (z : Value) (ht : P.underlying t = some (.slice e)) (hu : P.underlying u = some (.int k)) (hi : P.info? e = some i) (hz : i.zero = some z)
    (hsz : z.cells.size = i.size) (hpos : 0 < i.size) (m : Nat) (hm : 0 < m) (hmost : m ≤ most) (hby : i.bytes ≤ 128) (kv : IntKind) (hone : ∀ c ∈ z.cells.toList, c.oneCell' = true) :
    ∃ cells : List Value, cells.length = grownCap w m 0 e * z.cells.size ∧ (∀ c ∈ cells, c.oneCell' = true) ∧ m ≤ grownCap w m 0 e ∧
    (Builtin.append_ #[t, u] ty #[.slice none 0 0, .int kv m]).run P w = .ok (.slice (some ⟨w.heap.size, 0, none⟩) m (grownCap w m 0 e)) { w.drew with heap := w.heap.push (.cells cells.toArray e (0, 0)) } := by
  have hmost' : m ≤ 1099511627776 := hmost
  have hw : IntKind.i64.wrap (m : Int) = m := by
    simp only [IntKind.wrap, IntKind.bits, IntKind.signed]; simp; split <;> omega
  have hfit : Builtin.nextslicecap m 0 * i.bytes ≤ 281474976710656 := growslice_fits (by omega) (by
    have : m * i.bytes ≤ 1099511627776 * 128 := Nat.mul_le_mul hmost' hby
    omega)
  have h48' : ¬ (281474976710656 < Builtin.nextslicecap m 0 * i.bytes) := by omega
  have h63' : ¬ (9223372036854775807 < (m : Int)) := by omega
  have hmb : ¬ (281474976710656 < (m : Int) * (i.bytes : Int)) := by
    have : m * i.bytes ≤ 1099511627776 * 128 := Nat.mul_le_mul hmost' hby
    have h2 : (m : Int) * (i.bytes : Int) = ((m * i.bytes : Nat) : Int) := by simp
    rw [h2]; omega
  have hne : ¬ (m = 0) := by omega
  have hne2 : ¬ (i.size = 0) := by omega
  have hneg : ¬ ((m : Int) < 0) := by omega
  have hle0 : ¬ ((m : Int) ≤ 0) := by omega
  have hmul : ¬ (m * i.size = 0) := by rw [Nat.mul_eq_zero]; omega
  refine ⟨(Builtin.zeroCells z.cells m).toList ++ (Builtin.zeroCells z.cells (grownCap w m 0 e - m)).toList, ?_, fun c hc => (List.mem_append.1 hc).elim (zeroCells_one hone _ c) (zeroCells_one hone _ c), by simp [grownCap, Question.cut], ?_⟩
  · simp only [List.length_append, Array.length_toList, size_zeroCells]
    have : m ≤ grownCap w m 0 e := by simp [grownCap, Question.cut]
    rw [← Nat.add_mul]; congr 1; omega
  · simp [Builtin.append_, run_underlying ht, run_underlying hu, sizeOf, typeInfo, zeroValue, hi, hz, asInt, asIntOf, hw, hneg, hle0, hmul, hmb, hne, hne2, h63', h48', Question.forced, Builtin.firstCells, newRow, grownCap]
    have harr : ∀ Y Z : Array Value, (Y ++ Z) = (Y.toList ++ Z.toList).toArray := by
      intro Y Z
      apply Array.toList_inj.1
      simp
    rw [harr]
    rfl

theorem sound_growz {d sz : Nat} {e : TypeId} {k : IntKind} {z : List LV} {y1 y2 : X} {u1 u2 : Operand} {t u : TypeId} {c : Call} (ho : o.op = .call c) (hc : c.callee = .builtin .append) (hargs : c.args.toList = [u1, u2]) (htt : c.argTypes.toList = [t, u])
    (hue : P.underlying u = some (.int k)) (hd : o.dst = some d) (hdn : d < n)
    (he : elemOf' P t = some e) (hsz : sz? P e = some sz) (hz : zLV P e = some z) (hzl : z.length = sz) (hpos : 0 < sz) (hby : P.bytesOf e ≤ 128)
    (hy1 : XOk n y1 u1) (hy2 : XOk n y2 u2) (hs : step (.growz d sz y1 y2) s = some s') (sim : Sim x n s a w) : Good P x n o s' a w := by
  obtain ⟨A, μ, OH, Ot, ht, h0, hr, st⟩ := sim
  obtain ⟨i, v, hi, hv, hrep, hone⟩ := zLV_ok hz
  have hvl : v.cells.size = sz := by rw [← Array.length_toList, (hrep A μ).length, hzl]
  have hby' : i.bytes ≤ 128 := by simpa [Program.bytesOf, hi] using hby
  obtain ⟨i2, hi2, hisz⟩ := sz_ok hsz
  rw [hi] at hi2
  obtain rfl : i = i2 := by simpa using hi2
  have hargs' : c.args = #[u1, u2] := by rw [← Array.toArray_toList (xs := c.args), hargs]
  have ht' : c.argTypes = #[t, u] := by rw [← Array.toArray_toList (xs := c.argTypes), htt]
  have hexec : ∀ r w', (Builtin.append_ #[t, u] o.type #[a.eval u1, a.eval u2]).run P w = .ok r w' → (execOp a.eval o).run P w = .ok (.value r) w' := by
    intro r w' h
    rw [exec_builtin ho hc, hargs', ht']
    simp [builtin, h]
  have hr1 := get_rep hy1 hr
  have hr2 := get_rep hy2 hr
  simp only [step] at hs
  split at hs
  · rename_i m hg1 hg2
    split at hs
    · rename_i hm
      simp only [Option.some.injEq] at hs
      subst hs
      rw [hg1] at hr1
      simp only [Rep] at hr1
      have e1 : a.eval u1 = .slice none 0 0 := by
        rcases hr1 with ⟨_, e1, _⟩ | ⟨h, _⟩
        · exact e1
        · simp at h
      obtain ⟨kv, e2⟩ := intOf_rep hg2 hr2
      obtain ⟨m', rfl⟩ : ∃ m' : Nat, m = m' := ⟨m.toNat, by omega⟩
      obtain ⟨cells, hcl, hcone, _, hrun⟩ := run_append_zeros (P := P) (w := w) t u e o.type k i v (elemOf_ok he) hue hi hv (by rw [hvl, hisz]) (by omega) m' (by omega) (by have := hm.2; exact_mod_cast this) hby' kv hone
      rw [← e1, ← e2] at hrun
      refine good_value (hexec _ _ hrun) ?_
      rw [hd]
      have st0 : St' x w.drew A μ s.h OH (allO n Ot) := st.heap rfl ⟨rfl, rfl, rfl⟩
      have hle2 : A.Le (A.put w.heap.size 0 0 cells.toArray) := GM.put_le (fun j _ => st.inv.unsettled (Nat.le_refl _) j)
      have st' := st0.newRow cells.toArray hcone e 0 (allO n (upd Ot d [(w.heap.size, 0, cells.toArray.size)])) (fun p => by
        have k1 := count_upd p Ot d [(w.heap.size, 0, cells.toArray.size)] n hdn
        have k5 : (if p (w.drew.heap.size, 0, cells.toArray.size) = true then 1 else 0) = (if p (w.heap.size, 0, cells.toArray.size) = true then 1 else 0) := rfl
        simp only [List.countP_cons, List.countP_nil] at k1
        omega)
      refine mk_put (ν := []) ht h0 hr hle2 hdn ?_ (by rw [List.append_nil]; exact st')
      rw [List.append_nil]
      simp only [Rep]
      exact ⟨_, _, _, rfl, by simp [hcl, hvl]⟩
    · simp at hs
  · simp at hs

theorem sound_cut0 {d sz : Nat} {e : TypeId} {y : X} {hi : X} {u hi' : Operand} {t : TypeId} (ho : o.op = .slice t u none (some hi') none) (he : P.underlying t = some (.slice e)) (hsz : sz? P e = some sz)
    (hd : o.dst = some d) (hdn : d < n) (hy : XOk n y u) (hhi : XOk n hi hi')
    (hs : step (.cut0 d sz y hi) s = some s') (sim : Sim x n s a w) : Good P x n o s' a w := by
  obtain ⟨A, μ, OH, Ot, ht, h0, hr, st⟩ := sim
  have hrep := get_rep hy hr
  have hrh := get_rep hhi hr
  have hrg := give_rep (Ot := Ot) y hr
  simp only [step] at hs
  split at hs
  · rename_i sz' m hg1 hg2
    split at hs
    · rename_i hc
      obtain ⟨rfl, rfl⟩ := hc
      simp only [Option.some.injEq] at hs
      subst hs
      rw [hg1] at hrep
      simp only [Rep] at hrep
      obtain ⟨b, len, cap, hu, hO⟩ := hrep
      obtain ⟨kv, e2⟩ := intOf_rep hg2 hrh
      refine good_value (v := .slice (some ⟨b, 0, none⟩) 0 cap) (w' := w) (by
        simp [execOp, ho, Instr.sliceAt, Instr.slice, run_underlying he, hu, e2, sizeOf_run hsz, addr_add, Instr.sliceBounds, Instr.sliceBound, asIntOf]) ?_
      rw [hd]
      refine put_same ht h0 hrg hdn (Od := getO Ot y) ?_ st (fun p => Nat.le_of_eq (give_count hy p))
      simp only [Rep]
      exact .inr ⟨trivial, b, 0, none, cap, [], by simp, .inl rfl, by simp, by simp [RepRow], .inl ⟨trivial, rfl, by rw [hO]; simp⟩⟩
    · simp at hs
  · simp at hs
end

end Go.TL
