/- Each operation of the machine does what its instruction says. No program, no conditions. -/
import Derived.Test.YticcekapikfhaaaTLD
namespace Go.TL

section
variable {P : Program} {x : Cx} {n : Nat} {o : Oper} {s s' : St} {a : Act} {w : World}

theorem mv_sound {d : Nat} {m : Md} {y : X} {u : Operand} (he : execOp a.eval o = pure (.value (a.eval u))) (hd : o.dst = some d) (hdn : d < n) (hy : XOk n y u)
    (hs : step (.mv d m y) s = some s') (sim : Sim x n s a w) : Good P x n o s' a w := by
  cases m with
  | copy => exact sound_mv_copy he hd hdn hy hs sim
  | take => exact sound_mv_take he hd hdn hy hs sim
  | frz => exact sound_mv_frz he hd hdn hy hs sim

set_option maxHeartbeats 1000000 in
theorem sound_one {m : Md} {i : I} (hc : compile P n o m = some i) (hs : step i s = some s') (sim : Sim x n s a w) : Good P x n o s' a w := by
  cases hop : o.op with
  | move y =>
    simp only [compile, hop, Option.bind_eq_some_iff, Option.map_eq_some_iff] at hc
    obtain ⟨d, hd, z, hz, rfl⟩ := hc
    obtain ⟨h1, h2⟩ := cD_ok hd
    exact mv_sound (u := y) (by simp [execOp, hop]) h1 h2 (cX_ok hz) hs sim
  | assign y =>
    simp only [compile, hop, Option.bind_eq_some_iff, Option.map_eq_some_iff] at hc
    obtain ⟨d, hd, z, hz, rfl⟩ := hc
    obtain ⟨h1, h2⟩ := cD_ok hd
    exact mv_sound (u := y) (by simp [execOp, hop]) h1 h2 (cX_ok hz) hs sim
  | alloc e =>
    simp only [compile, hop, Option.bind_eq_some_iff, Option.map_eq_some_iff] at hc
    obtain ⟨d, hd, z, hz, rfl⟩ := hc
    obtain ⟨h1, h2⟩ := cD_ok hd
    exact sound_alloc hop h1 h2 hz hs sim
  | box e y =>
    simp only [compile, hop, Option.bind_eq_some_iff, Option.map_eq_some_iff] at hc
    obtain ⟨d, hd, z, hz, rfl⟩ := hc
    obtain ⟨h1, h2⟩ := cD_ok hd
    exact sound_box hop h1 h2 (cX_ok hz) hs sim
  | load t y =>
    simp only [compile, hop, Option.bind_eq_some_iff, Option.map_eq_some_iff] at hc
    obtain ⟨d, hd, z, hz, ag, hag, sz, hsz, rfl⟩ := hc
    obtain ⟨h1, h2⟩ := cD_ok hd
    exact sound_load hop h1 h2 (cX_ok hz) hag hsz hs sim
  | store t y z =>
    simp only [compile, hop] at hc
    split at hc
    · rename_i hd
      simp only [Option.bind_eq_some_iff, Option.map_eq_some_iff] at hc
      obtain ⟨p, hp, q, hq, sz, hsz, rfl⟩ := hc
      exact sound_store hop hd (cX_ok hp) (cX_ok hq) hsz hs sim
    · simp at hc
  | binOp op t y z t' =>
    simp only [compile, hop, Option.bind_eq_some_iff, Option.map_eq_some_iff] at hc
    obtain ⟨d, hd, p, hp, q, hq, c, hcm, rfl⟩ := hc
    obtain ⟨h1, h2⟩ := cD_ok hd
    exact sound_bin hop h1 h2 (cX_ok hp) (cX_ok hq) hcm hs sim
  | unOp op t y =>
    simp only [compile, hop, Option.bind_eq_some_iff, Option.map_eq_some_iff] at hc
    obtain ⟨d, hd, p, hp, rfl⟩ := hc
    obtain ⟨h1, h2⟩ := cD_ok hd
    exact sound_un hop h1 h2 (cX_ok hp) hs sim
  | build t ps =>
    simp only [compile, hop] at hc
    split at hc
    · rename_i fs hfs
      simp only [Option.bind_eq_some_iff, Option.map_eq_some_iff] at hc
      obtain ⟨d, hd, z, hz, pl, hpl, qs, hq, rfl⟩ := hc
      obtain ⟨h1, h2⟩ := cD_ok hd
      exact sound_build hop h1 h2 hfs hz hpl hq hs sim
    · simp at hc
  | buildSlice t len ps =>
    simp only [compile, hop, Option.bind_eq_some_iff, Option.map_eq_some_iff] at hc
    obtain ⟨d, hd, e, he, sz, hsz, _, hcond, z, hz, _, hzl, qs, hq, rfl⟩ := hc
    obtain ⟨h1, h2⟩ := cD_ok hd
    split at hcond
    · rename_i hcond'
      split at hzl
      · rename_i hzl'
        exact sound_bslice hop h1 h2 he hsz hcond'.1 hcond'.2 hz hzl' hq hs sim
      · simp at hzl
    · simp at hcond
  | slice t y lo hi mx =>
    simp only [compile, hop] at hc
    split at hc
    · rename_i e he
      simp only [Option.bind_eq_some_iff, Option.map_eq_some_iff] at hc
      obtain ⟨d, hd, sz, hsz, p, hp, l, hl, h, hh, m', hm', _, hcond, rfl⟩ := hc
      obtain ⟨h1, h2⟩ := cD_ok hd
      have plain : ∀ (hs : step (.slice d sz p l h m') s = some s'), Good P x n o s' a w := fun hs => by
        split at hcond
        · simp at hcond
        · rename_i hcond'
          refine sound_slice hop he hsz h1 h2 (cX_ok hp) (cOpt_ok hl) (cOpt_ok hh) (cOpt_ok hm') (fun hmx => ?_) hs sim
          cases hi with
          | some _ => rfl
          | none => exact absurd (by simp [hmx]) hcond'
      split at hs
      · rename_i kk
        obtain rfl : lo = none := by cases lo with
          | none => rfl
          | some _ => simp [cOpt] at hl
        obtain rfl : mx = none := by cases mx with
          | none => rfl
          | some _ => simp [cOpt] at hm'
        cases hi with
        | none => simp [cOpt] at hh
        | some hi' =>
          simp only [cOpt, Option.map_eq_some_iff, Option.some.injEq] at hh
          obtain ⟨q, hq, rfl⟩ := hh
          exact sound_cut0 hop he hsz h1 h2 (cX_ok hp) (cX_ok hq) hs sim
      · exact plain hs
    · rename_i he
      simp only [Option.bind_eq_some_iff, Option.map_eq_some_iff] at hc
      obtain ⟨d, hd, p, hp, l, hl, h, hh, _, hcond, rfl⟩ := hc
      obtain ⟨h1, h2⟩ := cD_ok hd
      cases mx with
      | some _ => simp at hcond
      | none => exact sound_sliceS hop he h1 h2 (cX_ok hp) (cOpt_ok hl) (cOpt_ok hh) hs sim
    · simp at hc
  | fieldAddr t y f =>
    simp only [compile, hop, Option.bind_eq_some_iff] at hc
    obtain ⟨d, hd, p, hp, g, hg, sz, hsz, hcond⟩ := hc
    obtain ⟨h1, h2⟩ := cD_ok hd
    split at hcond
    · simp at hcond
    · rename_i hz
      simp only [Option.some.injEq] at hcond
      subst hcond
      exact sound_fieldA hop h1 h2 (cX_ok hp) hg hsz hz hs sim
  | field t y f =>
    simp only [compile, hop, Option.bind_eq_some_iff, Option.map_eq_some_iff] at hc
    obtain ⟨d, hd, p, hp, g, hg, ag, hag, sz, hsz, rfl⟩ := hc
    obtain ⟨h1, h2⟩ := cD_ok hd
    exact sound_field hop h1 h2 (cX_ok hp) hg hag hsz hs sim
  | indexAddr t y z =>
    simp only [compile, hop, Option.bind_eq_some_iff, Option.map_eq_some_iff] at hc
    obtain ⟨d, hd, p, hp, q, hq, e, he, sz, hsz, rfl⟩ := hc
    obtain ⟨h1, h2⟩ := cD_ok hd
    exact sound_indexA hop h1 h2 (cX_ok hp) (cX_ok hq) he hsz hs sim
  | index t y z =>
    simp only [compile, hop] at hc
    split at hc
    · rename_i he
      simp only [Option.bind_eq_some_iff, Option.map_eq_some_iff] at hc
      obtain ⟨d, hd, p, hp, q, hq, rfl⟩ := hc
      obtain ⟨h1, h2⟩ := cD_ok hd
      exact sound_indexS hop he h1 h2 (cX_ok hp) (cX_ok hq) hs sim
    · simp at hc
  | extract y k =>
    simp only [compile, hop, Option.bind_eq_some_iff, Option.map_eq_some_iff] at hc
    obtain ⟨d, hd, p, hp, rfl⟩ := hc
    obtain ⟨h1, h2⟩ := cD_ok hd
    exact sound_extract hop h1 h2 (cX_ok hp) hs sim
  | makeSlice t l c =>
    simp only [compile, hop, Option.bind_eq_some_iff] at hc
    obtain ⟨d, hd, e, he, sz, hsz, z, hz, _, hcond, hc⟩ := hc
    obtain ⟨h1, h2⟩ := cD_ok hd
    split at hcond
    · rename_i hcond'
      split at hc
      · split at hc
        · rename_i hab
          obtain ⟨rfl, han⟩ := hab
          simp only [Option.some.injEq] at hc
          subst hc
          exact sound_mkslice hop h1 h2 han he hsz hz hcond'.1 hcond'.2.1 hcond'.2.2 hs sim
        · simp at hc
      · simp at hc
    · simp at hcond
  | makeFunc fn first caps =>
    cases fn <;> simp only [compile, hop] at hc <;> (try (simp at hc; done))
    simp only [Option.bind_eq_some_iff, Option.map_eq_some_iff] at hc
    obtain ⟨d, hd, hc⟩ := hc
    obtain ⟨h1, h2⟩ := cD_ok hd
    split at hc
    · rename_i hf'
      simp only [Option.map_eq_some_iff] at hc
      obtain ⟨cs, hcs, rfl⟩ := hc
      exact sound_mkfn hop hf' h1 h2 hcs hs sim
    · split at hc
      · rename_i hf'
        simp only [Option.map_eq_some_iff] at hc
        obtain ⟨cs, hcs, rfl⟩ := hc
        exact sound_mkfnm hop hf' h1 h2 hcs hs sim
      · simp at hc
  | nilCheck y =>
    simp only [compile, hop, Option.bind_eq_some_iff, Option.map_eq_some_iff] at hc
    obtain ⟨d, hd, p, hp, rfl⟩ := hc
    obtain ⟨h1, h2⟩ := cD_ok hd
    exact sound_nilchk hop h1 h2 (cX_ok hp) hs sim
  | convert t t' y =>
    simp only [compile, hop] at hc
    split at hc
    · rename_i k k' h3 h4
      simp only [Option.bind_eq_some_iff, Option.map_eq_some_iff] at hc
      obtain ⟨d, hd, p, hp, rfl⟩ := hc
      obtain ⟨h1, h2⟩ := cD_ok hd
      exact sound_conv hop h1 h2 (cX_ok hp) h3 h4 hs sim
    · simp at hc
  | call c =>
    simp only [compile, hop] at hc
    split at hc
    · rename_i y t hcal hargs htys
      split at hc
      · rename_i he
        simp only [Option.bind_eq_some_iff, Option.map_eq_some_iff] at hc
        obtain ⟨d, hd, p, hp, rfl⟩ := hc
        obtain ⟨h1, h2⟩ := cD_ok hd
        exact sound_lenS hop hcal hargs htys he h1 h2 (cX_ok hp) hs sim
      · rename_i e he
        simp only [Option.bind_eq_some_iff, Option.map_eq_some_iff] at hc
        obtain ⟨d, hd, p, hp, rfl⟩ := hc
        obtain ⟨h1, h2⟩ := cD_ok hd
        exact sound_len hop hcal hargs htys he h1 h2 (cX_ok hp) hs sim
      · simp at hc
    · rename_i y z t u hcal hargs htys
      split at hc
      · rename_i ue hue
        simp only [Option.bind_eq_some_iff, Option.map_eq_some_iff] at hc
        obtain ⟨d, hd, e, he, sz, hsz, zz, hz, _, hcond, p, hp, q, hq, rfl⟩ := hc
        obtain ⟨h1, h2⟩ := cD_ok hd
        split at hcond
        · rename_i hcond'
          exact sound_append hop hcal hargs htys hue h1 h2 he hsz hz hcond'.1 hcond'.2.1 hcond'.2.2 (cX_ok hp) (cX_ok hq) hs sim
        · simp at hcond
      · rename_i k hue
        simp only [Option.bind_eq_some_iff, Option.map_eq_some_iff] at hc
        obtain ⟨d, hd, e, he, sz, hsz, zz, hz, _, hcond, p, hp, q, hq, rfl⟩ := hc
        obtain ⟨h1, h2⟩ := cD_ok hd
        split at hcond
        · rename_i hcond'
          exact sound_growz hop hcal hargs htys hue h1 h2 he hsz hz hcond'.1 hcond'.2.1 hcond'.2.2 (cX_ok hp) (cX_ok hq) hs sim
        · simp at hcond
      · simp at hc
    · rename_i y z hcal hargs
      simp only [Option.bind_eq_some_iff, Option.map_eq_some_iff] at hc
      obtain ⟨d, hd, p, hp, q, hq, rfl⟩ := hc
      obtain ⟨h1, h2⟩ := cD_ok hd
      exact sound_minmax (mx := true) hop hcal hargs h1 h2 (cX_ok hp) (cX_ok hq) hs sim
    · rename_i y z hcal hargs
      simp only [Option.bind_eq_some_iff, Option.map_eq_some_iff] at hc
      obtain ⟨d, hd, p, hp, q, hq, rfl⟩ := hc
      obtain ⟨h1, h2⟩ := cD_ok hd
      exact sound_minmax (mx := false) hop hcal hargs h1 h2 (cX_ok hp) (cX_ok hq) hs sim
    · rename_i y t hcal hargs htys
      split at hc
      · rename_i e he
        simp only [Option.bind_eq_some_iff, Option.map_eq_some_iff] at hc
        obtain ⟨d, hd, p, hp, rfl⟩ := hc
        obtain ⟨h1, h2⟩ := cD_ok hd
        exact sound_cap hop hcal hargs htys he h1 h2 (cX_ok hp) hs sim
      · simp at hc
    · simp only [Option.bind_eq_some_iff, Option.map_eq_some_iff] at hc
      obtain ⟨_, _, _, _, _, _, rfl⟩ := hc
      simp [step] at hs
    · simp at hc
  | pick c y z =>
    simp only [compile, hop, Option.bind_eq_some_iff, Option.map_eq_some_iff] at hc
    obtain ⟨d, hd, p, hp, q, hq, r, hr, rfl⟩ := hc
    obtain ⟨h1, h2⟩ := cD_ok hd
    exact sound_pick hop h1 h2 (cX_ok hp) (cX_ok hq) (cX_ok hr) hs sim
  | _ => simp [compile, hop] at hc

theorem compileT_cases {m : Md} {i : I} (hc : compileT P n o m = some i) : compile P n o m = some i ∨ (i = .bad o.dst ∧ ∀ k ∈ o.dst.toList, k < n) := by
  unfold compileT at hc
  split at hc
  · rename_i j hj; exact .inl (by rw [hj]; exact hc)
  · split at hc
    · rename_i hd; simp only [Option.some.injEq] at hc; subst hc; exact .inr ⟨by rw [hd], by simp [hd]⟩
    · rename_i d hd
      split at hc
      · rename_i hlt; simp only [Option.some.injEq] at hc; subst hc; exact .inr ⟨by rw [hd], by simpa [hd] using hlt⟩
      · simp at hc
end

end Go.TL
