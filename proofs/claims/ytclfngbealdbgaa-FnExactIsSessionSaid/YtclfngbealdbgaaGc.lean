/- IsSystem of the program. No conditions. -/
import Derived.Test.YtclfngbealdbgaaGb
namespace Go.Proofs.Ytclfngbealdbgaa
open Go Go.TL
set_option linter.unusedSimpArgs false
set_option linter.unusedVariables false
set_option maxRecDepth 20000
set_option maxHeartbeats 4000000

theorem implIsSystem_ok (s : GSys) (hw : s.wf) : Gives Try.prog n_impl_IsSystem [s.lv] (· = B s.sys) := by
  refine Gives.of_codeOf c_impl_IsSystem mixed (by simp) ⟨_, rfl, by simp⟩ ?_
  simp (disch := omega) [-onBool_some, -onBool_leT, -onBool_leF, -onBool_ltT, -onBool_ltF, -onBool_eqT, -onBool_eqF, k_impl_IsSystem, boxLV, frzLV]
  refine onCall_eq (within_ok _ _ _) (by simp) ?_
  simp (disch := omega) [-onBool_some, -onBool_leT, -onBool_leF, -onBool_ltT, -onBool_ltF, -onBool_eqT, -onBool_eqF]
  (with_reducible first | refine onBoolT (fun h1 => ?_) (fun h1 => ?_) | refine onBoolF (fun h1 => ?_) (fun h1 => ?_))
  · obtain ⟨h2, h3, h4, h5⟩ := GSys.sq (s := s) h1
    simp (disch := omega) [-onBool_some, -onBool_leT, -onBool_leF, -onBool_ltT, -onBool_ltF, -onBool_eqT, -onBool_eqF, h1, i64_wrap]
    repeat' (first
    | (with_reducible (first | refine onBoolT (fun hb_ => ?_) (fun hb_ => ?_) | refine onBoolF (fun hb_ => ?_) (fun hb_ => ?_)) <;> simp (disch := omega) [-onBool_some, -onBool_leT, -onBool_leF, -onBool_ltT, -onBool_ltF, -onBool_eqT, -onBool_eqF, hb_, h1, i64_wrap])
    | simp (disch := omega) [-onBool_some, -onBool_leT, -onBool_leF, -onBool_ltT, -onBool_ltF, -onBool_eqT, -onBool_eqF, h1, i64_wrap])
    all_goals try (simp_all [GSys.tabB, GSys.sys]; done)
    · rename_i g1 g2
      have e0 : s.tabB = allN s.cell s.plus.length := by simp [GSys.tabB, h1, g1, g2, hb_]
      all_goals (try simp only [ltB_true, ltB_false, leB_true, leB_false, eqB_true, eqB_false, Bool.not_true, Bool.not_false] at *)
      refine wpC_forM s.plus.length 0 (fun i t _ => t 43 = N i ∧ allN s.cell i = true) (fun _ _ => s.tabB = true) (by simp) (by omega) ?_ ?_
      · rintro i t1 hh hf hi ⟨e3, hj⟩
        (have e1 := hf 1 (by kernel_rfl); have e42 := hf 42 (by kernel_rfl); clear hf; simp [] at e1 e42)
        simp (disch := omega) [-onBool_some, -onBool_leT, -onBool_leF, -onBool_ltT, -onBool_ltF, -onBool_eqT, -onBool_eqF, e1, e42, e3]
        (with_reducible first | refine onBoolT (fun h6 => ?_) (fun h6 => ?_) | refine onBoolF (fun h6 => ?_) (fun h6 => ?_))
        · simp only [ltB_true, ltB_false, leB_true, leB_false, eqB_true, eqB_false, Bool.not_true, Bool.not_false] at h6
          simp (disch := omega) [-onBool_some, -onBool_leT, -onBool_leF, -onBool_ltT, -onBool_ltF, -onBool_eqT, -onBool_eqF, e1, e3, e42, i64_wrap, idx_L]
          have ec : s.cell i = (within (s.plus[i]'(by omega)) 0 (s.size - 1) && within (s.times[i]'(by omega)) 0 (s.size - 1)) := by
            simp [GSys.cell, show i < s.plus.length by omega, show i < s.times.length by omega]
          have hlo : -9223372036854775808 < s.size := by omega
          have hI : I64 s.size := hw.1
          repeat' (first
    | with_reducible refine onCall_eq (has_ok s hI hlo _) (by simp) ?_
    | (with_reducible (first | refine onBoolT (fun hb_ => ?_) (fun hb_ => ?_) | refine onBoolF (fun hb_ => ?_) (fun hb_ => ?_)) <;> simp (disch := omega) [-onBool_some, -onBool_leT, -onBool_leF, -onBool_ltT, -onBool_ltF, -onBool_eqT, -onBool_eqF, hb_, e1, e3, e42, i64_wrap, idx_L])
    | simp (disch := omega) [-onBool_some, -onBool_leT, -onBool_leF, -onBool_ltT, -onBool_ltF, -onBool_eqT, -onBool_eqF, e1, e3, e42, i64_wrap, idx_L])
          · refine ⟨by omega, by simp_all [allN_succ]⟩
          · simp only [GSys.sys, e0, allN_at (p := s.cell) (i := i) (n := s.plus.length) (by omega) (by simp_all)]; simp
          · simp only [GSys.sys, e0, allN_at (p := s.cell) (i := i) (n := s.plus.length) (by omega) (by simp_all)]; simp
        · simp only [ltB_true, ltB_false, leB_true, leB_false, eqB_true, eqB_false, Bool.not_true, Bool.not_false] at h6
          simp (disch := omega) [-onBool_some, -onBool_leT, -onBool_leF, -onBool_ltT, -onBool_ltF, -onBool_eqT, -onBool_eqF, e1, e3, e42]
          rw [e0, ← hj, show i = s.plus.length by omega]
      · rintro t0 hh hf0 ht
        (have d1 := hf0 1 (by kernel_rfl); have d3 := hf0 3 (by kernel_rfl); clear hf0; simp [] at d1 d3)
        simp (disch := omega) [-onBool_some, -onBool_leT, -onBool_leF, -onBool_ltT, -onBool_ltF, -onBool_eqT, -onBool_eqF, d1, d3]
        have t := GSys.tab_iff.1 ht
        obtain ⟨n, hn⟩ : ∃ n : Nat, s.size = n := ⟨s.size.toNat, by omega⟩
        rw [GSys.sys_n hn, ht, Bool.true_and]
        refine wpC_for n 0 (fun a t _ => t 5 = N a ∧ allN (fun a => s.sysB n a) a = true) (by simp) (by omega) ?_
        rintro a t1 hh hf ha ⟨e5, hj⟩
        (have e1 := hf 1 (by kernel_rfl); have e3 := hf 3 (by kernel_rfl); clear hf; simp [d1, d3] at e1 e3)
        simp (disch := omega) [-onBool_some, -onBool_leT, -onBool_leF, -onBool_ltT, -onBool_ltF, -onBool_eqT, -onBool_eqF, e1, e3, e5]
        (with_reducible first | refine onBoolT (fun h6 => ?_) (fun h6 => ?_) | refine onBoolF (fun h6 => ?_) (fun h6 => ?_))
        · have hGa := GSys.Glt h6
          simp only [ltB_true, ltB_false, leB_true, leB_false, eqB_true, eqB_false, Bool.not_true, Bool.not_false] at h6
          simp (disch := omega) [-onBool_some, -onBool_leT, -onBool_leF, -onBool_ltT, -onBool_ltF, -onBool_eqT, -onBool_eqF, e1, e3, e5]
          refine onCall_eq (plus_ok t (GSys.G0 t) hGa) (by simp) ?_
          refine wpL_mid (fun t h => t 107 = B (!s.one a)) ?_ ?_
          · repeat' (first
    | with_reducible refine onCall_eq (times_ok t (by first | assumption | exact GSys.Gpl t _ _ | exact GSys.Gtm t _ _ | exact GSys.Glt (by assumption) | exact GSys.G0 t | exact GSys.G1 t) (by first | assumption | exact GSys.Gpl t _ _ | exact GSys.Gtm t _ _ | exact GSys.Glt (by assumption) | exact GSys.G0 t | exact GSys.G1 t)) (by simp) ?_
    | with_reducible refine onCall_eq (below_ok t (by first | assumption | exact GSys.Gpl t _ _ | exact GSys.Gtm t _ _ | exact GSys.Glt (by assumption) | exact GSys.G0 t | exact GSys.G1 t) (by first | assumption | exact GSys.Gpl t _ _ | exact GSys.Gtm t _ _ | exact GSys.Glt (by assumption) | exact GSys.G0 t | exact GSys.G1 t)) (by simp) ?_
    | (with_reducible (first | refine onBoolT (fun hb_ => ?_) (fun hb_ => ?_) | refine onBoolF (fun hb_ => ?_) (fun hb_ => ?_)) <;> simp (disch := omega) [-onBool_some, -onBool_leT, -onBool_leF, -onBool_ltT, -onBool_ltF, -onBool_eqT, -onBool_eqF, hb_, e1, e3, e5])
    | simp (disch := omega) [-onBool_some, -onBool_leT, -onBool_leF, -onBool_ltT, -onBool_ltF, -onBool_eqT, -onBool_eqF, e1, e3, e5])
            all_goals simp_all [GSys.one]
          · rintro t2 hh hf e107
            (have f1 := hf 1 (by kernel_rfl); have f3 := hf 3 (by kernel_rfl); have f5 := hf 5 (by kernel_rfl); clear hf; simp [e1, e3, e5] at f1 f3 f5)
            simp (disch := omega) [-onBool_some, -onBool_leT, -onBool_leF, -onBool_ltT, -onBool_ltF, -onBool_eqT, -onBool_eqF, e107]
            (with_reducible first | refine onBoolT (fun h7 => ?_) (fun h7 => ?_) | refine onBoolF (fun h7 => ?_) (fun h7 => ?_))
            · simp (disch := omega) [-onBool_some, -onBool_leT, -onBool_leF, -onBool_ltT, -onBool_ltF, -onBool_eqT, -onBool_eqF]
              refine wpC_forM n 0 (fun b t _ => t 6 = N b ∧ allN (fun b => s.sysC n a b) b = true) (fun t h => allN (fun b => s.sysC n a b) n = true) (by simp) (by omega) ?_ ?_
              · rintro b t3 hh hf hb ⟨g6, hj2⟩
                (have g1 := hf 1 (by kernel_rfl); have g3 := hf 3 (by kernel_rfl); have g5 := hf 5 (by kernel_rfl); clear hf; simp [f1, f3, f5] at g1 g3 g5)
                simp (disch := omega) [-onBool_some, -onBool_leT, -onBool_leF, -onBool_ltT, -onBool_ltF, -onBool_eqT, -onBool_eqF, g1, g3, g5, g6]
                (with_reducible first | refine onBoolT (fun h8 => ?_) (fun h8 => ?_) | refine onBoolF (fun h8 => ?_) (fun h8 => ?_))
                · have hGb := GSys.Glt h8
                  simp only [ltB_true, ltB_false, leB_true, leB_false, eqB_true, eqB_false, Bool.not_true, Bool.not_false] at h8
                  simp (disch := omega) [-onBool_some, -onBool_leT, -onBool_leF, -onBool_ltT, -onBool_ltF, -onBool_eqT, -onBool_eqF, g1, g3, g5, g6]
                  refine onCall_eq (plus_ok t hGa hGb) (by simp) ?_
                  refine wpL_mid (fun t h => t 145 = B (!s.two a b)) ?_ ?_
                  · repeat' (first
    | with_reducible refine onCall_eq (plus_ok t (by first | assumption | exact GSys.Gpl t _ _ | exact GSys.Gtm t _ _ | exact GSys.Glt (by assumption) | exact GSys.G0 t | exact GSys.G1 t) (by first | assumption | exact GSys.Gpl t _ _ | exact GSys.Gtm t _ _ | exact GSys.Glt (by assumption) | exact GSys.G0 t | exact GSys.G1 t)) (by simp) ?_
    | with_reducible refine onCall_eq (below_ok t (by first | assumption | exact GSys.Gpl t _ _ | exact GSys.Gtm t _ _ | exact GSys.Glt (by assumption) | exact GSys.G0 t | exact GSys.G1 t) (by first | assumption | exact GSys.Gpl t _ _ | exact GSys.Gtm t _ _ | exact GSys.Glt (by assumption) | exact GSys.G0 t | exact GSys.G1 t)) (by simp) ?_
    | with_reducible refine onCall_eq (join_ok t (by first | assumption | exact GSys.Gpl t _ _ | exact GSys.Gtm t _ _ | exact GSys.Glt (by assumption) | exact GSys.G0 t | exact GSys.G1 t) (by first | assumption | exact GSys.Gpl t _ _ | exact GSys.Gtm t _ _ | exact GSys.Glt (by assumption) | exact GSys.G0 t | exact GSys.G1 t)) (by simp) ?_
    | (with_reducible (first | refine onBoolT (fun hb_ => ?_) (fun hb_ => ?_) | refine onBoolF (fun hb_ => ?_) (fun hb_ => ?_)) <;> simp (disch := omega) [-onBool_some, -onBool_leT, -onBool_leF, -onBool_ltT, -onBool_ltF, -onBool_eqT, -onBool_eqF, hb_, g1, g3, g5, g6])
    | simp (disch := omega) [-onBool_some, -onBool_leT, -onBool_leF, -onBool_ltT, -onBool_ltF, -onBool_eqT, -onBool_eqF, g1, g3, g5, g6])
                    all_goals simp_all [GSys.two, ltB_not]
                  · rintro t4 hh hf e145
                    (have q1 := hf 1 (by kernel_rfl); have q3 := hf 3 (by kernel_rfl); have q5 := hf 5 (by kernel_rfl); have q6 := hf 6 (by kernel_rfl); clear hf; simp [g1, g3, g5, g6] at q1 q3 q5 q6)
                    simp (disch := omega) [-onBool_some, -onBool_leT, -onBool_leF, -onBool_ltT, -onBool_ltF, -onBool_eqT, -onBool_eqF, e145]
                    (with_reducible first | refine onBoolT (fun h9 => ?_) (fun h9 => ?_) | refine onBoolF (fun h9 => ?_) (fun h9 => ?_))
                    · simp (disch := omega) [-onBool_some, -onBool_leT, -onBool_leF, -onBool_ltT, -onBool_ltF, -onBool_eqT, -onBool_eqF]
                      refine wpC_forM n 0 (fun c t _ => t 7 = N c ∧ allN (fun c => s.three a b c) c = true) (fun t h => allN (fun c => s.three a b c) n = true) (by simp) (by omega) ?_ ?_
                      · rintro c t3 hh hf hc ⟨r7, hj3⟩
                        (have r1 := hf 1 (by kernel_rfl); have r3 := hf 3 (by kernel_rfl); have r5 := hf 5 (by kernel_rfl); have r6 := hf 6 (by kernel_rfl); clear hf; simp [q1, q3, q5, q6] at r1 r3 r5 r6)
                        simp (disch := omega) [-onBool_some, -onBool_leT, -onBool_leF, -onBool_ltT, -onBool_ltF, -onBool_eqT, -onBool_eqF, r1, r3, r5, r6, r7]
                        (with_reducible first | refine onBoolT (fun h10 => ?_) (fun h10 => ?_) | refine onBoolF (fun h10 => ?_) (fun h10 => ?_))
                        · have hGc := GSys.Glt h10
                          simp only [ltB_true, ltB_false, leB_true, leB_false, eqB_true, eqB_false, Bool.not_true, Bool.not_false] at h10
                          simp (disch := omega) [-onBool_some, -onBool_leT, -onBool_leF, -onBool_ltT, -onBool_ltF, -onBool_eqT, -onBool_eqF, r1, r3, r5, r6, r7]
                          repeat' (first
    | with_reducible refine onCall_eq (lawsOf_ok t hGa hGb hGc) (by simp) ?_
    | (with_reducible (first | refine onBoolT (fun hb_ => ?_) (fun hb_ => ?_) | refine onBoolF (fun hb_ => ?_) (fun hb_ => ?_)) <;> simp (disch := omega) [-onBool_some, -onBool_leT, -onBool_leF, -onBool_ltT, -onBool_ltF, -onBool_eqT, -onBool_eqF, hb_, r1, r3, r5, r6, r7])
    | simp (disch := omega) [-onBool_some, -onBool_leT, -onBool_leF, -onBool_ltT, -onBool_ltF, -onBool_eqT, -onBool_eqF, r1, r3, r5, r6, r7])
                          · refine ⟨by omega, i64_wrap (by omega), by simp [allN_succ, hj3, hb_]⟩
                          · exact allN_at (i := a) (by omega) (by simp [GSys.sysB, h7, allN_at (p := fun b => s.sysC n a b) (i := b) (n := n) (by omega) (by simp [GSys.sysC, h9, allN_at (p := fun c => s.three a b c) (i := c) (n := n) (by omega) (by simpa using hb_)])])
                        · simp only [ltB_true, ltB_false, leB_true, leB_false, eqB_true, eqB_false, Bool.not_true, Bool.not_false] at h10
                          simp (disch := omega) [-onBool_some, -onBool_leT, -onBool_leF, -onBool_ltT, -onBool_ltF, -onBool_eqT, -onBool_eqF]
                          rw [← hj3, show c = n by omega]
                      · rintro t4 hh hf hj3
                        (have r1 := hf 1 (by kernel_rfl); have r3 := hf 3 (by kernel_rfl); have r5 := hf 5 (by kernel_rfl); have r6 := hf 6 (by kernel_rfl); clear hf; simp [q1, q3, q5, q6] at r1 r3 r5 r6)
                        simp (disch := omega) [-onBool_some, -onBool_leT, -onBool_leF, -onBool_ltT, -onBool_ltF, -onBool_eqT, -onBool_eqF, r1, r3, r5, r6]
                        exact ⟨by omega, i64_wrap (by omega), by simp [allN_succ, hj2, show s.sysC n a b = true by simp [GSys.sysC, h9, hj3]]⟩
                    · simp (disch := omega) [-onBool_some, -onBool_leT, -onBool_leF, -onBool_ltT, -onBool_ltF, -onBool_eqT, -onBool_eqF]
                      exact allN_at (i := a) (by omega) (by simp [GSys.sysB, h7, allN_at (p := fun b => s.sysC n a b) (i := b) (n := n) (by omega) (by simp_all [GSys.sysC])])
                · simp only [ltB_true, ltB_false, leB_true, leB_false, eqB_true, eqB_false, Bool.not_true, Bool.not_false] at h8
                  simp (disch := omega) [-onBool_some, -onBool_leT, -onBool_leF, -onBool_ltT, -onBool_ltF, -onBool_eqT, -onBool_eqF]
                  rw [← hj2, show b = n by omega]
              · rintro t4 hh hf hj2
                (have r1 := hf 1 (by kernel_rfl); have r3 := hf 3 (by kernel_rfl); have r5 := hf 5 (by kernel_rfl); clear hf; simp [f1, f3, f5] at r1 r3 r5)
                simp (disch := omega) [-onBool_some, -onBool_leT, -onBool_leF, -onBool_ltT, -onBool_ltF, -onBool_eqT, -onBool_eqF, r1, r3, r5]
                exact ⟨by omega, i64_wrap (by omega), by simp [allN_succ, hj, show s.sysB n a = true by simp [GSys.sysB, h7, hj2]]⟩
            · simp (disch := omega) [-onBool_some, -onBool_leT, -onBool_leF, -onBool_ltT, -onBool_ltF, -onBool_eqT, -onBool_eqF]
              exact allN_at (i := a) (by omega) (by simp_all [GSys.sysB])
        · simp only [ltB_true, ltB_false, leB_true, leB_false, eqB_true, eqB_false, Bool.not_true, Bool.not_false] at h6
          simp (disch := omega) [-onBool_some, -onBool_leT, -onBool_leF, -onBool_ltT, -onBool_ltF, -onBool_eqT, -onBool_eqF]
          rw [← hj, show a = n by omega]
  · simp_all [GSys.tabB, GSys.sys]
end Go.Proofs.Ytclfngbealdbgaa
