/- Cursors over the bytes of a draw. No conditions. -/
import Derived.Test.YticcekapikfhaaaGa
namespace Go.Proofs.Yticcekapikfhaaa
open Go Go.TL
set_option linter.unusedSimpArgs false
set_option linter.unusedVariables false
set_option linter.unusedSectionVars false
set_option maxRecDepth 20000
set_option maxHeartbeats 4000000

theorem wrap_i64 (n : Int) : I64 (IntKind.i64.wrap n) := by
  unfold I64; rw [IntKind.wrap_i64]; omega
def andI (a b : Int) : Int := IntKind.i64.wrap (BitVec.ofInt 64 a &&& BitVec.ofInt 64 b).toNat
def xorI (a b : Int) : Int := IntKind.i64.wrap (BitVec.ofInt 64 a ^^^ BitVec.ofInt 64 b).toNat
def shrI (a b : Int) : Int := a.fdiv (2 ^ (min b.toNat 64))
@[simp] theorem bin_and {a b : Int} : binLV .num .and (N a) (N b) = some (N (andI a b)) := rfl
@[simp] theorem bin_xor {a b : Int} : binLV .num .xor (N a) (N b) = some (N (xorI a b)) := rfl
@[simp] theorem bin_shr {a b : Int} : binLV .num .shr (N a) (.sc (.int .u64 b)) = if b < 0 then none else some (N (shrI a b)) := by simp [binLV, shrI, IntKind.bits]
theorem bin_rem {a b : Int} : binLV .num .rem (N a) (N b) = if b = 0 then none else some (N (a.tmod b)) := by
  simp only [binLV, intBin]
  by_cases h : b = 0 <;> simp [h]
theorem bin_quo {a b : Int} : binLV .num .quo (N a) (N b) = if b = 0 then none else some (N (IntKind.i64.wrap (a.tdiv b))) := by
  simp only [binLV, intBin]
  by_cases h : b = 0 <;> simp [h]
theorem andI_255 (a : Int) : 0 ≤ andI a 255 ∧ andI a 255 ≤ 255 := by
  unfold andI
  have h : (BitVec.ofInt 64 a &&& BitVec.ofInt 64 255).toNat ≤ 255 := by
    rw [BitVec.toNat_and]
    exact Nat.le_trans Nat.and_le_right (by decide)
  rw [IntWalk.i64_in _ (by omega)]
  omega
theorem and_I64 (a b : Int) : I64 (andI a b) := wrap_i64 _
theorem alive_of_share : ∀ {ct : LV} {D : Dr}, share ct = D.lv → ct.alive = true
  | .sc _, D, h => rfl
  | .sl _ _ _ _, D, h => rfl
  | .ha _ _ _ _ _, D, h => rfl
  | .ptr _ _, D, h => rfl
  | .rp _, D, h => rfl
  | .fn _ _, D, h => rfl
  | .fnm _ _, D, h => rfl
  | .agg _, D, h => rfl
  | .tup _, D, h => rfl
  | .raw _, D, h => by simp [Dr.lv] at h
  | .dead, D, h => by simp [Dr.lv] at h
  | .both u t, D, h => by
    simp only [share] at h
    have := alive_of_share h
    simp only [LV.alive, this, Bool.true_and]
    split
    · simp [Dr.lv] at h
    · rfl
theorem idx_D {D : Dr} {i : Int} (h0 : 0 ≤ i) (h1 : i < D.bs.length) : idxLV 1 D.lv i = some (.rp [.sc (.int .u8 (D.bs.getD i.toNat 0))]) := by
  have := idx_at (fun b : Int => LV.sc (.int .u8 b)) (by simp) D.bs false D.nl i h0 h1
  rw [Dr.lv, this, List.getD_eq_getElem?_getD, List.getElem?_eq_getElem (show i.toNat < D.bs.length by omega)]
  rfl
theorem byte_D {D : Dr} (h : D.ok) {i : Int} (h0 : 0 ≤ i) (h1 : i < D.bs.length) : 0 ≤ D.bs.getD i.toNat 0 ∧ D.bs.getD i.toNat 0 ≤ 255 := by
  rw [List.getD_eq_getElem?_getD, List.getElem?_eq_getElem (show i.toNat < D.bs.length by omega)]
  exact h.byte _ (List.getElem_mem _)

section
variable (D : Dr) (ok : D.ok)
include ok
theorem l1Byte_ok : FCalls Try.prog D n_spec_l1Byte [] (fun r => ∃ b, r = N b ∧ 0 ≤ b ∧ b ≤ 255) := by
  refine FCalls.of_codeOf c_spec_l1Byte mixed (by simp) ⟨N 0, 0, rfl, by omega, by omega⟩ ?_
  intro h1 h3 ct i k hct hk
  have al := alive_of_share hct
  have hlen := ok.len
  simp (disch := omega) [-onBool_some, -onBool_leT, -onBool_leF, -onBool_ltT, -onBool_ltF, -onBool_eqT, -onBool_eqF, k_spec_l1Byte, al, hct]
  (with_reducible first | refine onBoolT (fun h5 => ?_) (fun h5 => ?_) | refine onBoolF (fun h5 => ?_) (fun h5 => ?_))
  · simp only [ltB_true, ltB_false, leB_true, leB_false, eqB_true, eqB_false, Bool.not_true, Bool.not_false] at h5
    have hb := byte_D ok hk.1 h5
    have hi := hk.1
    simp (disch := omega) [-onBool_some, -onBool_leT, -onBool_leF, -onBool_ltT, -onBool_ltF, -onBool_eqT, -onBool_eqF, al, hct, idx_D hk.1 h5, i64_wrap]
    (first | refine postC_tmp (.inr rfl) rfl ?_ (by simp) ?_ | refine postC_tmpE (.inr rfl) rfl ?_ (by simp) ?_)
    · exact ⟨by omega, by omega, (wrap_i64 _).1, (wrap_i64 _).2⟩
    · simp; exact andI_255 _
  · simp (disch := omega) [-onBool_some, -onBool_leT, -onBool_leF, -onBool_ltT, -onBool_ltF, -onBool_eqT, -onBool_eqF, al, hct]
    (first | refine postC_tmp (.inr rfl) rfl ?_ (by simp) ?_ | refine postC_tmpE (.inr rfl) rfl ?_ (by simp) ?_)
    · exact ⟨hk.1, hk.2.1, (wrap_i64 _).1, (wrap_i64 _).2⟩
    · simp; exact andI_255 _
theorem l1Below_ok (n : Int) (hn : I64 n) : FCalls Try.prog D n_spec_l1Below [N n] (fun r => ∃ m, r = N m ∧ 0 ≤ m ∧ (0 < n → m < n) ∧ (n ≤ 0 → m = 0)) := by
  refine FCalls.of_codeOf c_spec_l1Below mixed (by simp) ⟨N 0, 0, rfl, by omega, by omega, by omega⟩ ?_
  intro h1 h3 ct i k hct hk
  have hb := l1Byte_ok D ok
  simp (disch := omega) [-onBool_some, -onBool_leT, -onBool_leF, -onBool_ltT, -onBool_ltF, -onBool_eqT, -onBool_eqF, k_spec_l1Below]
  (with_reducible first | refine onBoolT (fun h5 => ?_) (fun h5 => ?_) | refine onBoolF (fun h5 => ?_) (fun h5 => ?_))
  · simp only [ltB_true, ltB_false, leB_true, leB_false, eqB_true, eqB_false, Bool.not_true, Bool.not_false] at h5
    simp (disch := omega) [-onBool_some, -onBool_leT, -onBool_leF, -onBool_ltT, -onBool_ltF, -onBool_eqT, -onBool_eqF]
    (first | refine postC_tmp (.inr rfl) rfl ?_ (by simp) ?_ | refine postC_tmpE (.inr rfl) rfl ?_ (by simp) ?_)
    · exact hk
    · simp <;> omega
  · simp only [ltB_true, ltB_false, leB_true, leB_false, eqB_true, eqB_false, Bool.not_true, Bool.not_false] at h5
    simp (disch := omega) [-onBool_some, -onBool_leT, -onBool_leF, -onBool_ltT, -onBool_ltF, -onBool_eqT, -onBool_eqF]
    have hz : ¬ n = 0 := by omega
    have rem : ∀ a : Int, 0 ≤ a → 0 ≤ a.tmod n ∧ a.tmod n < n := fun a ha => by
      rw [Int.tmod_eq_emod_of_nonneg ha]
      exact ⟨Int.emod_nonneg _ hz, Int.emod_lt_of_pos _ (by omega)⟩
    (with_reducible first | refine onBoolT (fun h6 => ?_) (fun h6 => ?_) | refine onBoolF (fun h6 => ?_) (fun h6 => ?_))
    · simp (disch := omega) [-onBool_some, -onBool_leT, -onBool_leF, -onBool_ltT, -onBool_ltF, -onBool_eqT, -onBool_eqF]
      refine onCall_cur hb hct hk ?_
      rintro r i1 k1 hk1 ⟨b, rfl, hb0, hb1⟩
      simp (disch := omega) [-onBool_some, -onBool_leT, -onBool_leF, -onBool_ltT, -onBool_ltF, -onBool_eqT, -onBool_eqF, bin_rem, hz]
      (first | refine postC_tmp (.inr rfl) rfl ?_ (by simp) ?_ | refine postC_tmpE (.inr rfl) rfl ?_ (by simp) ?_)
      · exact hk1
      · have := rem b hb0
        simp; omega
    · simp (disch := omega) [-onBool_some, -onBool_leT, -onBool_leF, -onBool_ltT, -onBool_ltF, -onBool_eqT, -onBool_eqF]
      refine onCall_cur hb hct hk ?_
      rintro r i1 k1 hk1 ⟨a, rfl, ha0, ha1⟩
      simp (disch := omega) [-onBool_some, -onBool_leT, -onBool_leF, -onBool_ltT, -onBool_ltF, -onBool_eqT, -onBool_eqF]
      refine onCall_cur hb hct hk1 ?_
      rintro r i2 k2 hk2 ⟨b, rfl, hb0, hb1⟩
      simp (disch := omega) [-onBool_some, -onBool_leT, -onBool_leF, -onBool_ltT, -onBool_ltF, -onBool_eqT, -onBool_eqF]
      refine onCall_cur hb hct hk2 ?_
      rintro r i3 k3 hk3 ⟨c, rfl, hc0, hc1⟩
      simp (disch := omega) [-onBool_some, -onBool_leT, -onBool_leF, -onBool_ltT, -onBool_ltF, -onBool_eqT, -onBool_eqF]
      refine onCall_cur hb hct hk3 ?_
      rintro r i4 k4 hk4 ⟨d, rfl, hd0, hd1⟩
      simp (disch := omega) [-onBool_some, -onBool_leT, -onBool_leF, -onBool_ltT, -onBool_ltF, -onBool_eqT, -onBool_eqF, bin_rem, hz, i64_wrap]
      (first | refine postC_tmp (.inr rfl) rfl ?_ (by simp) ?_ | refine postC_tmpE (.inr rfl) rfl ?_ (by simp) ?_)
      · exact hk4
      · have := rem (a * 16777216 + b * 65536 + c * 256 + d) (by omega)
        simp; omega
theorem l1Once_ok (n : Int) (hn : I64 n) : FCalls Try.prog D n_spec_l1Once [N n] (fun r => ∃ b, r = B b) := by
  refine FCalls.of_codeOf c_spec_l1Once mixed (by simp) ⟨B true, true, rfl⟩ ?_
  intro h1 h3 ct i k hct hk
  simp (disch := omega) [-onBool_some, -onBool_leT, -onBool_leF, -onBool_ltT, -onBool_ltF, -onBool_eqT, -onBool_eqF, k_spec_l1Once]
  refine onCall_cur (l1Below_ok D ok n hn) hct hk ?_
  rintro r i1 k1 hk1 ⟨m, rfl, _⟩
  simp (disch := omega) [-onBool_some, -onBool_leT, -onBool_leF, -onBool_ltT, -onBool_ltF, -onBool_eqT, -onBool_eqF]
  (first | refine postC_tmp (.inr rfl) rfl ?_ (by simp) ?_ | refine postC_tmpE (.inr rfl) rfl ?_ (by simp) ?_)
  · exact hk1
  · simp
theorem l1PickInt_ok (nl : Bool) (l : List Int) (h0 : l ≠ []) (hl : l.length ≤ 1099511627776) : FCalls Try.prog D n_spec_l1PickInt [L nl l] (fun r => ∃ m, r = N m ∧ m ∈ l) := by
  obtain ⟨x, hx⟩ := List.exists_mem_of_ne_nil l h0
  refine FCalls.of_codeOf c_spec_l1PickInt mixed (by simp) ⟨N x, x, rfl, hx⟩ ?_
  intro h1 h3 ct i k hct hk
  have hpos : 0 < l.length := List.length_pos_iff.2 h0
  simp (disch := omega) [-onBool_some, -onBool_leT, -onBool_leF, -onBool_ltT, -onBool_ltF, -onBool_eqT, -onBool_eqF, k_spec_l1PickInt]
  refine onCall_cur (l1Below_ok D ok l.length (by unfold I64; omega)) hct hk ?_
  rintro r i1 k1 hk1 ⟨m, rfl, hm0, hm1, _⟩
  have hm := hm1 (by omega)
  simp (disch := omega) [-onBool_some, -onBool_leT, -onBool_leF, -onBool_ltT, -onBool_ltF, -onBool_eqT, -onBool_eqF, idx_L l false nl m hm0 hm]
  (first | refine postC_tmp (.inr rfl) rfl ?_ (by simp) ?_ | refine postC_tmpE (.inr rfl) rfl ?_ (by simp) ?_)
  · exact hk1
  · simp
end
end Go.Proofs.Yticcekapikfhaaa
