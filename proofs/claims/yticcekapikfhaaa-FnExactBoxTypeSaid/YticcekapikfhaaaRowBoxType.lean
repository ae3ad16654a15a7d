/- The row of the law FnExactBoxType: the program returns true for every list of integers that can be read; its list is left as it was. No further condition. -/
import Derived.Test.YticcekapikfhaaaRows
import Derived.Test.YticcekapikfhaaaFe
import Derived.WalkKit
import Derived.ProofKit
import Derived.OpenShut
import Derived.ShutString
import Derived.ChangeOld
import Derived.Below
import Derived.SizedLaws
namespace Go.Proofs.Yticcekapikfhaaa
open Go Go.TL
open Go.Proofs.Yticcekapikfhaaa.Ty
theorem lawBoxType (nl : Bool) (l : List Int) (hw : ∀ n ∈ l, I64 n) : Gives Try.prog n_laws_FnExactBoxType [L nl l] (· = B true) := by
  by_cases hl : l.length ≤ 1048576
  · by_cases ht : wty l = true
    · obtain ⟨t, hok, rfl, h40⟩ := wty_tree ht
      have hs := specBoxType_yes t hok h40 hw
      have hi := BoxType_yes t hok h40 hw
      by_cases hb : t.boxed.length ≤ 40
      · rw [if_pos hb] at hs hi
        exact exactBoxType nl t.flat t.boxed false hl (by omega) (hs.mono fun r h => by subst h; simp) (hi.mono fun r h => ⟨true, false, h, .inr ⟨rfl, rfl⟩⟩)
      · rw [if_neg hb] at hs hi
        exact exactBoxType nl t.flat [] true hl (by simp) (hs.mono fun r h => by subst h; simp) (hi.mono fun r h => ⟨false, true, h, .inl rfl⟩)
    · have ht' : wty l = false := by simpa using ht
      have hs := specBoxType_no false l hl hw ht'
      have hi := BoxType_no false l hl hw ht'
      exact exactBoxType nl l [] true hl (by simp) (hs.mono fun r h => by subst h; simp) (hi.mono fun r h => ⟨false, true, h, .inl rfl⟩)
  · refine Gives.of_codeOf c_laws_FnExactBoxType mixed (by simp) ⟨_, rfl, by simp⟩ ?_
    simp (contextual := true) (disch := omega) [k_laws_FnExactBoxType]
    exact fun _ h => by omega
end Go.Proofs.Yticcekapikfhaaa
namespace Go.Proofs.Yticcekapikfhaaa.fnExactBoxType
open Go.ChangeShapes Go.WideShapes Go.ChangeAt Go.RowKit
open Go.ChangeMaps (open_string shut_string)
open Go.TL (Gives.row GM.all)
set_option linter.unusedVariables false
theorem own : ownKnob Try.prog.godebug = none := by kernel_rfl
theorem laidOut : laidOutB Try.prog = true := by kernel_rfl
def IsRow (k : IntKind) (w : World) (a : Option Addr) (len cap : Nat) (zs : List Int) : Prop :=
  (a = none ∧ len = 0 ∧ cap = 0 ∧ zs = []) ∨
  ∃ x, a = some x ∧ x.spot = none ∧ len ≤ cap ∧ cap ≤ maxLen ∧ zs.length = cap ∧ (∀ i, i < zs.length → w.cell? (x.add i) = some (.int k (zs.getD i 0))) ∧ ∀ n ∈ zs, (Lit.int k n).wf = true
theorem rep_of {w : World} {a : Option Addr} {len cap : Nat} {zs : List Int} (h : IsRow .i64 w a len cap zs) : TL.Rep (GM.all w) [] (L a.isNone (zs.take len)) (.slice a len cap) [] := by
  rcases h with ⟨rfl, rfl, rfl, rfl⟩ | ⟨⟨b, off, spot⟩, rfl, hs, h1, _, h3, h4, _⟩
  · simp [TL.Rep]
  · simp only at hs
    subst hs
    simp only [TL.Rep]
    refine .inr ⟨rfl, b, off, cap, [], by simp; omega, by simp; omega, ?_, .inr ⟨.inl trivial, rfl⟩⟩
    have key : ∀ (ys : List Int) (k : Nat), (∀ i, i < ys.length → w.cell? ((⟨b, off, none⟩ : Addr).add (k + i)) = some (.int .i64 (ys.getD i 0))) → TL.RepRow (GM.all w) [] (ys.map fun n => [TL.N n]) 1 b (off + k) [] := by
      intro ys
      induction ys with
      | nil => intro k _; simp [TL.RepRow]
      | cons y ys ih =>
        intro k hk
        simp only [List.map_cons, TL.RepRow]
        refine ⟨[], [], rfl, rfl, ?_, ?_⟩
        · simp only [TL.RepCells]
          have h0 := hk 0 (by simp)
          have ea : (⟨b, off, none⟩ : Addr).add (k + 0) = ⟨b, off + k, none⟩ := by
            unfold Addr.add; split <;> simp_all
          rw [ea] at h0
          exact ⟨_, [], [], rfl, h0, rfl, by simp [TL.Rep], rfl⟩
        · rw [show off + k + 1 = off + (k + 1) by omega]
          refine ih (k + 1) fun i hi => ?_
          have := hk (i + 1) (by simpa using hi)
          rw [show k + (i + 1) = k + 1 + i by omega] at this
          simpa using this
    have := key (zs.take len) 0 fun i hi => by
      have hi' : i < len ∧ i < zs.length := by simp at hi; omega
      rw [Nat.zero_add, h4 i hi'.2]
      simp [List.getD_eq_getElem?_getD, List.getElem?_take, hi'.1]
    simpa using this
set_option maxRecDepth 100000 in
theorem lifted (os : Os) (started : os.Started) (H : Type) (enc : TypeId × Value → H) :
    ReturnsInHanded {} Try.checked os 4 .any (Rows.fnExactBoxTypeSpec.pre6 enc Try.prog Try.f4 Rows.fnExactBoxTypeRow.domain false) (Rows.fnExactBoxTypeSpec.post enc Try.prog Try.f4 false true false false) := by
  refine returnsInHanded_of_change_sized (C := Try.checked) own started (by kernel_rfl) Try.func4
    (ChangeSpec.witness6 (enc := enc) (C := Try.checked) false ⟨#[], #[.slice none 0 0], []⟩ 8 (by kernel_rfl) (by kernel_rfl) (by kernel_rfl) (by kernel_rfl)) ?_
  intro W base args ds gs before hval0 hW hcnd hsz0 _
  have hval : ∀ (j : Nat) t v, Try.f4.params[j]? = some t → args[j]? = some v → Value.okWide Try.prog W .any base t v := hval0
  have hW' := hW
  obtain ⟨p, q, hA0, hV, rfl, hfz, hnd⟩ := hW
  have hA : DataW.TrodAll enc Try.prog W 0 (fun _ => true) true Try.f4.params.toList args.toList ds p := hA0
  rw [Try.params4] at hA hval
  obtain ⟨v0, vs0, d0, ds0, p0, q0, hargs, rfl, rfl, h0, r0⟩ := trodAll_cons hA
  obtain ⟨rfl, rfl, rfl⟩ := trodAll_nil r0
  obtain rfl : args = #[v0] := by cases args; simp_all
  obtain ⟨rfl, rfl⟩ := trodVars_none hV
  have ok0 := hval 0 22 v0 rfl rfl
  obtain ⟨a0, len0, cap0, rfl⟩ := okWide_slice Try.underlying22 ok0
  have k0 := h0
  have lt0 : ∀ x ∈ p0, x.block < W.heap.size := by obtain ⟨m, hm⟩ := k0; exact DataW.trod_lt m _ _ _ hm
  have sp0 : ∀ x, a0 = some x → x.spot = none := by
    rintro x rfl
    simp only [Value.okWide, Try.underlying22, Cell.okWide, Cell.ok, World.has] at ok0
    exact ok0.2.2.2.1
  obtain ⟨z0, w0⟩ : ∃ zs, IsRow .i64 W a0 len0 cap0 zs := by
    obtain ⟨fuel, hf⟩ := h0
    rcases open_ints Try.underlying22 Try.underlying3 (by kernel_rfl) hf with ⟨hcs, _⟩ | ⟨x, l, c, zs, hcs, _, hl, hm, hz, _, hcell, hwz⟩
    · simp [Value.cells] at hcs
      obtain ⟨rfl, rfl, rfl⟩ := hcs
      exact ⟨[], .inl ⟨rfl, rfl, rfl, rfl⟩⟩
    · simp [Value.cells] at hcs
      obtain ⟨rfl, rfl, rfl⟩ := hcs
      exact ⟨zs, .inr ⟨_, rfl, sp0 _ rfl, hl, hm, by simpa using hz, hcell, hwz⟩⟩
  clear hA0 hval0 hsz0
  have hwf : ∀ n ∈ z0.take len0, I64 n := by
    intro n hn
    rcases w0 with ⟨_, _, _, rfl⟩ | ⟨_, _, _, _, _, _, _, hwz⟩
    · simp at hn
    · have := hwz n (List.mem_of_mem_take hn)
      simp [Lit.wf, IntKind.min, IntKind.max, IntKind.signed, IntKind.bits] at this
      unfold I64; omega
  have hg := Gives.row (lawBoxType a0.isNone (z0.take len0) hwf) W [.slice a0 len0 cap0] (by simp only [TL.RepVals]; exact ⟨_, _, [], [], rfl, rfl, rep_of w0, rfl, rfl⟩)
  refine hg.mono fun e W' ⟨he, hst, hsz, hblk⟩ => ?_
  have bel : Below W.heap.size W W' := ⟨hst.1, hst.2.1, hst.2.2, hsz, hblk⟩
  subst he
  exact ⟨_, rfl, _, _, _, [], _, [], hW', trodAll_mk1 (shut_bool Try.underlying4 _), (trodAll_cons_mk (Below.trod laidOut (by kernel_rfl) (of_decide_eq_true (by kernel_rfl)) k0 bel lt0) trodAll_mk0), rfl, bel.frame _, fun h => by cases h⟩
theorem over : Rows.fnExactBoxTypeRow.holds Try.pinned (OpenSpec.ofChange Rows.fnExactBoxTypeSpec) :=
  OpenClaim.holds_of_wide 4 Try.f4 rfl rfl rfl rfl rfl rfl rfl ⟨rfl, rfl, rfl, rfl, rfl⟩ rfl rfl rfl rfl rfl (by kernel_rfl) Try.func4 (by kernel_rfl)
    (of_decide_eq_true (by kernel_rfl)) (by unfold Func.isWrapper; first | (rw [if_pos (by decide +kernel)]; kernel_rfl) | (rw [if_neg (by decide +kernel)]; exact ⟨rfl, rfl⟩))
    (fun os started H enc _ => lifted os started H enc)
theorem proved : Rows.FnExactBoxTypeSaid := over
end Go.Proofs.Yticcekapikfhaaa.fnExactBoxType
namespace Go.Proofs.Yticcekapikfhaaa
/-- The row, under a short name, for the claim. -/
theorem fnExactBoxType_holds : Rows.FnExactBoxTypeSaid := fnExactBoxType.proved
#print axioms fnExactBoxType_holds
end Go.Proofs.Yticcekapikfhaaa
