/- Calls that leave the variables alone: contracts over trees alone. No program, no conditions. -/
import Derived.Test.YticcekapikfhaaaTLH
namespace Go.TL

section
variable {P : Program}

/-- a pure function's contract, out of its code -/
theorem Gives.of_code {f : FuncId} {fn : Func} {c : Code} {k : C} {md : Nat → List Md} {rvs : List RV} {args : List LV} {R : LV → Prop} (hm : P.follows .mixedOrders = true)
    (hcal : callable P f = true) (hf : P.funcs[f]? = some fn) (hb : fn.body = some c) (hc : cC P fn.ntmps md c = some k) (hrv : rvOf P fn.ntmps fn.results.toList = some rvs) (hlen : args.length ≤ fn.ntmps)
    (hex : ∃ r, R r ∧ Low 0 r)
    (hw : wpC P k (fun e s => (e = .normal ∨ e = .ret) ∧ ∃ vs s', rvVals s rvs = some (vs, s') ∧ Low 0 (pack vs) ∧ R (pack vs)) { t := env args, h := [] }) : Gives P f args R := by
  refine LCalls.of_code hm hcal hf hb hc hrv hlen (by obtain ⟨r, hr⟩ := hex; exact ⟨r, [], hr⟩) (wpC_mono k hw fun e s hs => ?_)
  obtain ⟨he, vs, s', h1, h2, h3⟩ := hs
  exact ⟨he, vs, s', 0, h1, Nat.zero_le _, Nat.zero_le _, .inr ⟨h2, fun l xs hl => by omega⟩, h3, h2⟩
where
  wpL_mono : ∀ (gs : List GI) {Q Q' : St → Prop} {s : St}, wpL P gs Q s → (∀ s, Q s → Q' s) → wpL P gs Q' s
    | [], _, _, s, h, hq => hq s h
    | g :: gs, _, _, s, h, hq => wpG_mono h fun s' hs' => wpL_mono gs hs' hq
  wpC_mono : ∀ (k : C) {Q Q' : Exit → St → Prop} {s : St}, wpC P k Q s → (∀ e s, Q e s → Q' e s) → wpC P k Q' s
    | .skip, _, _, s, h, hq => hq _ s h
    | .reg gs, _, _, s, h, hq => wpL_mono gs h (hq _)
    | .par its, _, _, s, h, hq => wpIts_mono its h (hq _)
    | .frz k, _, _, s, h, hq => by
      obtain ⟨s', h1, h2⟩ := h
      exact ⟨s', h1, hq _ s' h2⟩
    | .seq a b, _, _, s, h, hq => wpC_mono a h fun e s hs => by
      cases e <;> first | exact wpC_mono b hs hq | exact hq _ _ hs
    | .cond x a b, _, _, s, h, hq => by
      obtain ⟨v, h1, h2, h3⟩ := h
      exact ⟨v, h1, fun e => wpC_mono a (h2 e) hq, fun e => wpC_mono b (h3 e) hq⟩
    | .block id b, _, _, s, h, hq => wpC_mono b h fun e s hs => by
      cases e <;> first | exact hq _ _ hs | skip
      simp only [inBlockL] at hs ⊢
      split
      · rename_i hid; rw [if_pos hid] at hs; exact hq _ _ hs
      · rename_i hid; rw [if_neg hid] at hs; exact hq _ _ hs
    | .loop b, _, _, s, h, hq => by
      obtain ⟨I, k, h1, h2⟩ := h
      exact ⟨I, k, h1, fun k s hk => wpC_mono b (h2 k s hk) fun e s hs => by
        cases e <;> first | exact hs | exact hq _ _ hs⟩
    | .exit id, _, _, s, h, hq => hq _ s h
    | .ret, _, _, s, h, hq => hq _ s h
end

end Go.TL
