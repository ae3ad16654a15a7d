/- How the code over trees is gone through: rules for rewriting. No program, no conditions. -/
import Derived.Test.YticcekapikfhaaaTLI
import Derived.IntWalk
namespace Go.TL

def mdOf (l : List (Nat × List Md)) (id : Nat) : List Md := match l with
  | [] => []
  | (i, ms) :: l => if i = id then ms else mdOf l id

/-- the code of a function, where its results lie, and how many slots it has -/
def codeOf (P : Program) (f : FuncId) (m : List (Nat × List Md)) : Option (C × List RV × Nat) :=
  if callable P f = true then match P.funcs[f]? with
    | some fn => match fn.body with
      | some c => match cC P fn.ntmps (mdOf m) c, rvOf P fn.ntmps fn.results.toList with
        | some k, some rv => some (k, rv, fn.ntmps)
        | _, _ => none
      | none => none
    | none => none
  else none

instance : Inhabited St := ⟨⟨fun _ => .dead, []⟩⟩
abbrev N (n : Int) : LV := .sc (.int .i64 n)
abbrev B (b : Bool) : LV := .sc (.bool b)

theorem Gives.of_codeOf {P : Program} {f : FuncId} {m : List (Nat × List Md)} {k : C} {rvs : List RV} {n : Nat} {args : List LV} {R : LV → Prop} (hc : codeOf P f m = some (k, rvs, n)) (hm : P.follows .mixedOrders = true)
    (hlen : args.length ≤ n) (hex : ∃ r, R r ∧ Low 0 r)
    (hw : wpC P k (fun e s => (e = .normal ∨ e = .ret) ∧ ∃ vs s', rvVals s rvs = some (vs, s') ∧ Low 0 (pack vs) ∧ R (pack vs)) { t := env args, h := [] }) : Gives P f args R := by
  unfold codeOf at hc
  split at hc
  · rename_i hcal
    split at hc
    · rename_i fn hf
      split at hc
      · rename_i c hb
        split at hc
        · rename_i k' rv' h1 h2
          simp only [Option.some.injEq, Prod.mk.injEq] at hc
          obtain ⟨rfl, rfl, rfl⟩ := hc
          exact Gives.of_code hm hcal hf hb h1 h2 hlen hex hw
        · simp at hc
      · simp at hc
    · simp at hc
  · simp at hc

theorem LCalls.of_codeOf {P : Program} {f : FuncId} {m : List (Nat × List Md)} {k : C} {rvs : List RV} {n : Nat} {args : List LV} {h : List Box} {R : LV → List Box → Prop} (hc : codeOf P f m = some (k, rvs, n)) (hm : P.follows .mixedOrders = true)
    (hlen : args.length ≤ n) (hex : ∃ r h', R r h') (hw : wpC P k (Post rvs h.length R) { t := env args, h := h }) : LCalls P f args h R := by
  unfold codeOf at hc
  split at hc
  · rename_i hcal
    split at hc
    · rename_i fn hf
      split at hc
      · rename_i c hb
        split at hc
        · rename_i k' rv' h1 h2
          simp only [Option.some.injEq, Prod.mk.injEq] at hc
          obtain ⟨rfl, rfl, rfl⟩ := hc
          exact LCalls.of_code hm hcal hf hb h1 h2 hlen hex hw
        · simp at hc
      · simp at hc
    · simp at hc
  · simp at hc

def onSt (o : Option St) (K : St → Prop) : Prop := ∃ s, o = some s ∧ K s
/-- what holds in a branch: left as it is until the branch is taken -/
class Bx where
  out : Prop
def onBool (o : Option Bool) (w : Bool) [p : Bx] [q : Bx] : Prop := ∃ b, o = some b ∧ (b = w → p.out) ∧ (¬ b = w → q.out)
def onFn (P : Program) (rw : Rw) (v : LV) (vals : List LV) (d : Option Nat) (K : St → Prop) (s : St) : Prop :=
  ∃ fid ws, fnArgs v vals = some (fid, ws) ∧ callWp P rw fid ws s.h (fun r h' => K (putcall s d r h'))
def onCall (P : Program) (rw : Rw) (f : FuncId) (vals : List LV) (d : Option Nat) (K : St → Prop) (s : St) : Prop :=
  callWp P rw f vals s.h (fun r h' => K (putcall s d r h'))
@[congr] theorem onFn_congr {P : Program} {rw : Rw} {v v' : LV} {vals vals' : List LV} {d : Option Nat} {K : St → Prop} {s : St} (h : v = v') (h2 : vals = vals') : onFn P rw v vals d K s = onFn P rw v' vals' d K s := by rw [h, h2]
@[congr] theorem onCall_congr {P : Program} {rw : Rw} {f : FuncId} {vals vals' : List LV} {d : Option Nat} {K : St → Prop} {s : St} (h2 : vals = vals') : onCall P rw f vals d K s = onCall P rw f vals' d K s := by rw [h2]
@[congr] theorem onSt_congr {o o' : Option St} {K : St → Prop} (h : o = o') : onSt o K = onSt o' K := by rw [h]
@[congr] theorem onBool_congr {o o' : Option Bool} {w : Bool} {p q : Bx} (h : o = o') : @onBool o w p q = @onBool o' w p q := by rw [h]
@[simp] theorem onSt_some {s : St} {K : St → Prop} : onSt (some s) K = K s := by simp [onSt]
@[simp] theorem onSt_none {K : St → Prop} : onSt none K = False := by simp [onSt]
@[simp] theorem onSt_ite {c : Prop} [Decidable c] {o : Option St} {K : St → Prop} : onSt (if c then o else none) K = (c ∧ onSt o K) := by
  by_cases h : c <;> simp [h, onSt]
@[simp low] theorem onBool_some {b w : Bool} {p q : Prop} : @onBool (some b) w ⟨p⟩ ⟨q⟩ = ((b = w → p) ∧ (¬ b = w → q)) := by simp [onBool]

section
variable {P : Program} {K : St → Prop} {Q : Exit → St → Prop} {s : St}
@[simp ↓] theorem wpL_nil : wpL P [] K s = K s := rfl
@[simp ↓] theorem wpL_cons {g : GI} {gs : List GI} : wpL P (g :: gs) K s = wpG P g (wpL P gs K) s := rfl
@[simp ↓] theorem wpG_plain {i : I} (h : i.isCall = false) : wpG P (none, i) K s = onSt (step i s) K := by
  rw [eq_iff_iff, wpG_det h]; rfl
@[simp ↓] theorem wpG_guard {i : I} {j : Nat} {w : Bool} (h : i.isCall = false) : wpG P (some (j, w), i) K s = @onBool (gd w (s.t j)) w ⟨onSt (step i s) K⟩ ⟨K (skip i s)⟩ := by
  rw [eq_iff_iff, wpG_det h]
  unfold gstep onBool onSt
  constructor
  · rintro ⟨s', h1, h2⟩
    simp only at h1
    split at h1
    · rename_i b hb
      refine ⟨b, hb, fun hw => ?_, fun hw => ?_⟩
      · rw [if_pos hw] at h1; exact ⟨s', h1, h2⟩
      · rw [if_neg hw] at h1; simp only [Option.some.injEq] at h1; subst h1; exact h2
    · simp at h1
  · rintro ⟨b, hb, h1, h2⟩
    simp only [hb]
    by_cases hw : b = w
    · obtain ⟨s', h3, h4⟩ := h1 hw
      exact ⟨s', by rw [if_pos hw]; exact h3, h4⟩
    · exact ⟨_, by rw [if_neg hw], h2 hw⟩
@[simp ↓] theorem wpG_callG {rw : Rw} {d : Option Nat} {f : X} {args : List X} {j : Nat} {w : Bool} : wpG P (some (j, w), .call rw d f args) K s = @onBool (gd w (s.t j)) w ⟨wpG P (none, .call rw d f args) K s⟩ ⟨K (skip (.call rw d f args) s)⟩ := rfl

@[simp ↓] theorem wpG_callP {rw : Rw} {d : Option Nat} {f : X} {args : List X} : wpG P (none, .call rw d f args) K s = onFn P rw (get s.t f) (args.map fun x => share (get s.t x)) d K s := rfl
@[simp] theorem onFn_fn {rw : Rw} {d : Option Nat} {f : FuncId} {caps vals : List LV} : onFn P rw (.fn f caps) vals d K s = onCall P rw f (vals ++ shareAll caps) d K s := by
  simp only [onFn, fnArgs, eq_iff_iff]
  constructor
  · rintro ⟨fid, ws, h, h2⟩
    simp only [Option.some.injEq, Prod.mk.injEq] at h
    obtain ⟨rfl, rfl⟩ := h
    exact h2
  · intro h; exact ⟨f, _, rfl, h⟩
@[simp] theorem onFn_fnm {rw : Rw} {d : Option Nat} {f : FuncId} {first vals : List LV} : onFn P rw (.fnm f first) vals d K s = onCall P rw f (shareAll first ++ vals) d K s := by
  simp only [onFn, fnArgs, eq_iff_iff]
  constructor
  · rintro ⟨fid, ws, h, h2⟩
    simp only [Option.some.injEq, Prod.mk.injEq] at h
    obtain ⟨rfl, rfl⟩ := h
    exact h2
  · intro h; exact ⟨f, _, rfl, h⟩
/-- a call of a function that leaves the variables alone -/
theorem onCall_gives {rw : Rw} {d : Nat} {f : FuncId} {vals : List LV} {R : LV → Prop} (c : Gives P f vals R) (hl : LowAll 0 vals) (hk : ∀ r, R r → K { t := upd s.t d r, h := s.h }) (hrw : rw ≠ .fr := by simp) : onCall P rw f vals (some d) K s := by
  unfold onCall
  cases rw with
  | any => rw [callWp_t]; exact (c.lift hl s.h).mono fun r h' hr => by rw [hr.1]; exact hk r hr.2
  | no => rw [callWp_f]; exact ⟨hl, R, c, fun r hr => hk r hr⟩
  | fr => exact absurd rfl hrw
theorem onCall_eq {rw : Rw} {d : Nat} {f : FuncId} {vals : List LV} {r : LV} (c : Gives P f vals (· = r)) (hl : LowAll 0 vals) (hk : K { t := upd s.t d r, h := s.h }) (hrw : rw ≠ .fr := by simp) : onCall P rw f vals (some d) K s :=
  onCall_gives c hl (fun _ e => e ▸ hk) hrw
/-- a call that turns one variable alone -/
theorem onCall_fr {d : Nat} {f : FuncId} {vals : List LV} {l o : Nat} {xs : List LV} {Q : LV → List LV → Prop} (c : ∀ h2 : List Box, h2[l]? = some (some xs) → LCalls P f vals h2 fun r h' => ∃ xs', Q r xs' ∧ h' = h2.set l (some xs'))
    (h0 : .ptr l o ∈ vals) (h1 : s.h[l]? = some (some xs)) (hk : ∀ r xs', Q r xs' → K { t := upd s.t d r, h := s.h.set l (some xs') }) : onCall P .fr f vals (some d) K s := by
  unfold onCall
  rw [callWp_r]
  exact ⟨l, o, xs, Q, h0, h1, c, hk⟩

theorem wpC_loopI {b : C} (I : Nat → St → Prop) (k : Nat) (h0 : I k s) (hr : ∀ k s, I k s → wpC P b (thenL (fun s' => ∃ k', k' < k ∧ I k' s') Q) s) : wpC P (.loop b) Q s := ⟨I, k, h0, hr⟩
@[simp ↓] theorem wpC_skip : wpC P .skip Q s = Q .normal s := rfl
@[simp ↓] theorem wpC_reg {gs : List GI} : wpC P (.reg gs) Q s = wpL P gs (Q .normal) s := rfl
@[simp ↓] theorem wpC_par {its : List (It GI)} : wpC P (.par its) Q s = wpIts P its (Q .normal) s := rfl
@[simp ↓] theorem wpIts_nil : wpIts P [] K s = K s := rfl
@[simp ↓] theorem wpIts_one {g : GI} {its : List (It GI)} : wpIts P (.one g :: its) K s = wpG P g (wpIts P its K) s := rfl
@[simp ↓] theorem wpIts_two {g g' : GI} {its : List (It GI)} : wpIts P (.two g g' :: its) K s = (wpG P g (wpG P g' (wpIts P its K)) s ∧ wpG P g' (wpG P g (wpIts P its K)) s) := rfl
def frzSt (k : Nat) (v : LV) (s : St) : Option St := match v with
  | .rp _ => some s
  | .sl _ _ _ _ => some s
  | _ => step (.mv k .frz (.t k)) s
@[simp] theorem frzSt_sl {k sz : Nat} {u nl : Bool} {xs : List (List LV)} : frzSt k (.sl u nl sz xs) s = some s := rfl
@[simp] theorem frzSt_rp {k : Nat} {xs : List LV} : frzSt k (.rp xs) s = some s := rfl
@[simp] theorem frzSt_ptr {k l o : Nat} : frzSt k (.ptr l o) s = step (.mv k .frz (.t k)) s := rfl
@[simp] theorem frzSt_ha {k l sz off n cap : Nat} : frzSt k (.ha l sz off n cap) s = step (.mv k .frz (.t k)) s := rfl
@[simp ↓] theorem wpC_frz {k : Nat} : wpC P (.frz k) Q s = onSt (frzSt k (s.t k) s) (Q .normal) := rfl
@[simp ↓] theorem wpC_seq {a b : C} : wpC P (.seq a b) Q s = wpC P a (thenL (wpC P b Q) Q) s := rfl
@[simp ↓] theorem wpC_block {a : C} {i : Nat} : wpC P (.block i a) Q s = wpC P a (inBlockL i Q) s := rfl
@[simp ↓] theorem wpC_exit {i : Nat} : wpC P (.exit i) Q s = Q (.exit i) s := rfl
@[simp ↓] theorem wpC_ret : wpC P .ret Q s = Q .ret s := rfl
@[simp ↓] theorem wpC_cond {x : X} {a b : C} : wpC P (.cond x a b) Q s = @onBool (boolOf (get s.t x)) true ⟨wpC P a Q s⟩ ⟨wpC P b Q s⟩ := by
  simp only [wpC, onBool, eq_iff_iff]
  constructor
  · rintro ⟨v, h1, h2, h3⟩; exact ⟨v, h1, h2, fun h => h3 (by simpa using h)⟩
  · rintro ⟨v, h1, h2, h3⟩; exact ⟨v, h1, h2, fun h => h3 (by simp [h])⟩
@[simp ↓] theorem wpG_mv {d : Nat} {m : Md} {x : X} : wpG P (none, .mv d m x) K s = onSt (step (.mv d m x) s) K := rfl
@[simp ↓] theorem wpGg_mv {j : Nat} {w : Bool} {d : Nat} {m : Md} {x : X} : wpG P (some (j, w), .mv d m x) K s = @onBool (gd w (s.t j)) w ⟨onSt (step (.mv d m x) s) K⟩ ⟨K (skip (.mv d m x) s)⟩ := wpG_guard rfl
@[simp] theorem skip_mv {d : Nat} {m : Md} {x : X} : skip (.mv d m x) s = s.put d (.sc undef) := rfl
@[simp ↓] theorem wpG_box {d : Nat} {x : X} : wpG P (none, .box d x) K s = onSt (step (.box d x) s) K := rfl
@[simp ↓] theorem wpGg_box {j : Nat} {w : Bool} {d : Nat} {x : X} : wpG P (some (j, w), .box d x) K s = @onBool (gd w (s.t j)) w ⟨onSt (step (.box d x) s) K⟩ ⟨K (skip (.box d x) s)⟩ := wpG_guard rfl
@[simp] theorem skip_box {d : Nat} {x : X} : skip (.box d x) s = s.put d (.sc undef) := rfl
@[simp ↓] theorem wpG_alloc {d : Nat} {z : List LV} : wpG P (none, .alloc d z) K s = onSt (step (.alloc d z) s) K := rfl
@[simp ↓] theorem wpGg_alloc {j : Nat} {w : Bool} {d : Nat} {z : List LV} : wpG P (some (j, w), .alloc d z) K s = @onBool (gd w (s.t j)) w ⟨onSt (step (.alloc d z) s) K⟩ ⟨K (skip (.alloc d z) s)⟩ := wpG_guard rfl
@[simp] theorem skip_alloc {d : Nat} {z : List LV} : skip (.alloc d z) s = s.put d (.sc undef) := rfl
@[simp ↓] theorem wpG_load {d : Nat} {m : Md} {ag : Bool} {sz : Nat} {x : X} : wpG P (none, .load d m ag sz x) K s = onSt (step (.load d m ag sz x) s) K := rfl
@[simp ↓] theorem wpGg_load {j : Nat} {w : Bool} {d : Nat} {m : Md} {ag : Bool} {sz : Nat} {x : X} : wpG P (some (j, w), .load d m ag sz x) K s = @onBool (gd w (s.t j)) w ⟨onSt (step (.load d m ag sz x) s) K⟩ ⟨K (skip (.load d m ag sz x) s)⟩ := wpG_guard rfl
@[simp] theorem skip_load {d : Nat} {m : Md} {ag : Bool} {sz : Nat} {x : X} : skip (.load d m ag sz x) s = s.put d (.sc undef) := rfl
@[simp ↓] theorem wpG_store {sz : Nat} {x : X} {y : X} : wpG P (none, .store sz x y) K s = onSt (step (.store sz x y) s) K := rfl
@[simp ↓] theorem wpGg_store {j : Nat} {w : Bool} {sz : Nat} {x : X} {y : X} : wpG P (some (j, w), .store sz x y) K s = @onBool (gd w (s.t j)) w ⟨onSt (step (.store sz x y) s) K⟩ ⟨K (skip (.store sz x y) s)⟩ := wpG_guard rfl
@[simp] theorem skip_store {sz : Nat} {x : X} {y : X} : skip (.store sz x y) s = s := rfl
@[simp ↓] theorem wpG_bin {d : Nat} {c : Cm} {op : BinOp} {x : X} {y : X} : wpG P (none, .bin d c op x y) K s = onSt (step (.bin d c op x y) s) K := rfl
@[simp ↓] theorem wpGg_bin {j : Nat} {w : Bool} {d : Nat} {c : Cm} {op : BinOp} {x : X} {y : X} : wpG P (some (j, w), .bin d c op x y) K s = @onBool (gd w (s.t j)) w ⟨onSt (step (.bin d c op x y) s) K⟩ ⟨K (skip (.bin d c op x y) s)⟩ := wpG_guard rfl
@[simp] theorem skip_bin {d : Nat} {c : Cm} {op : BinOp} {x : X} {y : X} : skip (.bin d c op x y) s = s.put d (.sc undef) := rfl
@[simp ↓] theorem wpG_un {d : Nat} {op : UnOp} {x : X} : wpG P (none, .un d op x) K s = onSt (step (.un d op x) s) K := rfl
@[simp ↓] theorem wpGg_un {j : Nat} {w : Bool} {d : Nat} {op : UnOp} {x : X} : wpG P (some (j, w), .un d op x) K s = @onBool (gd w (s.t j)) w ⟨onSt (step (.un d op x) s) K⟩ ⟨K (skip (.un d op x) s)⟩ := wpG_guard rfl
@[simp] theorem skip_un {d : Nat} {op : UnOp} {x : X} : skip (.un d op x) s = s.put d (.sc undef) := rfl
@[simp ↓] theorem wpG_build {d : Nat} {z : List LV} {ps : List (Nat × Nat × X)} : wpG P (none, .build d z ps) K s = onSt (step (.build d z ps) s) K := rfl
@[simp ↓] theorem wpGg_build {j : Nat} {w : Bool} {d : Nat} {z : List LV} {ps : List (Nat × Nat × X)} : wpG P (some (j, w), .build d z ps) K s = @onBool (gd w (s.t j)) w ⟨onSt (step (.build d z ps) s) K⟩ ⟨K (skip (.build d z ps) s)⟩ := wpG_guard rfl
@[simp] theorem skip_build {d : Nat} {z : List LV} {ps : List (Nat × Nat × X)} : skip (.build d z ps) s = s.put d (.sc undef) := rfl
@[simp ↓] theorem wpG_bslice {d : Nat} {sz : Nat} {len : Nat} {z : List LV} {ps : List (Nat × Nat × X)} : wpG P (none, .bslice d sz len z ps) K s = onSt (step (.bslice d sz len z ps) s) K := rfl
@[simp ↓] theorem wpGg_bslice {j : Nat} {w : Bool} {d : Nat} {sz : Nat} {len : Nat} {z : List LV} {ps : List (Nat × Nat × X)} : wpG P (some (j, w), .bslice d sz len z ps) K s = @onBool (gd w (s.t j)) w ⟨onSt (step (.bslice d sz len z ps) s) K⟩ ⟨K (skip (.bslice d sz len z ps) s)⟩ := wpG_guard rfl
@[simp] theorem skip_bslice {d : Nat} {sz : Nat} {len : Nat} {z : List LV} {ps : List (Nat × Nat × X)} : skip (.bslice d sz len z ps) s = s.put d (.sc undef) := rfl
@[simp ↓] theorem wpG_slice {d : Nat} {sz : Nat} {x : X} {lo : Option X} {hi : Option X} {mx : Option X} : wpG P (none, .slice d sz x lo hi mx) K s = onSt (step (.slice d sz x lo hi mx) s) K := rfl
@[simp ↓] theorem wpGg_slice {j : Nat} {w : Bool} {d : Nat} {sz : Nat} {x : X} {lo : Option X} {hi : Option X} {mx : Option X} : wpG P (some (j, w), .slice d sz x lo hi mx) K s = @onBool (gd w (s.t j)) w ⟨onSt (step (.slice d sz x lo hi mx) s) K⟩ ⟨K (skip (.slice d sz x lo hi mx) s)⟩ := wpG_guard rfl
@[simp] theorem skip_slice {d : Nat} {sz : Nat} {x : X} {lo : Option X} {hi : Option X} {mx : Option X} : skip (.slice d sz x lo hi mx) s = s.put d (.sc undef) := rfl
@[simp ↓] theorem wpG_sliceS {d : Nat} {x : X} {lo : Option X} {hi : Option X} : wpG P (none, .sliceS d x lo hi) K s = onSt (step (.sliceS d x lo hi) s) K := rfl
@[simp ↓] theorem wpGg_sliceS {j : Nat} {w : Bool} {d : Nat} {x : X} {lo : Option X} {hi : Option X} : wpG P (some (j, w), .sliceS d x lo hi) K s = @onBool (gd w (s.t j)) w ⟨onSt (step (.sliceS d x lo hi) s) K⟩ ⟨K (skip (.sliceS d x lo hi) s)⟩ := wpG_guard rfl
@[simp] theorem skip_sliceS {d : Nat} {x : X} {lo : Option X} {hi : Option X} : skip (.sliceS d x lo hi) s = s.put d (.sc undef) := rfl
@[simp ↓] theorem wpG_fieldA {d : Nat} {off : Nat} {x : X} : wpG P (none, .fieldA d off x) K s = onSt (step (.fieldA d off x) s) K := rfl
@[simp ↓] theorem wpGg_fieldA {j : Nat} {w : Bool} {d : Nat} {off : Nat} {x : X} : wpG P (some (j, w), .fieldA d off x) K s = @onBool (gd w (s.t j)) w ⟨onSt (step (.fieldA d off x) s) K⟩ ⟨K (skip (.fieldA d off x) s)⟩ := wpG_guard rfl
@[simp] theorem skip_fieldA {d : Nat} {off : Nat} {x : X} : skip (.fieldA d off x) s = s.put d (.sc undef) := rfl
@[simp ↓] theorem wpG_field {d : Nat} {ag : Bool} {off : Nat} {sz : Nat} {x : X} : wpG P (none, .field d ag off sz x) K s = onSt (step (.field d ag off sz x) s) K := rfl
@[simp ↓] theorem wpGg_field {j : Nat} {w : Bool} {d : Nat} {ag : Bool} {off : Nat} {sz : Nat} {x : X} : wpG P (some (j, w), .field d ag off sz x) K s = @onBool (gd w (s.t j)) w ⟨onSt (step (.field d ag off sz x) s) K⟩ ⟨K (skip (.field d ag off sz x) s)⟩ := wpG_guard rfl
@[simp] theorem skip_field {d : Nat} {ag : Bool} {off : Nat} {sz : Nat} {x : X} : skip (.field d ag off sz x) s = s.put d (.sc undef) := rfl
@[simp ↓] theorem wpG_indexA {d : Nat} {sz : Nat} {x : X} {i : X} : wpG P (none, .indexA d sz x i) K s = onSt (step (.indexA d sz x i) s) K := rfl
@[simp ↓] theorem wpGg_indexA {j : Nat} {w : Bool} {d : Nat} {sz : Nat} {x : X} {i : X} : wpG P (some (j, w), .indexA d sz x i) K s = @onBool (gd w (s.t j)) w ⟨onSt (step (.indexA d sz x i) s) K⟩ ⟨K (skip (.indexA d sz x i) s)⟩ := wpG_guard rfl
@[simp] theorem skip_indexA {d : Nat} {sz : Nat} {x : X} {i : X} : skip (.indexA d sz x i) s = s.put d (.sc undef) := rfl
@[simp ↓] theorem wpG_indexS {d : Nat} {x : X} {i : X} : wpG P (none, .indexS d x i) K s = onSt (step (.indexS d x i) s) K := rfl
@[simp ↓] theorem wpGg_indexS {j : Nat} {w : Bool} {d : Nat} {x : X} {i : X} : wpG P (some (j, w), .indexS d x i) K s = @onBool (gd w (s.t j)) w ⟨onSt (step (.indexS d x i) s) K⟩ ⟨K (skip (.indexS d x i) s)⟩ := wpG_guard rfl
@[simp] theorem skip_indexS {d : Nat} {x : X} {i : X} : skip (.indexS d x i) s = s.put d (.sc undef) := rfl
@[simp ↓] theorem wpG_extract {d : Nat} {k : Nat} {x : X} : wpG P (none, .extract d k x) K s = onSt (step (.extract d k x) s) K := rfl
@[simp ↓] theorem wpGg_extract {j : Nat} {w : Bool} {d : Nat} {k : Nat} {x : X} : wpG P (some (j, w), .extract d k x) K s = @onBool (gd w (s.t j)) w ⟨onSt (step (.extract d k x) s) K⟩ ⟨K (skip (.extract d k x) s)⟩ := wpG_guard rfl
@[simp] theorem skip_extract {d : Nat} {k : Nat} {x : X} : skip (.extract d k x) s = s.put d (.sc undef) := rfl
@[simp ↓] theorem wpG_len {d : Nat} {x : X} : wpG P (none, .len d x) K s = onSt (step (.len d x) s) K := rfl
@[simp ↓] theorem wpGg_len {j : Nat} {w : Bool} {d : Nat} {x : X} : wpG P (some (j, w), .len d x) K s = @onBool (gd w (s.t j)) w ⟨onSt (step (.len d x) s) K⟩ ⟨K (skip (.len d x) s)⟩ := wpG_guard rfl
@[simp] theorem skip_len {d : Nat} {x : X} : skip (.len d x) s = s.put d (.sc undef) := rfl
@[simp ↓] theorem wpG_lenS {d : Nat} {x : X} : wpG P (none, .lenS d x) K s = onSt (step (.lenS d x) s) K := rfl
@[simp ↓] theorem wpGg_lenS {j : Nat} {w : Bool} {d : Nat} {x : X} : wpG P (some (j, w), .lenS d x) K s = @onBool (gd w (s.t j)) w ⟨onSt (step (.lenS d x) s) K⟩ ⟨K (skip (.lenS d x) s)⟩ := wpG_guard rfl
@[simp] theorem skip_lenS {d : Nat} {x : X} : skip (.lenS d x) s = s.put d (.sc undef) := rfl
@[simp ↓] theorem wpG_append {d : Nat} {sz : Nat} {x : X} {y : X} : wpG P (none, .append d sz x y) K s = onSt (step (.append d sz x y) s) K := rfl
@[simp ↓] theorem wpGg_append {j : Nat} {w : Bool} {d : Nat} {sz : Nat} {x : X} {y : X} : wpG P (some (j, w), .append d sz x y) K s = @onBool (gd w (s.t j)) w ⟨onSt (step (.append d sz x y) s) K⟩ ⟨K (skip (.append d sz x y) s)⟩ := wpG_guard rfl
@[simp] theorem skip_append {d : Nat} {sz : Nat} {x : X} {y : X} : skip (.append d sz x y) s = s.put d (.sc undef) := rfl
@[simp ↓] theorem wpG_mkslice {d : Nat} {sz : Nat} {z : List LV} {n : X} : wpG P (none, .mkslice d sz z n) K s = onSt (step (.mkslice d sz z n) s) K := rfl
@[simp ↓] theorem wpGg_mkslice {j : Nat} {w : Bool} {d : Nat} {sz : Nat} {z : List LV} {n : X} : wpG P (some (j, w), .mkslice d sz z n) K s = @onBool (gd w (s.t j)) w ⟨onSt (step (.mkslice d sz z n) s) K⟩ ⟨K (skip (.mkslice d sz z n) s)⟩ := wpG_guard rfl
@[simp] theorem skip_mkslice {d : Nat} {sz : Nat} {z : List LV} {n : X} : skip (.mkslice d sz z n) s = s.put d (.sc undef) := rfl
@[simp ↓] theorem wpG_minmax {d : Nat} {mx : Bool} {x : X} {y : X} : wpG P (none, .minmax d mx x y) K s = onSt (step (.minmax d mx x y) s) K := rfl
@[simp ↓] theorem wpGg_minmax {j : Nat} {w : Bool} {d : Nat} {mx : Bool} {x : X} {y : X} : wpG P (some (j, w), .minmax d mx x y) K s = @onBool (gd w (s.t j)) w ⟨onSt (step (.minmax d mx x y) s) K⟩ ⟨K (skip (.minmax d mx x y) s)⟩ := wpG_guard rfl
@[simp] theorem skip_minmax {d : Nat} {mx : Bool} {x : X} {y : X} : skip (.minmax d mx x y) s = s.put d (.sc undef) := rfl
@[simp ↓] theorem wpG_mkfn {d : Nat} {f : FuncId} {m : Bool} {caps : List X} : wpG P (none, .mkfn d f m caps) K s = onSt (step (.mkfn d f m caps) s) K := rfl
@[simp ↓] theorem wpGg_mkfn {j : Nat} {w : Bool} {d : Nat} {f : FuncId} {m : Bool} {caps : List X} : wpG P (some (j, w), .mkfn d f m caps) K s = @onBool (gd w (s.t j)) w ⟨onSt (step (.mkfn d f m caps) s) K⟩ ⟨K (skip (.mkfn d f m caps) s)⟩ := wpG_guard rfl
@[simp] theorem skip_mkfn {d : Nat} {f : FuncId} {m : Bool} {caps : List X} : skip (.mkfn d f m caps) s = s.put d (.sc undef) := rfl
@[simp ↓] theorem wpG_nilchk {d : Nat} {x : X} : wpG P (none, .nilchk d x) K s = onSt (step (.nilchk d x) s) K := rfl
@[simp ↓] theorem wpGg_nilchk {j : Nat} {w : Bool} {d : Nat} {x : X} : wpG P (some (j, w), .nilchk d x) K s = @onBool (gd w (s.t j)) w ⟨onSt (step (.nilchk d x) s) K⟩ ⟨K (skip (.nilchk d x) s)⟩ := wpG_guard rfl
@[simp] theorem skip_nilchk {d : Nat} {x : X} : skip (.nilchk d x) s = s.put d (.sc undef) := rfl
@[simp ↓] theorem wpG_conv {d : Nat} {k : IntKind} {x : X} : wpG P (none, .conv d k x) K s = onSt (step (.conv d k x) s) K := rfl
@[simp ↓] theorem wpGg_conv {j : Nat} {w : Bool} {d : Nat} {k : IntKind} {x : X} : wpG P (some (j, w), .conv d k x) K s = @onBool (gd w (s.t j)) w ⟨onSt (step (.conv d k x) s) K⟩ ⟨K (skip (.conv d k x) s)⟩ := wpG_guard rfl
@[simp] theorem skip_conv {d : Nat} {k : IntKind} {x : X} : skip (.conv d k x) s = s.put d (.sc undef) := rfl
@[simp ↓] theorem wpG_pick {d : Nat} {c : X} {x : X} {y : X} : wpG P (none, .pick d c x y) K s = onSt (step (.pick d c x y) s) K := rfl
@[simp ↓] theorem wpGg_pick {j : Nat} {w : Bool} {d : Nat} {c : X} {x : X} {y : X} : wpG P (some (j, w), .pick d c x y) K s = @onBool (gd w (s.t j)) w ⟨onSt (step (.pick d c x y) s) K⟩ ⟨K (skip (.pick d c x y) s)⟩ := wpG_guard rfl
@[simp] theorem skip_pick {d : Nat} {c : X} {x : X} {y : X} : skip (.pick d c x y) s = s.put d (.sc undef) := rfl
@[simp ↓] theorem wpG_cap {d : Nat} {x : X} : wpG P (none, .cap d x) K s = onSt (step (.cap d x) s) K := rfl
@[simp ↓] theorem wpGg_cap {j : Nat} {w : Bool} {d : Nat} {x : X} : wpG P (some (j, w), .cap d x) K s = @onBool (gd w (s.t j)) w ⟨onSt (step (.cap d x) s) K⟩ ⟨K (skip (.cap d x) s)⟩ := wpG_guard rfl
@[simp] theorem skip_cap {d : Nat} {x : X} : skip (.cap d x) s = s.put d (.sc undef) := rfl
@[simp ↓] theorem wpG_growz {d sz : Nat} {x n : X} : wpG P (none, .growz d sz x n) K s = onSt (step (.growz d sz x n) s) K := rfl
@[simp ↓] theorem wpGg_growz {j : Nat} {w : Bool} {d sz : Nat} {x n : X} : wpG P (some (j, w), .growz d sz x n) K s = @onBool (gd w (s.t j)) w ⟨onSt (step (.growz d sz x n) s) K⟩ ⟨K (skip (.growz d sz x n) s)⟩ := wpG_guard rfl
@[simp] theorem skip_growz {d sz : Nat} {x n : X} : skip (.growz d sz x n) s = s.put d (.sc undef) := rfl
@[simp ↓] theorem wpG_cut0 {d sz : Nat} {x hi : X} : wpG P (none, .cut0 d sz x hi) K s = onSt (step (.cut0 d sz x hi) s) K := rfl
@[simp ↓] theorem wpGg_cut0 {j : Nat} {w : Bool} {d sz : Nat} {x hi : X} : wpG P (some (j, w), .cut0 d sz x hi) K s = @onBool (gd w (s.t j)) w ⟨onSt (step (.cut0 d sz x hi) s) K⟩ ⟨K (skip (.cut0 d sz x hi) s)⟩ := wpG_guard rfl
@[simp] theorem skip_cut0 {d sz : Nat} {x hi : X} : skip (.cut0 d sz x hi) s = s.put d (.sc undef) := rfl
@[simp ↓] theorem wpG_bad {d : Option Nat} : wpG P (none, .bad d) K s = onSt (step (.bad d) s) K := rfl
@[simp ↓] theorem wpGg_bad {j : Nat} {w : Bool} {d : Option Nat} : wpG P (some (j, w), .bad d) K s = @onBool (gd w (s.t j)) w ⟨onSt (step (.bad d) s) K⟩ ⟨K (skip (.bad d) s)⟩ := wpG_guard rfl
@[simp] theorem skip_bad {d : Option Nat} : skip (.bad d) s = match d with | some d => s.put d (.sc undef) | none => s := rfl
@[simp] theorem skip_call {rw : Rw} {d : Nat} {f : X} {args : List X} : skip (.call rw (some d) f args) s = s.put d (.sc undef) := rfl
@[simp] theorem step_mvc {d : Nat} {x : X} : step (.mv d .copy x) s = some (s.put d (share (get s.t x))) := rfl
@[simp] theorem step_mvt {d : Nat} {x : X} : step (.mv d .take x) s = some ((s.give x).put d (get s.t x)) := rfl
@[simp] theorem step_bin {d : Nat} {c : Cm} {op : BinOp} {x y : X} : step (.bin d c op x y) s = (binLV c op (get s.t x) (get s.t y)).map (s.put d) := rfl
@[simp] theorem step_un {d : Nat} {op : UnOp} {x : X} : step (.un d op x) s = (unLV op (get s.t x)).map (s.put d) := rfl
@[simp] theorem step_build {d : Nat} {z : List LV} {ps : List (Nat × Nat × X)} : step (.build d z ps) s = (fillLV s.t z ps).map fun zs => ({ s with t := giveAll s.t (ps.map fun p => p.2.2) } : St).put d (.agg zs) := rfl
@[simp] theorem step_bslice {d sz len : Nat} {z : List LV} {ps : List (Nat × Nat × X)} : step (.bslice d sz len z ps) s = (fillLV s.t z ps).map fun zs => ({ s with t := giveAll s.t (ps.map fun p => p.2.2) } : St).put d (.sl true false sz (chunks sz len zs)) := rfl
@[simp] theorem step_len {d : Nat} {x : X} : step (.len d x) s = (lenLV (get s.t x)).map fun (n : Nat) => s.put d (.sc (.int .i64 (n : Int))) := rfl
@[simp] theorem step_lenS {d : Nat} {x : X} : step (.lenS d x) s = (lenStr (get s.t x)).map fun (n : Nat) => s.put d (.sc (.int .i64 (n : Int))) := rfl
@[simp] theorem step_mkfn {d : Nat} {f : FuncId} {m : Bool} {caps : List X} : step (.mkfn d f m caps) s = some (s.put d (if m = true then .fnm f (caps.map fun c => share (get s.t c)) else .fn f (caps.map fun c => share (get s.t c)))) := rfl
@[simp] theorem step_alloc {d : Nat} {z : List LV} : step (.alloc d z) s = some ({ s with h := s.h ++ [some z] }.put d (.ptr s.h.length 0)) := rfl
@[simp] theorem step_conv {d : Nat} {k : IntKind} {x : X} : step (.conv d k x) s = (intOf (get s.t x)).map fun n => s.put d (.sc (.int k (k.wrap n))) := rfl

/-! comparisons, kept as they are -/
def leB (a b : Int) : Bool := decide (a ≤ b)
def ltB (a b : Int) : Bool := decide (a < b)
def eqB (a b : Int) : Bool := decide (a = b)
theorem leB_true {a b : Int} : leB a b = true ↔ a ≤ b := by simp [leB]
theorem leB_false {a b : Int} : leB a b = false ↔ b < a := by simp [leB]
theorem ltB_true {a b : Int} : ltB a b = true ↔ a < b := by simp [ltB]
theorem ltB_false {a b : Int} : ltB a b = false ↔ b ≤ a := by simp [ltB]
theorem eqB_true {a b : Int} : eqB a b = true ↔ a = b := by simp [eqB]
theorem eqB_false {a b : Int} : eqB a b = false ↔ a ≠ b := by simp [eqB]
@[simp] theorem onBool_tt {p q : Prop} : @onBool (some true) true ⟨p⟩ ⟨q⟩ = p := by rw [onBool_some]; simp
@[simp] theorem onBool_ft {p q : Prop} : @onBool (some false) true ⟨p⟩ ⟨q⟩ = q := by rw [onBool_some]; simp
@[simp] theorem onBool_tf {p q : Prop} : @onBool (some true) false ⟨p⟩ ⟨q⟩ = q := by rw [onBool_some]; simp
@[simp] theorem onBool_ff {p q : Prop} : @onBool (some false) false ⟨p⟩ ⟨q⟩ = p := by rw [onBool_some]; simp
theorem onBool_le {a b : Int} {w : Bool} {p q : Prop} : @onBool (some (leB a b)) w ⟨p⟩ ⟨q⟩ = if w = true then ((leB a b = true → a ≤ b → p) ∧ (leB a b = false → b < a → q)) else ((leB a b = true → a ≤ b → q) ∧ (leB a b = false → b < a → p)) := by
  rw [onBool_some]; cases w <;> by_cases h : a ≤ b <;> simp [leB, h] <;> omega
@[simp] theorem onBool_leT {a b : Int} {p q : Prop} : @onBool (some (leB a b)) true ⟨p⟩ ⟨q⟩ = ((leB a b = true → a ≤ b → p) ∧ (leB a b = false → b < a → q)) := by rw [onBool_le, if_pos rfl]
@[simp] theorem onBool_leF {a b : Int} {p q : Prop} : @onBool (some (leB a b)) false ⟨p⟩ ⟨q⟩ = ((leB a b = true → a ≤ b → q) ∧ (leB a b = false → b < a → p)) := by rw [onBool_le, if_neg (by simp)]
theorem onBool_lt {a b : Int} {w : Bool} {p q : Prop} : @onBool (some (ltB a b)) w ⟨p⟩ ⟨q⟩ = if w = true then ((ltB a b = true → a < b → p) ∧ (ltB a b = false → b ≤ a → q)) else ((ltB a b = true → a < b → q) ∧ (ltB a b = false → b ≤ a → p)) := by
  rw [onBool_some]; cases w <;> by_cases h : a < b <;> simp [ltB, h] <;> omega
@[simp] theorem onBool_ltT {a b : Int} {p q : Prop} : @onBool (some (ltB a b)) true ⟨p⟩ ⟨q⟩ = ((ltB a b = true → a < b → p) ∧ (ltB a b = false → b ≤ a → q)) := by rw [onBool_lt, if_pos rfl]
@[simp] theorem onBool_ltF {a b : Int} {p q : Prop} : @onBool (some (ltB a b)) false ⟨p⟩ ⟨q⟩ = ((ltB a b = true → a < b → q) ∧ (ltB a b = false → b ≤ a → p)) := by rw [onBool_lt, if_neg (by simp)]
theorem onBool_eq {a b : Int} {w : Bool} {p q : Prop} : @onBool (some (eqB a b)) w ⟨p⟩ ⟨q⟩ = if w = true then ((eqB a b = true → a ≤ b → b ≤ a → p) ∧ (eqB a b = false → ¬ a = b → q)) else ((eqB a b = true → a ≤ b → b ≤ a → q) ∧ (eqB a b = false → ¬ a = b → p)) := by
  rw [onBool_some]; cases w <;> by_cases h : a = b <;> simp [eqB, h]
@[simp] theorem onBool_eqT {a b : Int} {p q : Prop} : @onBool (some (eqB a b)) true ⟨p⟩ ⟨q⟩ = ((eqB a b = true → a ≤ b → b ≤ a → p) ∧ (eqB a b = false → ¬ a = b → q)) := by rw [onBool_eq, if_pos rfl]
@[simp] theorem onBool_eqF {a b : Int} {p q : Prop} : @onBool (some (eqB a b)) false ⟨p⟩ ⟨q⟩ = ((eqB a b = true → a ≤ b → b ≤ a → q) ∧ (eqB a b = false → ¬ a = b → p)) := by rw [onBool_eq, if_neg (by simp)]
@[simp] theorem bin_add {a b : Int} : binLV .num .add (.sc (.int .i64 a)) (.sc (.int .i64 b)) = some (.sc (.int .i64 (IntKind.i64.wrap (a + b)))) := by simp [binLV, intBin]
@[simp] theorem bin_sub {a b : Int} : binLV .num .sub (.sc (.int .i64 a)) (.sc (.int .i64 b)) = some (.sc (.int .i64 (IntKind.i64.wrap (a - b)))) := by simp [binLV, intBin]
@[simp] theorem bin_mul {a b : Int} : binLV .num .mul (.sc (.int .i64 a)) (.sc (.int .i64 b)) = some (.sc (.int .i64 (IntKind.i64.wrap (a * b)))) := by simp [binLV, intBin]
@[simp] theorem bin_leq {k : IntKind} {a b : Int} : binLV .num .leq (.sc (.int k a)) (.sc (.int k b)) = some (.sc (.bool (leB a b))) := by simp [binLV, intBin, leB]
@[simp] theorem bin_geq {k : IntKind} {a b : Int} : binLV .num .geq (.sc (.int k a)) (.sc (.int k b)) = some (.sc (.bool (leB b a))) := by simp [binLV, intBin, leB]
@[simp] theorem bin_lss {k : IntKind} {a b : Int} : binLV .num .lss (.sc (.int k a)) (.sc (.int k b)) = some (.sc (.bool (ltB a b))) := by simp [binLV, intBin, ltB]
@[simp] theorem bin_gtr {k : IntKind} {a b : Int} : binLV .num .gtr (.sc (.int k a)) (.sc (.int k b)) = some (.sc (.bool (ltB b a))) := by simp [binLV, intBin, ltB]
@[simp] theorem bin_eql {k : IntKind} {a b : Int} : binLV .num .eql (.sc (.int k a)) (.sc (.int k b)) = some (.sc (.bool (eqB a b))) := by
  by_cases h : a = b <;> simp [binLV, intBin, eqB, h]
@[simp] theorem bin_neq {k : IntKind} {a b : Int} : binLV .num .neq (.sc (.int k a)) (.sc (.int k b)) = some (.sc (.bool (!eqB a b))) := by
  by_cases h : a = b <;> simp [binLV, intBin, eqB, h]
@[simp] theorem un_not {b : Bool} : unLV .not (.sc (.bool b)) = some (.sc (.bool !b)) := rfl
@[simp] theorem onBool_not {b w : Bool} {p q : Prop} : @onBool (some (!b)) w ⟨p⟩ ⟨q⟩ = @onBool (some b) (!w) ⟨p⟩ ⟨q⟩ := by
  rw [onBool_some, onBool_some]; cases b <;> cases w <;> simp
@[simp] theorem onBool_lit {b w : Bool} {p q : Prop} (h : b = w) : @onBool (some b) w ⟨p⟩ ⟨q⟩ = p := by rw [onBool_some]; simp [h]
@[simp] theorem low_sc {k : Nat} {v : Value} : Low k (.sc v) = True := by simp [Low]
@[simp] theorem low_sl {k : Nat} {u nl : Bool} {sz : Nat} {xs : List (List LV)} : Low k (.sl u nl sz xs) = LowRow k xs := by simp [Low]
@[simp] theorem low_rp {k : Nat} {xs : List LV} : Low k (.rp xs) = LowAll k xs := by simp [Low]
@[simp] theorem low_fn {k : Nat} {f : FuncId} {xs : List LV} : Low k (.fn f xs) = LowAll k xs := by simp [Low]
@[simp] theorem low_fnm {k : Nat} {f : FuncId} {xs : List LV} : Low k (.fnm f xs) = LowAll k xs := by simp [Low]
@[simp] theorem low_agg {k : Nat} {xs : List LV} : Low k (.agg xs) = LowAll k xs := by simp [Low]
@[simp] theorem low_tup {k : Nat} {xs : List LV} : Low k (.tup xs) = LowAll k xs := by simp [Low]
@[simp] theorem low_raw {k sz : Nat} : Low k (.raw sz) = True := by simp [Low]
@[simp] theorem low_dead {k : Nat} : Low k .dead = True := by simp [Low]
@[simp] theorem lowAll_nil {k : Nat} : LowAll k [] = True := by simp [LowAll]
@[simp] theorem lowAll_cons {k : Nat} {x : LV} {xs : List LV} : LowAll k (x :: xs) = (Low k x ∧ LowAll k xs) := by simp [LowAll]
@[simp] theorem lowRow_nil {k : Nat} : LowRow k [] = True := by simp [LowRow]
@[simp] theorem lowRow_cons {k : Nat} {x : List LV} {xs : List (List LV)} : LowRow k (x :: xs) = (LowAll k x ∧ LowRow k xs) := by simp [LowRow]
@[simp] theorem lowRow_app {k : Nat} {xs ys : List (List LV)} : LowRow k (xs ++ ys) = (LowRow k xs ∧ LowRow k ys) := by
  induction xs with
  | nil => simp
  | cons x xs ih => simp [ih, and_assoc]
@[simp] theorem lowAll_app {k : Nat} {xs ys : List LV} : LowAll k (xs ++ ys) = (LowAll k xs ∧ LowAll k ys) := by
  induction xs with
  | nil => simp
  | cons x xs ih => simp [ih, and_assoc]
@[simp] theorem lowRow_map {α : Type} {k : Nat} {xs : List α} {e : α → List LV} : LowRow k (xs.map e) = ∀ x ∈ xs, LowAll k (e x) := by
  induction xs with
  | nil => simp
  | cons x xs ih => simp [ih]
@[simp] theorem rvVals_nil {s : St} : rvVals s [] = some ([], s) := rfl
@[simp] theorem rvVals_tmp {s : St} {t : Nat} {rs : List RV} : rvVals s (.tmp t :: rs) = (rvVals { s with t := upd s.t t (share (s.t t)) } rs).map fun p => (s.t t :: p.1, p.2) := by
  simp only [rvVals, rvVal]
  cases rvVals { s with t := upd s.t t (share (s.t t)) } rs <;> rfl
@[simp] theorem pack_one {v : LV} : pack [v] = v := rfl
@[simp] theorem pack_two {v u : LV} {vs : List LV} : pack (v :: u :: vs) = .tup (v :: u :: vs) := rfl
@[simp] theorem pack_none : pack [] = .tup [] := rfl

/-! values alone -/
def boolLV (o : Option Bool) (K : Bool → Option St) : Option St := match o with
  | some b => K b
  | none => none
@[simp] theorem boolLV_some {b : Bool} {F : Bool → Option St} : boolLV (some b) F = F b := rfl
def idxLV (sz : Nat) (v : LV) (i : Int) : Option LV :=
  match v with
  | .sl _ _ sz' xs => if sz' = sz ∧ 0 ≤ i ∧ i < xs.length then some (share (.rp (xs.getD i.toNat []))) else none
  | .ha l sz' off n _ => if sz' = sz ∧ 0 ≤ i ∧ i < n then some (.ptr l ((off + i.toNat) * sz)) else none
  | _ => none
def cutLV (sz : Nat) (v : LV) (lo hi mx : Option Int) : Option LV :=
  match v with
  | .sl _ nil sz' xs => if sz' = sz ∧ 0 ≤ lo.getD 0 ∧ lo.getD 0 ≤ hi.getD xs.length ∧ hi.getD xs.length ≤ mx.getD xs.length ∧ mx.getD xs.length ≤ xs.length then
      some (.sl (mx.isSome && decide (lo.getD 0 = mx.getD xs.length)) nil sz (shareRow ((xs.take (hi.getD xs.length).toNat).drop (lo.getD 0).toNat))) else none
  | .ha b sz' off n cap => if sz' = sz ∧ lo.getD 0 = 0 ∧ 0 ≤ hi.getD n ∧ hi.getD n ≤ n ∧ n ≤ cap ∧ mx.isSome = false then some (.ha b sz off (hi.getD n).toNat cap) else none
  | _ => none
def appLV (sz : Nat) (x y : LV) : Option LV :=
  match x, y with
  | .sl u nil sz' xs, .sl _ nil2 sz2 ys =>
      if (u = true ∨ nil = true ∨ ys = []) ∧ (sz' = sz ∨ nil = true) ∧ (sz2 = sz ∨ nil2 = true) ∧ xs.length + ys.length ≤ most then
        some (.sl (u || !ys.isEmpty) (nil && ys.isEmpty) sz (xs ++ ys)) else none
  | _, _ => none
def fldLV (ag : Bool) (off sz : Nat) (v : LV) : Option LV :=
  match v with
  | .agg xs => if off + sz ≤ xs.length then (ofCells ag ((xs.drop off).take sz)).map share else none
  | _ => none
def sidxLV (v : LV) (i : Int) : Option LV :=
  match v with
  | .sc (.string b) => if 0 ≤ i ∧ i < b.size then some (.sc (.int .u8 ((b.data.toList.getD i.toNat 0).toNat : Int))) else none
  | _ => none
def scutLV (v : LV) (lo hi : Option Int) : Option LV :=
  match v with
  | .sc (.string b) => if 0 ≤ lo.getD 0 ∧ lo.getD 0 ≤ hi.getD b.size ∧ hi.getD b.size ≤ b.size then some (.sc (.string (b.extract (lo.getD 0).toNat (hi.getD b.size).toNat))) else none
  | _ => none
/-- a bound that is given -/
def bnd (t : Nat → LV) : Option X → Option (Option Int)
  | none => some none
  | some x => (intOf (get t x)).map some
@[simp] theorem bnd_none {t : Nat → LV} : bnd t none = some none := rfl
@[simp] theorem bnd_some {t : Nat → LV} {x : X} : bnd t (some x) = (intOf (get t x)).map some := rfl
theorem bound_bnd {t : Nat → LV} {d : Int} {o : Option X} : bound t d o = (bnd t o).map (·.getD d) := by
  cases o with
  | none => rfl
  | some x => cases h : intOf (get t x) <;> simp [bound, h]
@[simp] theorem intOf_sc {k : IntKind} {n : Int} : intOf (.sc (.int k n)) = some n := rfl
@[simp] theorem gd_bool {w b : Bool} : gd w (.sc (.bool b)) = some b := rfl
@[simp] theorem gd_undefT : gd true (.sc undef) = some false := rfl
@[simp] theorem gd_undefF : gd false (.sc undef) = some true := rfl
@[simp] theorem boolOf_sc {b : Bool} : boolOf (.sc (.bool b)) = some b := rfl
@[simp] theorem lenLV_sl {u nl : Bool} {sz : Nat} {xs : List (List LV)} : lenLV (.sl u nl sz xs) = some xs.length := rfl
@[simp] theorem lenLV_ha {l sz off n cap : Nat} : lenLV (.ha l sz off n cap) = some n := rfl
@[simp] theorem lenStr_sc {b : ByteArray} : lenStr (.sc (.string b)) = some b.size := rfl

@[simp] theorem step_pick {d : Nat} {c x y : X} : step (.pick d c x y) s = boolLV (boolOf (get s.t c)) fun b => some (s.put d (share (get s.t (if b = true then x else y)))) := by
  simp only [step]
  split
  · rename_i b h; rw [h]; rfl
  · rename_i h
    cases hb : boolOf (get s.t c) with
    | none => rfl
    | some b => exact absurd (by unfold boolOf at hb; split at hb <;> simp_all) (h b)
@[simp] theorem step_indexA {d sz : Nat} {x i : X} : step (.indexA d sz x i) s = ((intOf (get s.t i)).bind (idxLV sz (get s.t x))).map (s.put d) := by
  simp only [step]
  cases hi : intOf (get s.t i) with
  | none => cases get s.t x <;> simp
  | some i => cases get s.t x <;> simp [idxLV] <;> (try split) <;> simp_all
@[simp] theorem step_indexS {d : Nat} {x i : X} : step (.indexS d x i) s = ((intOf (get s.t i)).bind (sidxLV (get s.t x))).map (s.put d) := by
  simp only [step]
  cases hi : intOf (get s.t i) with
  | none => cases hv : get s.t x with
    | sc v => cases v <;> simp
    | _ => simp
  | some i => cases hv : get s.t x with
    | sc v => cases v <;> simp [sidxLV] <;> (try split) <;> simp_all
    | _ => simp [sidxLV]
@[simp] theorem step_slice {d sz : Nat} {x : X} {lo hi mx : Option X} : step (.slice d sz x lo hi mx) s = ((bnd s.t lo).bind fun a => (bnd s.t hi).bind fun b => (bnd s.t mx).bind fun c => cutLV sz (get s.t x) a b c).map (s.put d) := by
  simp only [step, cutLV, bound_bnd]
  cases hv : get s.t x with
  | sl u nl sz' xs =>
    cases ha : bnd s.t lo <;> cases hb : bnd s.t hi <;> cases hc : bnd s.t mx <;> try (simp; done)
    rename_i va vb vc
    have hs : vc.isSome = mx.isSome := by
      cases mx with
      | none => simp at hc; rw [← hc]; rfl
      | some x => simp at hc; obtain ⟨_, _, h⟩ := hc; rw [← h]; rfl
    simp only [Option.map_some, Option.bind_some, hs]
    split <;> rfl
  | ha b sz' off n cap =>
    cases ha : bnd s.t lo <;> cases hb : bnd s.t hi <;> cases hc : bnd s.t mx <;> try (simp; done)
    rename_i va vb vc
    have hs : vc.isSome = mx.isSome := by
      cases mx with
      | none => simp at hc; rw [← hc]; rfl
      | some x => simp at hc; obtain ⟨_, _, h⟩ := hc; rw [← h]; rfl
    simp only [Option.map_some, Option.bind_some, hs]
    split <;> rfl
  | _ => cases ha : bnd s.t lo <;> cases hb : bnd s.t hi <;> cases hc : bnd s.t mx <;> simp
@[simp] theorem step_sliceS {d : Nat} {x : X} {lo hi : Option X} : step (.sliceS d x lo hi) s = ((bnd s.t lo).bind fun a => (bnd s.t hi).bind fun b => scutLV (get s.t x) a b).map (s.put d) := by
  simp only [step, scutLV, bound_bnd]
  cases hv : get s.t x with
  | sc v => cases v <;> cases ha : bnd s.t lo <;> cases hb : bnd s.t hi <;> simp <;> (try split) <;> simp_all
  | _ => cases ha : bnd s.t lo <;> cases hb : bnd s.t hi <;> simp
@[simp] theorem step_append {d sz : Nat} {x y : X} : step (.append d sz x y) s = (appLV sz (get s.t x) (get (give s.t x) y)).map (((s.give x).give y).put d) := by
  simp only [step, appLV]
  generalize get s.t x = v
  generalize get (give s.t x) y = u
  cases v <;> try rfl
  cases u <;> try rfl
  simp only
  split <;> rfl
@[simp] theorem step_field {d off sz : Nat} {ag : Bool} {x : X} : step (.field d ag off sz x) s = (fldLV ag off sz (get s.t x)).map (s.put d) := by
  simp only [step, fldLV]
  generalize get s.t x = v
  cases v <;> try rfl
  rename_i xs
  simp only
  by_cases hb : off + sz ≤ xs.length
  · rw [if_pos hb, if_pos hb]
    cases h : ofCells ag ((xs.drop off).take sz) <;> rfl
  · rw [if_neg hb, if_neg hb]; rfl
/-- a value that is read out of a variable, or out of a place that is only read -/
def loadLV (h : List Box) (ag : Bool) (sz : Nat) (v : LV) : Option LV :=
  match v with
  | .ptr l o => match h[l]? with
    | some (some xs) => if o + sz ≤ xs.length ∧ aliveAll ((xs.drop o).take sz) = true then ofCells ag ((xs.drop o).take sz) else none
    | _ => none
  | .rp ys => if sz ≤ ys.length then ofCells ag (ys.take sz) else none
  | _ => none
/-- out of what is settled alone -/
def rdLV (ag : Bool) (sz : Nat) (v : LV) : Option LV :=
  match v with
  | .rp ys => if sz ≤ ys.length then ofCells ag (ys.take sz) else none
  | _ => none
def stLV (h : List Box) (sz : Nat) (p v : LV) : Option (List Box) :=
  match p with
  | .ptr l o => match h[l]? with
    | some (some xs) => if v.flat ∧ v.cells.length = sz ∧ o + sz ≤ xs.length then some (h.set l (some (splice xs o v.cells))) else none
    | _ => none
  | _ => none
def takeLV (h : List Box) (ag : Bool) (sz : Nat) (v : LV) : Option (LV × List Box) :=
  match v with
  | .ptr l o => match h[l]? with
    | some (some xs) => if o + sz ≤ xs.length ∧ aliveAll ((xs.drop o).take sz) = true then (ofCells ag ((xs.drop o).take sz)).map fun v => (v, h.set l (some (splice xs o (List.replicate sz .dead)))) else none
    | _ => none
  | .rp ys => if sz ≤ ys.length then (ofCells ag (ys.take sz)).map fun v => (share v, h) else none
  | _ => none
def tupAt (v : LV) (k : Nat) : Option (LV × LV) :=
  match v with
  | .tup xs => xs[k]?.map fun v => (v, .tup (xs.set k (share v)))
  | _ => none
def faLV (off : Nat) (v : LV) : Option LV :=
  match v with
  | .ptr l o => some (.ptr l (o + off))
  | .rp ys => if off ≤ ys.length then some (share (.rp (ys.drop off))) else none
  | _ => none
def nnLV (v : LV) : Option LV :=
  match v with
  | .ptr l o => some (.ptr l o)
  | .rp ys => some (share (.rp ys))
  | .fn f caps => some (share (.fn f caps))
  | .fnm f caps => some (share (.fnm f caps))
  | _ => none
def boxLV (v : LV) : Option (List LV) := if v.flat = true then some v.cells else none
@[simp] theorem lget_0 {α : Type} {a0 : α} {l : List α} : (a0 :: l)[0]? = some a0 := rfl
@[simp] theorem lget_1 {α : Type} {a0 a1 : α} {l : List α} : (a0 :: a1 :: l)[1]? = some a1 := rfl
@[simp] theorem lget_2 {α : Type} {a0 a1 a2 : α} {l : List α} : (a0 :: a1 :: a2 :: l)[2]? = some a2 := rfl
@[simp] theorem lget_3 {α : Type} {a0 a1 a2 a3 : α} {l : List α} : (a0 :: a1 :: a2 :: a3 :: l)[3]? = some a3 := rfl
@[simp] theorem lget_4 {α : Type} {a0 a1 a2 a3 a4 : α} {l : List α} : (a0 :: a1 :: a2 :: a3 :: a4 :: l)[4]? = some a4 := rfl
@[simp] theorem lget_5 {α : Type} {a0 a1 a2 a3 a4 a5 : α} {l : List α} : (a0 :: a1 :: a2 :: a3 :: a4 :: a5 :: l)[5]? = some a5 := rfl
@[simp] theorem lget_6 {α : Type} {a0 a1 a2 a3 a4 a5 a6 : α} {l : List α} : (a0 :: a1 :: a2 :: a3 :: a4 :: a5 :: a6 :: l)[6]? = some a6 := rfl
@[simp] theorem lget_7 {α : Type} {a0 a1 a2 a3 a4 a5 a6 a7 : α} {l : List α} : (a0 :: a1 :: a2 :: a3 :: a4 :: a5 :: a6 :: a7 :: l)[7]? = some a7 := rfl
@[simp] theorem lget_8 {α : Type} {a0 a1 a2 a3 a4 a5 a6 a7 a8 : α} {l : List α} : (a0 :: a1 :: a2 :: a3 :: a4 :: a5 :: a6 :: a7 :: a8 :: l)[8]? = some a8 := rfl
@[simp] theorem lget_9 {α : Type} {a0 a1 a2 a3 a4 a5 a6 a7 a8 a9 : α} {l : List α} : (a0 :: a1 :: a2 :: a3 :: a4 :: a5 :: a6 :: a7 :: a8 :: a9 :: l)[9]? = some a9 := rfl
@[simp] theorem lget_10 {α : Type} {a0 a1 a2 a3 a4 a5 a6 a7 a8 a9 a10 : α} {l : List α} : (a0 :: a1 :: a2 :: a3 :: a4 :: a5 :: a6 :: a7 :: a8 :: a9 :: a10 :: l)[10]? = some a10 := rfl
@[simp] theorem lget_11 {α : Type} {a0 a1 a2 a3 a4 a5 a6 a7 a8 a9 a10 a11 : α} {l : List α} : (a0 :: a1 :: a2 :: a3 :: a4 :: a5 :: a6 :: a7 :: a8 :: a9 :: a10 :: a11 :: l)[11]? = some a11 := rfl
@[simp] theorem lget_12 {α : Type} {a0 a1 a2 a3 a4 a5 a6 a7 a8 a9 a10 a11 a12 : α} {l : List α} : (a0 :: a1 :: a2 :: a3 :: a4 :: a5 :: a6 :: a7 :: a8 :: a9 :: a10 :: a11 :: a12 :: l)[12]? = some a12 := rfl
@[simp] theorem lget_13 {α : Type} {a0 a1 a2 a3 a4 a5 a6 a7 a8 a9 a10 a11 a12 a13 : α} {l : List α} : (a0 :: a1 :: a2 :: a3 :: a4 :: a5 :: a6 :: a7 :: a8 :: a9 :: a10 :: a11 :: a12 :: a13 :: l)[13]? = some a13 := rfl
@[simp] theorem lget_14 {α : Type} {a0 a1 a2 a3 a4 a5 a6 a7 a8 a9 a10 a11 a12 a13 a14 : α} {l : List α} : (a0 :: a1 :: a2 :: a3 :: a4 :: a5 :: a6 :: a7 :: a8 :: a9 :: a10 :: a11 :: a12 :: a13 :: a14 :: l)[14]? = some a14 := rfl
@[simp] theorem lget_15 {α : Type} {a0 a1 a2 a3 a4 a5 a6 a7 a8 a9 a10 a11 a12 a13 a14 a15 : α} {l : List α} : (a0 :: a1 :: a2 :: a3 :: a4 :: a5 :: a6 :: a7 :: a8 :: a9 :: a10 :: a11 :: a12 :: a13 :: a14 :: a15 :: l)[15]? = some a15 := rfl
@[simp] theorem splice_def {xs ys : List LV} {o : Nat} : splice xs o ys = xs.take o ++ ys ++ xs.drop (o + ys.length) := rfl
@[simp] theorem chunks_0 {xs : List LV} : chunks 1 0 xs = [] := rfl
@[simp] theorem chunks_1 {a : LV} : chunks 1 1 [a] = [[a]] := rfl
@[simp] theorem chunks_2 {a b : LV} : chunks 1 2 [a, b] = [[a], [b]] := rfl
@[simp] theorem chunks_3 {a b c : LV} : chunks 1 3 [a, b, c] = [[a], [b], [c]] := rfl
@[simp] theorem chunks_4 {a b c d : LV} : chunks 1 4 [a, b, c, d] = [[a], [b], [c], [d]] := rfl
@[simp] theorem chunks_5 {a b c d e : LV} : chunks 1 5 [a, b, c, d, e] = [[a], [b], [c], [d], [e]] := rfl
@[simp] theorem chunks_6 {a b c d e f : LV} : chunks 1 6 [a, b, c, d, e, f] = [[a], [b], [c], [d], [e], [f]] := rfl
theorem take_map' {α β : Type} {f : α → β} {l : List α} {n : Nat} : List.take n (List.map f l) = List.map f (List.take n l) := by simp
theorem drop_map' {α β : Type} {f : α → β} {l : List α} {n : Nat} : List.drop n (List.map f l) = List.map f (List.drop n l) := by simp
@[simp] theorem fillLV_nil {t : Nat → LV} {zs : List LV} : fillLV t zs [] = some zs := rfl
@[simp] theorem fillLV_cons {t : Nat → LV} {zs : List LV} {off sz : Nat} {x : X} {ps : List (Nat × Nat × X)} : fillLV t zs ((off, sz, x) :: ps) =
    if (get t x).flat ∧ (get t x).cells.length = sz ∧ off + sz ≤ zs.length then fillLV (give t x) (splice zs off (get t x).cells) ps else none := rfl
@[simp] theorem step_mkslice {d sz : Nat} {z : List LV} {n : X} : step (.mkslice d sz z n) s = (intOf (get s.t n)).bind fun n => if 0 ≤ n ∧ n ≤ most then some ⟨upd s.t d (.ha s.h.length sz 0 n.toNat n.toNat), s.h ++ [some (List.replicate n.toNat z).flatten]⟩ else none := by
  simp only [step]
  cases intOf (get s.t n) <;> rfl
@[simp] theorem get_last {α : Type} {h : List α} {x : α} : (h ++ [x])[h.length]? = some x := by simp
@[simp] theorem set_last {α : Type} {h : List α} {x y : α} : (h ++ [x]).set h.length y = h ++ [y] := by simp
@[simp] theorem rep_one {n : Nat} {x : LV} : (List.replicate n [x]).flatten = List.replicate n x := by
  induction n with
  | zero => rfl
  | succ n ih => simp [List.replicate_succ, ih]
theorem idx_ha {l sz off n cap : Nat} {i : Nat} (h : i < n) : idxLV sz (.ha l sz off n cap) (i : Int) = some (.ptr l ((off + i) * sz)) := by
  simp only [idxLV]
  rw [if_pos ⟨trivial, by omega, by omega⟩]
  simp
@[simp] theorem step_bad {d : Option Nat} : step (.bad d) s = none := rfl
theorem idx_map {α : Type} (e : α → List LV) (xs ys : List α) (x : α) (u nl : Bool) (sz : Nat) : idxLV sz (.sl u nl sz ((xs ++ x :: ys).map e)) (xs.length : Int) = some (.rp (shareAll (e x))) := by
  have h : sz = sz ∧ (0 : Int) ≤ (xs.length : Int) ∧ (xs.length : Int) < (((xs ++ x :: ys).map e).length : Nat) := by
    simp; omega
  simp only [idxLV]
  rw [if_pos ⟨trivial, h.2⟩]
  have : ((xs ++ x :: ys).map e).getD ((xs.length : Int)).toNat [] = e x := by
    simp [List.getD_eq_getElem?_getD]
  rw [this]
  simp only [share]
@[simp] theorem ofCells_agg {xs : List LV} : ofCells true xs = some (.agg xs) := rfl
@[simp] theorem ofCells_one {x : LV} : ofCells false [x] = some x := rfl
@[simp] theorem loadLV_rp {h : List Box} {ag : Bool} {sz : Nat} {ys : List LV} : loadLV h ag sz (.rp ys) = if sz ≤ ys.length then ofCells ag (ys.take sz) else none := rfl
@[simp] theorem loadLV_ptr {h : List Box} {ag : Bool} {sz l o : Nat} : loadLV h ag sz (.ptr l o) = match h[l]? with
    | some (some xs) => if o + sz ≤ xs.length ∧ aliveAll ((xs.drop o).take sz) = true then ofCells ag ((xs.drop o).take sz) else none
    | _ => none := rfl
@[simp] theorem takeLV_ptr {h : List Box} {ag : Bool} {sz l o : Nat} : takeLV h ag sz (.ptr l o) = match h[l]? with
    | some (some xs) => if o + sz ≤ xs.length ∧ aliveAll ((xs.drop o).take sz) = true then (ofCells ag ((xs.drop o).take sz)).map fun v => (v, h.set l (some (splice xs o (List.replicate sz .dead)))) else none
    | _ => none := rfl
@[simp] theorem stLV_ptr {h : List Box} {sz l o : Nat} {v : LV} : stLV h sz (.ptr l o) v = match h[l]? with
    | some (some xs) => if v.flat ∧ v.cells.length = sz ∧ o + sz ≤ xs.length then some (h.set l (some (splice xs o v.cells))) else none
    | _ => none := rfl
@[simp] theorem tupAt_tup {xs : List LV} {k : Nat} : tupAt (.tup xs) k = xs[k]?.map fun v => (v, .tup (xs.set k (share v))) := rfl
@[simp] theorem faLV_ptr {l o off : Nat} : faLV off (.ptr l o) = some (.ptr l (o + off)) := rfl
@[simp] theorem faLV_rp {ys : List LV} {off : Nat} : faLV off (.rp ys) = if off ≤ ys.length then some (share (.rp (ys.drop off))) else none := rfl
@[simp] theorem nnLV_ptr {l o : Nat} : nnLV (.ptr l o) = some (.ptr l o) := rfl
@[simp] theorem nnLV_rp {ys : List LV} : nnLV (.rp ys) = some (share (.rp ys)) := rfl
@[simp] theorem nnLV_fn {f : FuncId} {caps : List LV} : nnLV (.fn f caps) = some (share (.fn f caps)) := rfl
@[simp] theorem nnLV_fnm {f : FuncId} {caps : List LV} : nnLV (.fnm f caps) = some (share (.fnm f caps)) := rfl
@[simp] theorem flat_sl {u nl : Bool} {sz : Nat} {xs : List (List LV)} : LV.flat (.sl u nl sz xs) = true := rfl
@[simp] theorem flat_ptr {l o : Nat} : LV.flat (.ptr l o) = true := rfl
@[simp] theorem flat_agg {xs : List LV} : LV.flat (.agg xs) = true := rfl
@[simp] theorem flat_fn {f : FuncId} {xs : List LV} : LV.flat (.fn f xs) = true := rfl
@[simp] theorem flat_fnm {f : FuncId} {xs : List LV} : LV.flat (.fnm f xs) = true := rfl
@[simp] theorem flat_int {k : IntKind} {n : Int} : LV.flat (.sc (.int k n)) = true := rfl
@[simp] theorem flat_bool {b : Bool} : LV.flat (.sc (.bool b)) = true := rfl
@[simp] theorem flat_str {b : ByteArray} : LV.flat (.sc (.string b)) = true := rfl
@[simp] theorem flat_nil : LV.flat (.sc (.pointer none)) = true := rfl
@[simp] theorem cells_sl {u nl : Bool} {sz : Nat} {xs : List (List LV)} : LV.cells (.sl u nl sz xs) = [.sl u nl sz xs] := rfl
@[simp] theorem cells_ptr {l o : Nat} : LV.cells (.ptr l o) = [.ptr l o] := rfl
@[simp] theorem cells_agg {xs : List LV} : LV.cells (.agg xs) = xs := rfl
@[simp] theorem cells_fn {f : FuncId} {xs : List LV} : LV.cells (.fn f xs) = [.fn f xs] := rfl
@[simp] theorem cells_fnm {f : FuncId} {xs : List LV} : LV.cells (.fnm f xs) = [.fnm f xs] := rfl
@[simp] theorem cells_sc {v : Value} : LV.cells (.sc v) = [.sc v] := rfl
@[simp] theorem step_loadc {d : Nat} {ag : Bool} {sz : Nat} {x : X} : step (.load d .copy ag sz x) s = (loadLV s.h ag sz (get s.t x)).map fun v => s.put d (share v) := by
  simp only [step, loadLV, Md.settled]
  generalize get s.t x = v
  cases v <;> try rfl
  · rename_i l o; simp only [Bool.false_eq_true, if_false]; cases s.h[l]? with
    | none => rfl
    | some b => cases b with
      | none => rfl
      | some xs => simp only; split
                   · cases ofCells ag ((xs.drop o).take sz) <;> rfl
                   · rfl
  · rename_i ys; simp only; split
    · cases ofCells ag (ys.take sz) <;> rfl
    · rfl
@[simp] theorem step_loadt {d : Nat} {ag : Bool} {sz : Nat} {x : X} : step (.load d .take ag sz x) s = (rdLV ag sz (get s.t x)).map fun v => s.put d (share v) := by
  simp only [step, rdLV, Md.settled]
  generalize get s.t x = v
  cases v <;> try rfl
  rename_i ys; simp only; split
  · cases ofCells ag (ys.take sz) <;> rfl
  · rfl
@[simp] theorem step_loadf {d : Nat} {ag : Bool} {sz : Nat} {x : X} : step (.load d .frz ag sz x) s = (takeLV s.h ag sz (get s.t x)).map fun p => ⟨upd s.t d p.1, p.2⟩ := by
  simp only [step, takeLV, Md.settled]
  generalize get s.t x = v
  cases v <;> try rfl
  · rename_i l o; simp only [Bool.false_eq_true, if_false]; cases s.h[l]? with
    | none => rfl
    | some b => cases b with
      | none => rfl
      | some xs => simp only; split
                   · cases ofCells ag ((xs.drop o).take sz) <;> rfl
                   · rfl
  · rename_i ys; simp only; split
    · cases ofCells ag (ys.take sz) <;> rfl
    · rfl
@[simp] theorem rdLV_rp {ag : Bool} {sz : Nat} {ys : List LV} : rdLV ag sz (.rp ys) = if sz ≤ ys.length then ofCells ag (ys.take sz) else none := rfl
@[simp] theorem alive_nil : aliveAll [] = true := rfl
@[simp] theorem alive_cons {x : LV} {xs : List LV} : aliveAll (x :: xs) = (x.alive && aliveAll xs) := rfl
@[simp] theorem alive_sc {v : Value} : (LV.sc v).alive = true := rfl
@[simp] theorem alive_sl {u nl : Bool} {sz : Nat} {xs : List (List LV)} : (LV.sl u nl sz xs).alive = true := rfl
@[simp] theorem alive_ha {l sz off n cap : Nat} : (LV.ha l sz off n cap).alive = true := rfl
@[simp] theorem alive_ptr {l o : Nat} : (LV.ptr l o).alive = true := rfl
@[simp] theorem alive_rp {xs : List LV} : (LV.rp xs).alive = true := rfl
@[simp] theorem alive_fn {f : FuncId} {xs : List LV} : (LV.fn f xs).alive = true := rfl
@[simp] theorem alive_fnm {f : FuncId} {xs : List LV} : (LV.fnm f xs).alive = true := rfl
@[simp] theorem alive_agg {xs : List LV} : (LV.agg xs).alive = true := rfl
@[simp] theorem alive_tup {xs : List LV} : (LV.tup xs).alive = true := rfl
theorem alive_share' : ∀ x : LV, x.alive = true → (∀ sz, x ≠ .raw sz) → (share x).alive = true
  | .sc _, _, _ => by simp [share, LV.alive]
  | .sl _ _ _ _, _, _ => by simp [share, LV.alive]
  | .ha _ _ _ _ _, _, _ => by simp [share, LV.alive]
  | .ptr _ _, _, _ => by simp [share, LV.alive]
  | .rp _, _, _ => by simp [share, LV.alive]
  | .fn _ _, _, _ => by simp [share, LV.alive]
  | .fnm _ _, _, _ => by simp [share, LV.alive]
  | .agg _, _, _ => by simp [share, LV.alive]
  | .tup _, _, _ => by simp [share, LV.alive]
  | .raw sz, _, hr => absurd rfl (hr sz)
  | .dead, h, _ => by simp [LV.alive] at h
  | .both _ t, h, _ => by
    simp only [LV.alive, Bool.and_eq_true] at h
    simp only [share]
    exact alive_share' t h.1 (fun sz e => by rw [e] at h; simp at h)
@[simp] theorem alive_share {x : LV} (h : x.alive = true) (hr : ∀ sz, x ≠ .raw sz) : (share x).alive = true := alive_share' x h hr
@[simp] theorem step_store {sz : Nat} {x y : X} : step (.store sz x y) s = (stLV s.h sz (get s.t x) (get s.t y)).map fun h' => ⟨give s.t y, h'⟩ := by
  simp only [step, stLV]
  generalize get s.t x = v
  cases v <;> try rfl
  rename_i l o; simp only; cases s.h[l]? with
    | none => rfl
    | some b => cases b with
      | none => rfl
      | some xs => simp only; split <;> rfl
@[simp] theorem step_extract {d k i : Nat} : step (.extract d k (.t i)) s = (tupAt (s.t i) k).map fun p => ⟨upd (upd s.t i p.2) d p.1, s.h⟩ := by
  simp only [step, tupAt]
  show (match s.t i with | .tup xs => _ | _ => none) = _
  generalize s.t i = v
  cases v <;> try rfl
  rename_i xs; simp only; cases xs[k]? <;> rfl
def capLV (v : LV) : Option LV := match v with
  | .sl _ true _ _ => some (.sc (.int .i64 0))
  | _ => none
def growLV (sz : Nat) (v : LV) (n : Int) : Option LV := match v with
  | .sl _ true _ _ => if 0 < n ∧ n ≤ most then some (.raw sz) else none
  | _ => none
def cut0LV (sz : Nat) (v : LV) (n : Int) : Option LV := match v with
  | .raw sz' => if sz' = sz ∧ n = 0 then some (.sl true false sz []) else none
  | _ => none
@[simp] theorem capLV_nil {u : Bool} {sz : Nat} {xs : List (List LV)} : capLV (.sl u true sz xs) = some (.sc (.int .i64 0)) := rfl
@[simp] theorem growLV_nil {sz sz' : Nat} {u : Bool} {xs : List (List LV)} {n : Int} : growLV sz (.sl u true sz' xs) n = if 0 < n ∧ n ≤ most then some (.raw sz) else none := rfl
@[simp] theorem cut0LV_raw {sz sz' : Nat} {n : Int} : cut0LV sz (.raw sz') n = if sz' = sz ∧ n = 0 then some (.sl true false sz []) else none := rfl
@[simp] theorem step_cap {d : Nat} {x : X} : step (.cap d x) s = (capLV (get s.t x)).map (s.put d) := by
  simp only [step]
  generalize get s.t x = v
  cases v <;> try rfl
  rename_i u nl sz' xs
  cases nl <;> rfl
@[simp] theorem step_growz {d sz : Nat} {x n : X} : step (.growz d sz x n) s = ((intOf (get s.t n)).bind (growLV sz (get s.t x))).map (s.put d) := by
  simp only [step]
  cases hi : intOf (get s.t n) with
  | none => split <;> simp_all
  | some m =>
    generalize get s.t x = v
    cases v <;> try rfl
    rename_i u nl sz' xs
    cases nl
    · rfl
    · simp only [growLV, Option.bind_some]
      split <;> rfl
@[simp] theorem step_cut0 {d sz : Nat} {x hi : X} : step (.cut0 d sz x hi) s = ((intOf (get s.t hi)).bind (cut0LV sz (get s.t x))).map ((s.give x).put d) := by
  simp only [step]
  cases hi : intOf (get s.t hi) with
  | none => split <;> simp_all
  | some m =>
    generalize get s.t x = v
    cases v <;> try rfl
    simp only [cut0LV, Option.bind_some]
    split <;> rfl
@[simp] theorem step_fieldA {d off : Nat} {x : X} : step (.fieldA d off x) s = (faLV off (get s.t x)).map (s.put d) := by
  simp only [step, faLV]
  generalize get s.t x = v
  cases v <;> try rfl
  simp only; split <;> rfl
@[simp] theorem step_nilchk {d : Nat} {x : X} : step (.nilchk d x) s = (nnLV (get s.t x)).map (s.put d) := by
  simp only [step, nnLV]
  generalize get s.t x = v
  cases v <;> simp [share]
@[simp] theorem step_box {d : Nat} {x : X} : step (.box d x) s = (boxLV (get s.t x)).map fun cs => ⟨upd (give s.t x) d (.ptr s.h.length 0), s.h ++ [some cs]⟩ := by
  simp only [step, boxLV]
  split <;> rfl
def frzLV (h : List Box) (v : LV) : Option (LV × List Box) :=
  match v with
  | .ptr l 0 => match h[l]? with
    | some (some xs) => some (.rp xs, h.set l none)
    | _ => none
  | .ha l sz 0 n cap => match h[l]? with
    | some (some xs) => if xs.length = cap * sz ∧ n ≤ cap then some (.sl true false sz (chunks sz n xs), h.set l none) else none
    | _ => none
  | _ => none
@[simp] theorem step_mvf {d : Nat} {x : X} : step (.mv d .frz x) s = (frzLV s.h (get s.t x)).map fun p => ⟨upd s.t d p.1, p.2⟩ := by
  simp only [step]
  generalize get s.t x = v
  cases v with
  | ptr l o => cases o with
    | zero =>
      simp only [frzLV]
      cases s.h[l]? with
      | none => rfl
      | some b => cases b <;> rfl
    | succ o => rfl
  | ha l sz off n cap => cases off with
    | zero =>
      simp only [frzLV]
      cases s.h[l]? with
      | none => rfl
      | some b => cases b with
        | none => rfl
        | some xs => simp only; split <;> rfl
    | succ o => rfl
  | _ => rfl
@[simp] theorem thenL_normal {n : St → Prop} : thenL n Q .normal s = n s := rfl
@[simp] theorem thenL_ret {n : St → Prop} : thenL n Q .ret s = Q .ret s := rfl
@[simp] theorem thenL_exit {n : St → Prop} {i : Nat} : thenL n Q (.exit i) s = Q (.exit i) s := rfl
@[simp] theorem inBlockL_normal {i : Nat} : inBlockL i Q .normal s = Q .normal s := rfl
@[simp] theorem inBlockL_ret {i : Nat} : inBlockL i Q .ret s = Q .ret s := rfl
@[simp] theorem inBlockL_exit {i j : Nat} : inBlockL i Q (.exit j) s = if j = i then Q .normal s else Q (.exit j) s := rfl
end

@[simp] theorem upd_at {α : Type} (t : Nat → α) (i : Nat) (v : α) (j : Nat) : upd t i v j = if j = i then v else t j := rfl
@[simp] theorem put_eta {s : St} {d : Nat} {v : LV} : s.put d v = ⟨upd s.t d v, s.h⟩ := rfl
@[simp] theorem give_eta {s : St} {i : Nat} : s.give (.t i) = ⟨upd s.t i (share (s.t i)), s.h⟩ := rfl
@[simp] theorem giveF_k {t : Nat → LV} {v : LV} : give t (.k v) = t := rfl
@[simp] theorem giveF_t {t : Nat → LV} {i : Nat} : give t (.t i) = upd t i (share (t i)) := rfl
@[simp] theorem giveAll_nil {t : Nat → LV} : giveAll t [] = t := rfl
@[simp] theorem giveAll_cons {t : Nat → LV} {x : X} {xs : List X} : giveAll t (x :: xs) = giveAll (give t x) xs := rfl
@[simp] theorem give_k {s : St} {v : LV} : s.give (.k v) = s := rfl
@[simp] theorem get_t {t : Nat → LV} {i : Nat} : get t (.t i) = t i := rfl
@[simp] theorem get_k {t : Nat → LV} {v : LV} : get t (.k v) = v := rfl

@[simp] theorem share_sc {v : Value} : share (.sc v) = .sc v := by simp only [share]
@[simp] theorem share_sl {u nl : Bool} {sz : Nat} {xs : List (List LV)} : share (.sl u nl sz xs) = .sl false nl sz (shareRow xs) := by simp only [share]
@[simp] theorem share_ha {l sz off n cap : Nat} : share (.ha l sz off n cap) = .ha l sz off n cap := by simp only [share]
@[simp] theorem share_ptr {l o : Nat} : share (.ptr l o) = .ptr l o := by simp only [share]
@[simp] theorem share_rp {xs : List LV} : share (.rp xs) = .rp (shareAll xs) := by simp only [share]
@[simp] theorem share_fn {f : FuncId} {xs : List LV} : share (.fn f xs) = .fn f (shareAll xs) := by simp only [share]
@[simp] theorem share_fnm {f : FuncId} {xs : List LV} : share (.fnm f xs) = .fnm f (shareAll xs) := by simp only [share]
@[simp] theorem share_agg {xs : List LV} : share (.agg xs) = .agg (shareAll xs) := by simp only [share]
@[simp] theorem share_tup {xs : List LV} : share (.tup xs) = .tup (shareAll xs) := by simp only [share]
@[simp] theorem share_raw {sz : Nat} : share (.raw sz) = .dead := by simp only [share]
@[simp] theorem share_dead : share .dead = .dead := by simp only [share]
@[simp] theorem shareAll_nil : shareAll [] = [] := by simp only [shareAll]
@[simp] theorem shareAll_cons {x : LV} {xs : List LV} : shareAll (x :: xs) = share x :: shareAll xs := by simp only [shareAll]
@[simp] theorem shareRow_nil : shareRow [] = [] := by simp only [shareRow]
@[simp] theorem shareRow_cons {x : List LV} {xs : List (List LV)} : shareRow (x :: xs) = shareAll x :: shareRow xs := by simp only [shareRow]
@[simp] theorem shareRow_map {α : Type} {xs : List α} {e : α → List LV} : shareRow (xs.map e) = xs.map fun x => shareAll (e x) := by rw [shareRow_eq_map]; simp [shareAll_eq_map]
@[simp] theorem shareRow_app {xs ys : List (List LV)} : shareRow (xs ++ ys) = shareRow xs ++ shareRow ys := by simp [shareRow_eq_map]
@[simp] theorem shareAll_app {xs ys : List LV} : shareAll (xs ++ ys) = shareAll xs ++ shareAll ys := by simp [shareAll_eq_map]
@[simp] theorem env_0 {a : LV} {l : List LV} : env (a :: l) 0 = a := rfl
@[simp] theorem env_1 {a b : LV} {l : List LV} : env (a :: b :: l) 1 = b := rfl
@[simp] theorem env_2 {a b c : LV} {l : List LV} : env (a :: b :: c :: l) 2 = c := rfl
@[simp] theorem env_3 {a b c d : LV} {l : List LV} : env (a :: b :: c :: d :: l) 3 = d := rfl
@[simp] theorem env_4 {a b c d e : LV} {l : List LV} : env (a :: b :: c :: d :: e :: l) 4 = e := rfl
@[simp] theorem env_5 {a b c d e f : LV} {l : List LV} : env (a :: b :: c :: d :: e :: f :: l) 5 = f := rfl
@[simp] theorem env_6 {a b c d e f g : LV} {l : List LV} : env (a :: b :: c :: d :: e :: f :: g :: l) 6 = g := rfl
@[simp] theorem env_7 {a b c d e f g h : LV} {l : List LV} : env (a :: b :: c :: d :: e :: f :: g :: h :: l) 7 = h := rfl
theorem i64_wrap {n : Int} (h : -9223372036854775808 ≤ n ∧ n ≤ 9223372036854775807) : IntKind.i64.wrap n = n := by exact IntWalk.i64_in n h
theorem getD_ints {l : List Int} {i : Nat} (h : i < l.length) : (l.map fun n => [N n]).getD i [] = [N (l.getD i 0)] := by
  simp [List.getD_eq_getElem?_getD, h]
end Go.TL
