/- Contexts and sessions. No conditions. -/
import Derived.Test.YticcekapikfhaaaGc
import Derived.Test.YticcekapikfhaaaGg
namespace Go.Proofs.Yticcekapikfhaaa
open Go Go.TL
open Go.Proofs.Yticcekapikfhaaa.Ty
set_option linter.unusedSimpArgs false
set_option linter.unusedVariables false
set_option maxRecDepth 20000
set_option maxHeartbeats 4000000

def okT (size : Int) (c : Bool × List Int) : Bool := wty c.2 && gradedB size true c.2
def okAt (size : Int) (ctx : GCtx) (i : Nat) : Bool := okT size (ctx.getD i (true, []))
theorem okAt_in {size : Int} {ctx : GCtx} {i : Nat} (h : i < ctx.length) : okAt size ctx i = okT size ctx[i] := by simp [okAt, h]
def ctxB (size : Int) (ctx : GCtx) : Bool := leB ctx.length 8 && allN (okAt size ctx) ctx.length
theorem onCall_R {P : Program} {K : St → Prop} {s : St} {rw : Rw} {d : Nat} {f : FuncId} {vals : List LV} {R : LV → Prop} (c : Gives P f vals R) (hl : LowAll 0 vals) (hk : ∀ r, R r → K { t := upd s.t d r, h := s.h }) (hrw : rw ≠ .fr := by simp) : onCall P rw f vals (some d) K s := onCall_gives c hl hk hrw
theorem any_allN {ctx : GCtx} {size : Int} : ∀ n, n ≤ ctx.length → allN (okAt size ctx) n = !((ctx.take n).any fun c => !okT size c)
  | 0, _ => by simp
  | n + 1, h => by
    rw [allN_succ, any_allN n (by omega), okAt_in (by omega), List.take_succ_eq_append_getElem (by omega), List.any_append]
    simp [Bool.not_or]
/-- a session -/
structure GSes where
  sys : GSys
  nl : Bool
  ctx : GCtx
  term : GTerm
def GSes.cells (x : GSes) : List LV := x.sys.cells ++ (LC x.nl x.ctx :: x.term.cells)
abbrev GSes.lv (x : GSes) : LV := .agg x.cells
def GSes.wf (x : GSes) : Prop := x.sys.wf ∧ x.ctx.wf ∧ x.term.wf
def GSes.ok (x : GSes) : Bool := x.sys.sys && (ctxB x.sys.size x.ctx && x.term.writ)
end Go.Proofs.Yticcekapikfhaaa
