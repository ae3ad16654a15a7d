/- Terms: their forms. No conditions. -/
import Derived.Test.YticcekapikfhaaaGi
import Derived.Test.YticcekapikfhaaaGe
namespace Go.Proofs.Yticcekapikfhaaa
open Go Go.TL
open Go.Proofs.Yticcekapikfhaaa.Ty
set_option linter.unusedSimpArgs false
set_option linter.unusedVariables false
set_option maxRecDepth 20000
set_option maxHeartbeats 4000000

/-! forms -/
def numB (nv size : Int) (closed : Bool) (op n : Int) : Bool :=
  if eqB op 0 = true then within n 0 (nv - 1) else if eqB op 1 = true then within n 0 2 else if hasB op = true then ltB n size && (leB (-1) n && (!closed || leB 0 n)) else eqB n 0
def tyB (size : Int) (closed : Bool) (op : Int) (ty : List Int) : Bool := if typedB op = true then wty ty && gradedB size closed ty else eqB ty.length 0
def nodeB (nv size : Int) (closed : Bool) (op n : Int) (ty : List Int) (len : Nat) : Bool := eqB len (manyI op) && (numB nv size closed op n && tyB size closed op ty)
mutual
def formB (nv size : Int) (closed : Bool) : GTerm → Bool
  | .mk op n _ ty _ ks => nodeB nv size closed op n ty ks.length && formsB nv size closed op 0 ks
def formsB (nv size : Int) (closed : Bool) (op : Int) (k : Nat) : List GTerm → Bool
  | [] => true
  | t :: ts => formB (nv + addsI op k) size closed t && formsB nv size closed op (k + 1) ts
end
end Go.Proofs.Yticcekapikfhaaa
