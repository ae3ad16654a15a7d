/-
  No cell of these rows narrows 'for every input' (looked for: loops, veiled, ifaces, maps, wideKeys, modest, calm, conditions, laid).
  DERIVED. THE GIVEN ROWS OF THIS SEAT. 4 by the template 'for every input the law returns true; each argument reads behind the call as it read before'; 0 by the template 'total and deterministic' (their statements: YticcekapikfhaaaTotals.lean).
  GIVEN WITH THE SEED: the statements are not yours to turn. If you find one false, say at which input.
  Laid BY PROGRAM, IN A SANDBOX (cutbox-rows.mjs): the forced cells as the released guide's own fill.sh prints them over the translation 6d2a42ce51c4c5d8… (all of the seat's roots in one cut). By AI agents, Wed Nov 11 2026. No macro, syntax, notation, axiom, sorry.
-/
import Derived.Test.YticcekapikfhaaaChecked
import GoSem.Claim
import GoSem.ClaimJoined
import GoSem.ClaimMapViews
import Derived.JoinedTies
import Derived.KernelRfl
namespace Go.Proofs.Yticcekapikfhaaa
/- THE CELL 'sum', in the pinned program and in every row, IS THE sha256 OF THE DUMP (.gsa) THAT YticcekapikfhaaaProg.lean LOADS. Nothing in Lean hashes anything: it is a label: what it is worth is what the hold of that sum in a sandbox is worth. -/
noncomputable def Try.pinned : Pinned := { name := "yticcekapikfhaaa", sum := "6d2a42ce51c4c5d89fea891ae39d5f8a45e93e7a7e4a9d8c66eb4e1fcdb90b66", checked := Try.checked }
namespace Rows
def none {H : Type} : Left H := { results := [], args := [] }

/-- 'laws.FnExactForgetType': WHATEVER THE INPUT: true; the input reads as it did. -/
def fnExactForgetTypeSpec : ChangeSpec := { name := "fnExactForgetType", fn := fun _ => fun
  | [d] => { results := [.lit (.bool true)], args := [d] }
  | _ => none }
def fnExactForgetTypeRow : OpenClaim := { program := "yticcekapikfhaaa", sum := "6d2a42ce51c4c5d89fea891ae39d5f8a45e93e7a7e4a9d8c66eb4e1fcdb90b66", func := "loop.example/g03111/laws.FnExactForgetType", spec := "fnExactForgetType", recurses := true, apart := false }
def FnExactForgetTypeSaid : Prop := fnExactForgetTypeRow.holds Try.pinned (OpenSpec.ofChange fnExactForgetTypeSpec)

/-- ITS FALSE NEIGHBOUR: 'it returns false'. Refute it at one input. -/
def fnExactForgetTypeWrong : ChangeSpec := { name := "fnExactForgetType", fn := fun _ => fun
  | [d] => { results := [.lit (.bool false)], args := [d] }
  | _ => none }
def FnExactForgetTypeWrongFalsely : Prop := fnExactForgetTypeRow.holds Try.pinned (OpenSpec.ofChange fnExactForgetTypeWrong)

/-- 'laws.FnExactBoxType': WHATEVER THE INPUT: true; the input reads as it did. -/
def fnExactBoxTypeSpec : ChangeSpec := { name := "fnExactBoxType", fn := fun _ => fun
  | [d] => { results := [.lit (.bool true)], args := [d] }
  | _ => none }
def fnExactBoxTypeRow : OpenClaim := { program := "yticcekapikfhaaa", sum := "6d2a42ce51c4c5d89fea891ae39d5f8a45e93e7a7e4a9d8c66eb4e1fcdb90b66", func := "loop.example/g03111/laws.FnExactBoxType", spec := "fnExactBoxType", recurses := true, apart := false }
def FnExactBoxTypeSaid : Prop := fnExactBoxTypeRow.holds Try.pinned (OpenSpec.ofChange fnExactBoxTypeSpec)

/-- ITS FALSE NEIGHBOUR: 'it returns false'. Refute it at one input. -/
def fnExactBoxTypeWrong : ChangeSpec := { name := "fnExactBoxType", fn := fun _ => fun
  | [d] => { results := [.lit (.bool false)], args := [d] }
  | _ => none }
def FnExactBoxTypeWrongFalsely : Prop := fnExactBoxTypeRow.holds Try.pinned (OpenSpec.ofChange fnExactBoxTypeWrong)

/-- 'laws.FnExactNewSession': WHATEVER THE INPUT: true; the input reads as it did. -/
def fnExactNewSessionSpec : ChangeSpec := { name := "fnExactNewSession", fn := fun _ => fun
  | [] => { results := [.lit (.bool true)], args := [] }
  | _ => none }
def fnExactNewSessionRow : OpenClaim := { program := "yticcekapikfhaaa", sum := "6d2a42ce51c4c5d89fea891ae39d5f8a45e93e7a7e4a9d8c66eb4e1fcdb90b66", func := "loop.example/g03111/laws.FnExactNewSession", spec := "fnExactNewSession", unfollowed := true, recurses := true, apart := false }
def FnExactNewSessionSaid : Prop := fnExactNewSessionRow.holds Try.pinned (OpenSpec.ofChange fnExactNewSessionSpec)

/-- ITS FALSE NEIGHBOUR: 'it returns false'. Refute it at one input. -/
def fnExactNewSessionWrong : ChangeSpec := { name := "fnExactNewSession", fn := fun _ => fun
  | [] => { results := [.lit (.bool false)], args := [] }
  | _ => none }
def FnExactNewSessionWrongFalsely : Prop := fnExactNewSessionRow.holds Try.pinned (OpenSpec.ofChange fnExactNewSessionWrong)

/-- 'laws.FnForgetsBoxes': WHATEVER THE INPUT: true; the input reads as it did. -/
def fnForgetsBoxesSpec : ChangeSpec := { name := "fnForgetsBoxes", fn := fun _ => fun
  | [d] => { results := [.lit (.bool true)], args := [d] }
  | _ => none }
def fnForgetsBoxesRow : OpenClaim := { program := "yticcekapikfhaaa", sum := "6d2a42ce51c4c5d89fea891ae39d5f8a45e93e7a7e4a9d8c66eb4e1fcdb90b66", func := "loop.example/g03111/laws.FnForgetsBoxes", spec := "fnForgetsBoxes", recurses := true, apart := false }
def FnForgetsBoxesSaid : Prop := fnForgetsBoxesRow.holds Try.pinned (OpenSpec.ofChange fnForgetsBoxesSpec)

/-- ITS FALSE NEIGHBOUR: 'it returns false'. Refute it at one input. -/
def fnForgetsBoxesWrong : ChangeSpec := { name := "fnForgetsBoxes", fn := fun _ => fun
  | [d] => { results := [.lit (.bool false)], args := [d] }
  | _ => none }
def FnForgetsBoxesWrongFalsely : Prop := fnForgetsBoxesRow.holds Try.pinned (OpenSpec.ofChange fnForgetsBoxesWrong)

/- THE SECOND FORM. 'bulk': how many values and letters a reading holds, each counted each time it is reached (what is shared counts as often as it is met; a slice's spare places count too). A statement '..UptoSaid' is the law's where the arguments, and the package variables that the reading takes, are together of bulk at most 1048576: NARROWER than '..Said'. Prove '..Said' where nothing that the law and all that it calls make is longer than what came in: it says more and counts as full. Else prove '..UptoSaid'. A law counts once. -/
mutual
def uptoBulk {H : Type} : DataW H → Nat
  | .lit (.string bytes) => bytes.length + 1
  | .lit _ => 1
  | .nil => 1
  | .ptr d => uptoBulk d + 1
  | .slice elems spare => uptoBulkAll elems + uptoBulkAll spare + 1
  | .agg parts => uptoBulkAll parts + 1
  | .iface _ d => uptoBulk d + 1
  | .map entries => uptoBulkEntries entries + 1
  | .held _ => 1
def uptoBulkAll {H : Type} : List (DataW H) → Nat
  | [] => 0
  | d :: r => uptoBulk d + uptoBulkAll r
def uptoBulkEntries {H : Type} : List (Lit × DataW H) → Nat
  | [] => 0
  | x :: r => uptoBulkEntry x + uptoBulkEntries r
def uptoBulkEntry {H : Type} : Lit × DataW H → Nat
  | (.string bytes, d) => bytes.length + uptoBulk d + 1
  | (_, d) => uptoBulk d + 1
 end
def uptoSmall : (H : Type) → List (DataW H) → Bool := fun _ ds => decide (uptoBulkAll ds ≤ 1048576)
def OpenSpec.upto (s : _root_.Go.ChangeSpec) : _root_.Go.OpenSpec := { _root_.Go.OpenSpec.ofChange s with cond := some uptoSmall }

/-- 'laws.FnExactForgetType', WHERE WHAT IT READS IS OF BULK AT MOST 1048576: true; the input reads as it did. -/
def fnExactForgetTypeUptoRow : OpenClaim := { program := "yticcekapikfhaaa", sum := "6d2a42ce51c4c5d89fea891ae39d5f8a45e93e7a7e4a9d8c66eb4e1fcdb90b66", func := "loop.example/g03111/laws.FnExactForgetType", spec := "fnExactForgetType", recurses := true, apart := false, narrowed := true }
def FnExactForgetTypeUptoSaid : Prop := fnExactForgetTypeUptoRow.holds Try.pinned (OpenSpec.upto fnExactForgetTypeSpec)

/-- 'laws.FnExactBoxType', WHERE WHAT IT READS IS OF BULK AT MOST 1048576: true; the input reads as it did. -/
def fnExactBoxTypeUptoRow : OpenClaim := { program := "yticcekapikfhaaa", sum := "6d2a42ce51c4c5d89fea891ae39d5f8a45e93e7a7e4a9d8c66eb4e1fcdb90b66", func := "loop.example/g03111/laws.FnExactBoxType", spec := "fnExactBoxType", recurses := true, apart := false, narrowed := true }
def FnExactBoxTypeUptoSaid : Prop := fnExactBoxTypeUptoRow.holds Try.pinned (OpenSpec.upto fnExactBoxTypeSpec)

/-- 'laws.FnExactNewSession', WHERE WHAT IT READS IS OF BULK AT MOST 1048576: true; the input reads as it did. -/
def fnExactNewSessionUptoRow : OpenClaim := { program := "yticcekapikfhaaa", sum := "6d2a42ce51c4c5d89fea891ae39d5f8a45e93e7a7e4a9d8c66eb4e1fcdb90b66", func := "loop.example/g03111/laws.FnExactNewSession", spec := "fnExactNewSession", unfollowed := true, recurses := true, apart := false, narrowed := true }
def FnExactNewSessionUptoSaid : Prop := fnExactNewSessionUptoRow.holds Try.pinned (OpenSpec.upto fnExactNewSessionSpec)

/-- 'laws.FnForgetsBoxes', WHERE WHAT IT READS IS OF BULK AT MOST 1048576: true; the input reads as it did. -/
def fnForgetsBoxesUptoRow : OpenClaim := { program := "yticcekapikfhaaa", sum := "6d2a42ce51c4c5d89fea891ae39d5f8a45e93e7a7e4a9d8c66eb4e1fcdb90b66", func := "loop.example/g03111/laws.FnForgetsBoxes", spec := "fnForgetsBoxes", recurses := true, apart := false, narrowed := true }
def FnForgetsBoxesUptoSaid : Prop := fnForgetsBoxesUptoRow.holds Try.pinned (OpenSpec.upto fnForgetsBoxesSpec)

end Rows
end Go.Proofs.Yticcekapikfhaaa
