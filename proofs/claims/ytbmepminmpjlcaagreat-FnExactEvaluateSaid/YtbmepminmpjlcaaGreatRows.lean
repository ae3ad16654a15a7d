/-
  NARROWER THAN 'FOR EVERY INPUT', by the rows' own cells (each row's printed sentence says how): FnExactRunProgram: loops · FnExactEvaluate: loops · FnExactDependsOn: loops · FnExactTableOf: loops.
  DERIVED. THE GIVEN ROWS OF THIS SEAT. 4 by the template 'for every input the law returns true; each argument reads behind the call as it read before'; 0 by the template 'total and deterministic' (their statements: YtbmepminmpjlcaaGreatTotals.lean).
  GIVEN WITH THE SEED: the statements are not yours to turn. If you find one false, say at which input.
  Laid BY PROGRAM, IN A SANDBOX (cutbox-rows.mjs): the forced cells as the released guide's own fill.sh prints them over the translation a14041ecbe779018… (all of the seat's roots in one cut). By AI agents, Wed Nov 11 2026. No macro, syntax, notation, axiom, sorry.
-/
import Derived.Test.YtbmepminmpjlcaaGreatChecked
import GoSem.Claim
import GoSem.ClaimJoined
import GoSem.ClaimMapViews
import Derived.JoinedTies
import Derived.KernelRfl
namespace Go.Proofs.YtbmepminmpjlcaaGreat
/- THE CELL 'sum', in the pinned program and in every row, IS THE sha256 OF THE DUMP (.gsa) THAT YtbmepminmpjlcaaGreatProg.lean LOADS. Nothing in Lean hashes anything: it is a label: what it is worth is what the hold of that sum in a sandbox is worth. -/
noncomputable def Tryz.pinned : Pinned := { name := "ytbmepminmpjlcaagreat", sum := "a14041ecbe7790185ede537a4fce326c4cc231b99e47a3fe65f6c8f67906f950", checked := Tryz.checked }
namespace Rows
def none {H : Type} : Left H := { results := [], args := [] }

/-- 'laws.FnExactRunProgram': WHATEVER THE INPUT: true; the input reads as it did. -/
def fnExactRunProgramSpec : ChangeSpec := { name := "fnExactRunProgram", fn := fun _ => fun
  | [d1, d2] => { results := [.lit (.bool true)], args := [d1, d2] }
  | _ => none }
def fnExactRunProgramRow : OpenClaim := { program := "ytbmepminmpjlcaagreat", sum := "a14041ecbe7790185ede537a4fce326c4cc231b99e47a3fe65f6c8f67906f950", func := "loop.example/g03111/laws.FnExactRunProgram", spec := "fnExactRunProgram", unfollowed := true, recurses := true, loops := true, apart := false }
def FnExactRunProgramSaid : Prop := fnExactRunProgramRow.holds Tryz.pinned (OpenSpec.ofChange fnExactRunProgramSpec)

/-- ITS FALSE NEIGHBOUR: 'it returns false'. Refute it at one input. -/
def fnExactRunProgramWrong : ChangeSpec := { name := "fnExactRunProgram", fn := fun _ => fun
  | [d1, d2] => { results := [.lit (.bool false)], args := [d1, d2] }
  | _ => none }
def FnExactRunProgramWrongFalsely : Prop := fnExactRunProgramRow.holds Tryz.pinned (OpenSpec.ofChange fnExactRunProgramWrong)

/-- 'laws.FnExactEvaluate': WHATEVER THE INPUT: true; the input reads as it did. -/
def fnExactEvaluateSpec : ChangeSpec := { name := "fnExactEvaluate", fn := fun _ => fun
  | [d1, d2, d3, d4] => { results := [.lit (.bool true)], args := [d1, d2, d3, d4] }
  | _ => none }
def fnExactEvaluateRow : OpenClaim := { program := "ytbmepminmpjlcaagreat", sum := "a14041ecbe7790185ede537a4fce326c4cc231b99e47a3fe65f6c8f67906f950", func := "loop.example/g03111/laws.FnExactEvaluate", spec := "fnExactEvaluate", unfollowed := true, recurses := true, loops := true, apart := false }
def FnExactEvaluateSaid : Prop := fnExactEvaluateRow.holds Tryz.pinned (OpenSpec.ofChange fnExactEvaluateSpec)

/-- ITS FALSE NEIGHBOUR: 'it returns false'. Refute it at one input. -/
def fnExactEvaluateWrong : ChangeSpec := { name := "fnExactEvaluate", fn := fun _ => fun
  | [d1, d2, d3, d4] => { results := [.lit (.bool false)], args := [d1, d2, d3, d4] }
  | _ => none }
def FnExactEvaluateWrongFalsely : Prop := fnExactEvaluateRow.holds Tryz.pinned (OpenSpec.ofChange fnExactEvaluateWrong)

/-- 'laws.FnExactDependsOn': WHATEVER THE INPUT: true; the input reads as it did. -/
def fnExactDependsOnSpec : ChangeSpec := { name := "fnExactDependsOn", fn := fun _ => fun
  | [d1, d2, d3, d4] => { results := [.lit (.bool true)], args := [d1, d2, d3, d4] }
  | _ => none }
def fnExactDependsOnRow : OpenClaim := { program := "ytbmepminmpjlcaagreat", sum := "a14041ecbe7790185ede537a4fce326c4cc231b99e47a3fe65f6c8f67906f950", func := "loop.example/g03111/laws.FnExactDependsOn", spec := "fnExactDependsOn", unfollowed := true, recurses := true, loops := true, apart := false }
def FnExactDependsOnSaid : Prop := fnExactDependsOnRow.holds Tryz.pinned (OpenSpec.ofChange fnExactDependsOnSpec)

/-- ITS FALSE NEIGHBOUR: 'it returns false'. Refute it at one input. -/
def fnExactDependsOnWrong : ChangeSpec := { name := "fnExactDependsOn", fn := fun _ => fun
  | [d1, d2, d3, d4] => { results := [.lit (.bool false)], args := [d1, d2, d3, d4] }
  | _ => none }
def FnExactDependsOnWrongFalsely : Prop := fnExactDependsOnRow.holds Tryz.pinned (OpenSpec.ofChange fnExactDependsOnWrong)

/-- 'laws.FnExactTableOf': WHATEVER THE INPUT: true; the input reads as it did. -/
def fnExactTableOfSpec : ChangeSpec := { name := "fnExactTableOf", fn := fun _ => fun
  | [d1, d2, d3] => { results := [.lit (.bool true)], args := [d1, d2, d3] }
  | _ => none }
def fnExactTableOfRow : OpenClaim := { program := "ytbmepminmpjlcaagreat", sum := "a14041ecbe7790185ede537a4fce326c4cc231b99e47a3fe65f6c8f67906f950", func := "loop.example/g03111/laws.FnExactTableOf", spec := "fnExactTableOf", unfollowed := true, recurses := true, loops := true, apart := false }
def FnExactTableOfSaid : Prop := fnExactTableOfRow.holds Tryz.pinned (OpenSpec.ofChange fnExactTableOfSpec)

/-- ITS FALSE NEIGHBOUR: 'it returns false'. Refute it at one input. -/
def fnExactTableOfWrong : ChangeSpec := { name := "fnExactTableOf", fn := fun _ => fun
  | [d1, d2, d3] => { results := [.lit (.bool false)], args := [d1, d2, d3] }
  | _ => none }
def FnExactTableOfWrongFalsely : Prop := fnExactTableOfRow.holds Tryz.pinned (OpenSpec.ofChange fnExactTableOfWrong)

/- THE SECOND FORM. 'bulk': how many values and letters a reading holds, each counted each time it is reached (what is shared counts as often as it is met; a slice's spare places count too). A statement '..UptoSaid' is the law's where the arguments, and the package variables that the reading takes, are together of bulk at most 1048576: NARROWER than '..Said'. Prove '..Said' where nothing that the law and all that it calls make is longer than what came in: it says more and counts as full. Else prove '..UptoSaid'. A law counts once. -/
mutual
def uptoBulk {H : Type} : DataW H → Nat
  | .lit (.string bytes) => bytes.length + 1
  | .lit _ => 1
  | .nil => 1
  | .ptr d => uptoBulk d + 1
  | .slice elems spare => uptoBulkAll elems + uptoBulkAll spare + 1
  | .agg parts => uptoBulkAll parts + 1
  | .iface _ d => uptoBulk d + 1
  | .map entries => uptoBulkEntries entries + 1
  | .held _ => 1
def uptoBulkAll {H : Type} : List (DataW H) → Nat
  | [] => 0
  | d :: r => uptoBulk d + uptoBulkAll r
def uptoBulkEntries {H : Type} : List (Lit × DataW H) → Nat
  | [] => 0
  | x :: r => uptoBulkEntry x + uptoBulkEntries r
def uptoBulkEntry {H : Type} : Lit × DataW H → Nat
  | (.string bytes, d) => bytes.length + uptoBulk d + 1
  | (_, d) => uptoBulk d + 1
 end
def uptoSmall : (H : Type) → List (DataW H) → Bool := fun _ ds => decide (uptoBulkAll ds ≤ 1048576)
def OpenSpec.upto (s : _root_.Go.ChangeSpec) : _root_.Go.OpenSpec := { _root_.Go.OpenSpec.ofChange s with cond := some uptoSmall }

/-- 'laws.FnExactRunProgram', WHERE WHAT IT READS IS OF BULK AT MOST 1048576: true; the input reads as it did. -/
def fnExactRunProgramUptoRow : OpenClaim := { program := "ytbmepminmpjlcaagreat", sum := "a14041ecbe7790185ede537a4fce326c4cc231b99e47a3fe65f6c8f67906f950", func := "loop.example/g03111/laws.FnExactRunProgram", spec := "fnExactRunProgram", unfollowed := true, recurses := true, loops := true, apart := false, narrowed := true }
def FnExactRunProgramUptoSaid : Prop := fnExactRunProgramUptoRow.holds Tryz.pinned (OpenSpec.upto fnExactRunProgramSpec)

/-- 'laws.FnExactEvaluate', WHERE WHAT IT READS IS OF BULK AT MOST 1048576: true; the input reads as it did. -/
def fnExactEvaluateUptoRow : OpenClaim := { program := "ytbmepminmpjlcaagreat", sum := "a14041ecbe7790185ede537a4fce326c4cc231b99e47a3fe65f6c8f67906f950", func := "loop.example/g03111/laws.FnExactEvaluate", spec := "fnExactEvaluate", unfollowed := true, recurses := true, loops := true, apart := false, narrowed := true }
def FnExactEvaluateUptoSaid : Prop := fnExactEvaluateUptoRow.holds Tryz.pinned (OpenSpec.upto fnExactEvaluateSpec)

/-- 'laws.FnExactDependsOn', WHERE WHAT IT READS IS OF BULK AT MOST 1048576: true; the input reads as it did. -/
def fnExactDependsOnUptoRow : OpenClaim := { program := "ytbmepminmpjlcaagreat", sum := "a14041ecbe7790185ede537a4fce326c4cc231b99e47a3fe65f6c8f67906f950", func := "loop.example/g03111/laws.FnExactDependsOn", spec := "fnExactDependsOn", unfollowed := true, recurses := true, loops := true, apart := false, narrowed := true }
def FnExactDependsOnUptoSaid : Prop := fnExactDependsOnUptoRow.holds Tryz.pinned (OpenSpec.upto fnExactDependsOnSpec)

/-- 'laws.FnExactTableOf', WHERE WHAT IT READS IS OF BULK AT MOST 1048576: true; the input reads as it did. -/
def fnExactTableOfUptoRow : OpenClaim := { program := "ytbmepminmpjlcaagreat", sum := "a14041ecbe7790185ede537a4fce326c4cc231b99e47a3fe65f6c8f67906f950", func := "loop.example/g03111/laws.FnExactTableOf", spec := "fnExactTableOf", unfollowed := true, recurses := true, loops := true, apart := false, narrowed := true }
def FnExactTableOfUptoSaid : Prop := fnExactTableOfUptoRow.holds Tryz.pinned (OpenSpec.upto fnExactTableOfSpec)

end Rows
end Go.Proofs.YtbmepminmpjlcaaGreat
