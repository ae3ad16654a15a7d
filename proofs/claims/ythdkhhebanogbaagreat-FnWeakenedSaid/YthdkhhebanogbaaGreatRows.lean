/-
  NARROWER THAN 'FOR EVERY INPUT', by the rows' own cells (each row's printed sentence says how): FnExactRunProgram: loops · FnExactEvaluate: loops · FnExactDependsOn: loops · FnExactTableOf: loops.
  DERIVED. THE GIVEN ROWS OF THIS SEAT. 12 by the template 'for every input the law returns true; each argument reads behind the call as it read before'; 0 by the template 'total and deterministic' (their statements: YthdkhhebanogbaaGreatTotals.lean).
  GIVEN WITH THE SEED: the statements are not yours to turn. If you find one false, say at which input.
  Laid BY PROGRAM, IN A SANDBOX (cutbox-rows.mjs): the forced cells as the released guide's own fill.sh prints them over the translation cf8fd89f24506334… (all of the seat's roots in one cut). By AI agents, Wed Nov 11 2026. No macro, syntax, notation, axiom, sorry.
-/
import Derived.Test.YthdkhhebanogbaaGreatChecked
import GoSem.Claim
import GoSem.ClaimJoined
import GoSem.ClaimMapViews
import Derived.JoinedTies
import Derived.KernelRfl
namespace Go.Proofs.YthdkhhebanogbaaGreat
/- THE CELL 'sum', in the pinned program and in every row, IS THE sha256 OF THE DUMP (.gsa) THAT YthdkhhebanogbaaGreatProg.lean LOADS. Nothing in Lean hashes anything: it is a label: what it is worth is what the hold of that sum in a sandbox is worth. -/
noncomputable def Tryz.pinned : Pinned := { name := "ythdkhhebanogbaagreat", sum := "cf8fd89f24506334fb46590dc91dad07168bc01b539aabb62d09e6600d7cb46a", checked := Tryz.checked }
namespace Rows
def none {H : Type} : Left H := { results := [], args := [] }

/-- 'laws.FnWeakened': WHATEVER THE INPUT: true; the input reads as it did. -/
def fnWeakenedSpec : ChangeSpec := { name := "fnWeakened", fn := fun _ => fun
  | [d] => { results := [.lit (.bool true)], args := [d] }
  | _ => none }
def fnWeakenedRow : OpenClaim := { program := "ythdkhhebanogbaagreat", sum := "cf8fd89f24506334fb46590dc91dad07168bc01b539aabb62d09e6600d7cb46a", func := "loop.example/g03111/laws.FnWeakened", spec := "fnWeakened", unfollowed := true, recurses := true, apart := false }
def FnWeakenedSaid : Prop := fnWeakenedRow.holds Tryz.pinned (OpenSpec.ofChange fnWeakenedSpec)

/-- ITS FALSE NEIGHBOUR: 'it returns false'. Refute it at one input. -/
def fnWeakenedWrong : ChangeSpec := { name := "fnWeakened", fn := fun _ => fun
  | [d] => { results := [.lit (.bool false)], args := [d] }
  | _ => none }
def FnWeakenedWrongFalsely : Prop := fnWeakenedRow.holds Tryz.pinned (OpenSpec.ofChange fnWeakenedWrong)

/-- 'laws.FnExactRunProgram': WHATEVER THE INPUT: true; the input reads as it did. -/
def fnExactRunProgramSpec : ChangeSpec := { name := "fnExactRunProgram", fn := fun _ => fun
  | [d1, d2] => { results := [.lit (.bool true)], args := [d1, d2] }
  | _ => none }
def fnExactRunProgramRow : OpenClaim := { program := "ythdkhhebanogbaagreat", sum := "cf8fd89f24506334fb46590dc91dad07168bc01b539aabb62d09e6600d7cb46a", func := "loop.example/g03111/laws.FnExactRunProgram", spec := "fnExactRunProgram", unfollowed := true, recurses := true, loops := true, apart := false }
def FnExactRunProgramSaid : Prop := fnExactRunProgramRow.holds Tryz.pinned (OpenSpec.ofChange fnExactRunProgramSpec)

/-- ITS FALSE NEIGHBOUR: 'it returns false'. Refute it at one input. -/
def fnExactRunProgramWrong : ChangeSpec := { name := "fnExactRunProgram", fn := fun _ => fun
  | [d1, d2] => { results := [.lit (.bool false)], args := [d1, d2] }
  | _ => none }
def FnExactRunProgramWrongFalsely : Prop := fnExactRunProgramRow.holds Tryz.pinned (OpenSpec.ofChange fnExactRunProgramWrong)

/-- 'laws.FnSound': WHATEVER THE INPUT: true; the input reads as it did. -/
def fnSoundSpec : ChangeSpec := { name := "fnSound", fn := fun _ => fun
  | [d] => { results := [.lit (.bool true)], args := [d] }
  | _ => none }
def fnSoundRow : OpenClaim := { program := "ythdkhhebanogbaagreat", sum := "cf8fd89f24506334fb46590dc91dad07168bc01b539aabb62d09e6600d7cb46a", func := "loop.example/g03111/laws.FnSound", spec := "fnSound", unfollowed := true, recurses := true, apart := false }
def FnSoundSaid : Prop := fnSoundRow.holds Tryz.pinned (OpenSpec.ofChange fnSoundSpec)

/-- ITS FALSE NEIGHBOUR: 'it returns false'. Refute it at one input. -/
def fnSoundWrong : ChangeSpec := { name := "fnSound", fn := fun _ => fun
  | [d] => { results := [.lit (.bool false)], args := [d] }
  | _ => none }
def FnSoundWrongFalsely : Prop := fnSoundRow.holds Tryz.pinned (OpenSpec.ofChange fnSoundWrong)

/-- 'laws.FnBudgetsRaised': WHATEVER THE INPUT: true; the input reads as it did. -/
def fnBudgetsRaisedSpec : ChangeSpec := { name := "fnBudgetsRaised", fn := fun _ => fun
  | [d] => { results := [.lit (.bool true)], args := [d] }
  | _ => none }
def fnBudgetsRaisedRow : OpenClaim := { program := "ythdkhhebanogbaagreat", sum := "cf8fd89f24506334fb46590dc91dad07168bc01b539aabb62d09e6600d7cb46a", func := "loop.example/g03111/laws.FnBudgetsRaised", spec := "fnBudgetsRaised", unfollowed := true, recurses := true, apart := false }
def FnBudgetsRaisedSaid : Prop := fnBudgetsRaisedRow.holds Tryz.pinned (OpenSpec.ofChange fnBudgetsRaisedSpec)

/-- ITS FALSE NEIGHBOUR: 'it returns false'. Refute it at one input. -/
def fnBudgetsRaisedWrong : ChangeSpec := { name := "fnBudgetsRaised", fn := fun _ => fun
  | [d] => { results := [.lit (.bool false)], args := [d] }
  | _ => none }
def FnBudgetsRaisedWrongFalsely : Prop := fnBudgetsRaisedRow.holds Tryz.pinned (OpenSpec.ofChange fnBudgetsRaisedWrong)

/-- 'laws.FnExactEvaluate': WHATEVER THE INPUT: true; the input reads as it did. -/
def fnExactEvaluateSpec : ChangeSpec := { name := "fnExactEvaluate", fn := fun _ => fun
  | [d1, d2, d3, d4] => { results := [.lit (.bool true)], args := [d1, d2, d3, d4] }
  | _ => none }
def fnExactEvaluateRow : OpenClaim := { program := "ythdkhhebanogbaagreat", sum := "cf8fd89f24506334fb46590dc91dad07168bc01b539aabb62d09e6600d7cb46a", func := "loop.example/g03111/laws.FnExactEvaluate", spec := "fnExactEvaluate", unfollowed := true, recurses := true, loops := true, apart := false }
def FnExactEvaluateSaid : Prop := fnExactEvaluateRow.holds Tryz.pinned (OpenSpec.ofChange fnExactEvaluateSpec)

/-- ITS FALSE NEIGHBOUR: 'it returns false'. Refute it at one input. -/
def fnExactEvaluateWrong : ChangeSpec := { name := "fnExactEvaluate", fn := fun _ => fun
  | [d1, d2, d3, d4] => { results := [.lit (.bool false)], args := [d1, d2, d3, d4] }
  | _ => none }
def FnExactEvaluateWrongFalsely : Prop := fnExactEvaluateRow.holds Tryz.pinned (OpenSpec.ofChange fnExactEvaluateWrong)

/-- 'laws.FnBooked': WHATEVER THE INPUT: true; the input reads as it did. -/
def fnBookedSpec : ChangeSpec := { name := "fnBooked", fn := fun _ => fun
  | [d] => { results := [.lit (.bool true)], args := [d] }
  | _ => none }
def fnBookedRow : OpenClaim := { program := "ythdkhhebanogbaagreat", sum := "cf8fd89f24506334fb46590dc91dad07168bc01b539aabb62d09e6600d7cb46a", func := "loop.example/g03111/laws.FnBooked", spec := "fnBooked", unfollowed := true, recurses := true, apart := false }
def FnBookedSaid : Prop := fnBookedRow.holds Tryz.pinned (OpenSpec.ofChange fnBookedSpec)

/-- ITS FALSE NEIGHBOUR: 'it returns false'. Refute it at one input. -/
def fnBookedWrong : ChangeSpec := { name := "fnBooked", fn := fun _ => fun
  | [d] => { results := [.lit (.bool false)], args := [d] }
  | _ => none }
def FnBookedWrongFalsely : Prop := fnBookedRow.holds Tryz.pinned (OpenSpec.ofChange fnBookedWrong)

/-- 'laws.FnPreserved': WHATEVER THE INPUT: true; the input reads as it did. -/
def fnPreservedSpec : ChangeSpec := { name := "fnPreserved", fn := fun _ => fun
  | [d] => { results := [.lit (.bool true)], args := [d] }
  | _ => none }
def fnPreservedRow : OpenClaim := { program := "ythdkhhebanogbaagreat", sum := "cf8fd89f24506334fb46590dc91dad07168bc01b539aabb62d09e6600d7cb46a", func := "loop.example/g03111/laws.FnPreserved", spec := "fnPreserved", unfollowed := true, recurses := true, apart := false }
def FnPreservedSaid : Prop := fnPreservedRow.holds Tryz.pinned (OpenSpec.ofChange fnPreservedSpec)

/-- ITS FALSE NEIGHBOUR: 'it returns false'. Refute it at one input. -/
def fnPreservedWrong : ChangeSpec := { name := "fnPreserved", fn := fun _ => fun
  | [d] => { results := [.lit (.bool false)], args := [d] }
  | _ => none }
def FnPreservedWrongFalsely : Prop := fnPreservedRow.holds Tryz.pinned (OpenSpec.ofChange fnPreservedWrong)

/-- 'laws.FnDerived': WHATEVER THE INPUT: true; the input reads as it did. -/
def fnDerivedSpec : ChangeSpec := { name := "fnDerived", fn := fun _ => fun
  | [d] => { results := [.lit (.bool true)], args := [d] }
  | _ => none }
def fnDerivedRow : OpenClaim := { program := "ythdkhhebanogbaagreat", sum := "cf8fd89f24506334fb46590dc91dad07168bc01b539aabb62d09e6600d7cb46a", func := "loop.example/g03111/laws.FnDerived", spec := "fnDerived", unfollowed := true, recurses := true, apart := false }
def FnDerivedSaid : Prop := fnDerivedRow.holds Tryz.pinned (OpenSpec.ofChange fnDerivedSpec)

/-- ITS FALSE NEIGHBOUR: 'it returns false'. Refute it at one input. -/
def fnDerivedWrong : ChangeSpec := { name := "fnDerived", fn := fun _ => fun
  | [d] => { results := [.lit (.bool false)], args := [d] }
  | _ => none }
def FnDerivedWrongFalsely : Prop := fnDerivedRow.holds Tryz.pinned (OpenSpec.ofChange fnDerivedWrong)

/-- 'laws.FnMapped': WHATEVER THE INPUT: true; the input reads as it did. -/
def fnMappedSpec : ChangeSpec := { name := "fnMapped", fn := fun _ => fun
  | [d] => { results := [.lit (.bool true)], args := [d] }
  | _ => none }
def fnMappedRow : OpenClaim := { program := "ythdkhhebanogbaagreat", sum := "cf8fd89f24506334fb46590dc91dad07168bc01b539aabb62d09e6600d7cb46a", func := "loop.example/g03111/laws.FnMapped", spec := "fnMapped", unfollowed := true, recurses := true, apart := false }
def FnMappedSaid : Prop := fnMappedRow.holds Tryz.pinned (OpenSpec.ofChange fnMappedSpec)

/-- ITS FALSE NEIGHBOUR: 'it returns false'. Refute it at one input. -/
def fnMappedWrong : ChangeSpec := { name := "fnMapped", fn := fun _ => fun
  | [d] => { results := [.lit (.bool false)], args := [d] }
  | _ => none }
def FnMappedWrongFalsely : Prop := fnMappedRow.holds Tryz.pinned (OpenSpec.ofChange fnMappedWrong)

/-- 'laws.FnBoxed': WHATEVER THE INPUT: true; the input reads as it did. -/
def fnBoxedSpec : ChangeSpec := { name := "fnBoxed", fn := fun _ => fun
  | [d] => { results := [.lit (.bool true)], args := [d] }
  | _ => none }
def fnBoxedRow : OpenClaim := { program := "ythdkhhebanogbaagreat", sum := "cf8fd89f24506334fb46590dc91dad07168bc01b539aabb62d09e6600d7cb46a", func := "loop.example/g03111/laws.FnBoxed", spec := "fnBoxed", unfollowed := true, recurses := true, apart := false }
def FnBoxedSaid : Prop := fnBoxedRow.holds Tryz.pinned (OpenSpec.ofChange fnBoxedSpec)

/-- ITS FALSE NEIGHBOUR: 'it returns false'. Refute it at one input. -/
def fnBoxedWrong : ChangeSpec := { name := "fnBoxed", fn := fun _ => fun
  | [d] => { results := [.lit (.bool false)], args := [d] }
  | _ => none }
def FnBoxedWrongFalsely : Prop := fnBoxedRow.holds Tryz.pinned (OpenSpec.ofChange fnBoxedWrong)

/-- 'laws.FnExactDependsOn': WHATEVER THE INPUT: true; the input reads as it did. -/
def fnExactDependsOnSpec : ChangeSpec := { name := "fnExactDependsOn", fn := fun _ => fun
  | [d1, d2, d3, d4] => { results := [.lit (.bool true)], args := [d1, d2, d3, d4] }
  | _ => none }
def fnExactDependsOnRow : OpenClaim := { program := "ythdkhhebanogbaagreat", sum := "cf8fd89f24506334fb46590dc91dad07168bc01b539aabb62d09e6600d7cb46a", func := "loop.example/g03111/laws.FnExactDependsOn", spec := "fnExactDependsOn", unfollowed := true, recurses := true, loops := true, apart := false }
def FnExactDependsOnSaid : Prop := fnExactDependsOnRow.holds Tryz.pinned (OpenSpec.ofChange fnExactDependsOnSpec)

/-- ITS FALSE NEIGHBOUR: 'it returns false'. Refute it at one input. -/
def fnExactDependsOnWrong : ChangeSpec := { name := "fnExactDependsOn", fn := fun _ => fun
  | [d1, d2, d3, d4] => { results := [.lit (.bool false)], args := [d1, d2, d3, d4] }
  | _ => none }
def FnExactDependsOnWrongFalsely : Prop := fnExactDependsOnRow.holds Tryz.pinned (OpenSpec.ofChange fnExactDependsOnWrong)

/-- 'laws.FnExactTableOf': WHATEVER THE INPUT: true; the input reads as it did. -/
def fnExactTableOfSpec : ChangeSpec := { name := "fnExactTableOf", fn := fun _ => fun
  | [d1, d2, d3] => { results := [.lit (.bool true)], args := [d1, d2, d3] }
  | _ => none }
def fnExactTableOfRow : OpenClaim := { program := "ythdkhhebanogbaagreat", sum := "cf8fd89f24506334fb46590dc91dad07168bc01b539aabb62d09e6600d7cb46a", func := "loop.example/g03111/laws.FnExactTableOf", spec := "fnExactTableOf", unfollowed := true, recurses := true, loops := true, apart := false }
def FnExactTableOfSaid : Prop := fnExactTableOfRow.holds Tryz.pinned (OpenSpec.ofChange fnExactTableOfSpec)

/-- ITS FALSE NEIGHBOUR: 'it returns false'. Refute it at one input. -/
def fnExactTableOfWrong : ChangeSpec := { name := "fnExactTableOf", fn := fun _ => fun
  | [d1, d2, d3] => { results := [.lit (.bool false)], args := [d1, d2, d3] }
  | _ => none }
def FnExactTableOfWrongFalsely : Prop := fnExactTableOfRow.holds Tryz.pinned (OpenSpec.ofChange fnExactTableOfWrong)

/- THE SECOND FORM. 'bulk': how many values and letters a reading holds, each counted each time it is reached (what is shared counts as often as it is met; a slice's spare places count too). A statement '..UptoSaid' is the law's where the arguments, and the package variables that the reading takes, are together of bulk at most 1048576: NARROWER than '..Said'. Prove '..Said' where nothing that the law and all that it calls make is longer than what came in: it says more and counts as full. Else prove '..UptoSaid'. A law counts once. -/
mutual
def uptoBulk {H : Type} : DataW H → Nat
  | .lit (.string bytes) => bytes.length + 1
  | .lit _ => 1
  | .nil => 1
  | .ptr d => uptoBulk d + 1
  | .slice elems spare => uptoBulkAll elems + uptoBulkAll spare + 1
  | .agg parts => uptoBulkAll parts + 1
  | .iface _ d => uptoBulk d + 1
  | .map entries => uptoBulkEntries entries + 1
  | .held _ => 1
def uptoBulkAll {H : Type} : List (DataW H) → Nat
  | [] => 0
  | d :: r => uptoBulk d + uptoBulkAll r
def uptoBulkEntries {H : Type} : List (Lit × DataW H) → Nat
  | [] => 0
  | x :: r => uptoBulkEntry x + uptoBulkEntries r
def uptoBulkEntry {H : Type} : Lit × DataW H → Nat
  | (.string bytes, d) => bytes.length + uptoBulk d + 1
  | (_, d) => uptoBulk d + 1
 end
def uptoSmall : (H : Type) → List (DataW H) → Bool := fun _ ds => decide (uptoBulkAll ds ≤ 1048576)
def OpenSpec.upto (s : _root_.Go.ChangeSpec) : _root_.Go.OpenSpec := { _root_.Go.OpenSpec.ofChange s with cond := some uptoSmall }

/-- 'laws.FnWeakened', WHERE WHAT IT READS IS OF BULK AT MOST 1048576: true; the input reads as it did. -/
def fnWeakenedUptoRow : OpenClaim := { program := "ythdkhhebanogbaagreat", sum := "cf8fd89f24506334fb46590dc91dad07168bc01b539aabb62d09e6600d7cb46a", func := "loop.example/g03111/laws.FnWeakened", spec := "fnWeakened", unfollowed := true, recurses := true, apart := false, narrowed := true }
def FnWeakenedUptoSaid : Prop := fnWeakenedUptoRow.holds Tryz.pinned (OpenSpec.upto fnWeakenedSpec)

/-- 'laws.FnExactRunProgram', WHERE WHAT IT READS IS OF BULK AT MOST 1048576: true; the input reads as it did. -/
def fnExactRunProgramUptoRow : OpenClaim := { program := "ythdkhhebanogbaagreat", sum := "cf8fd89f24506334fb46590dc91dad07168bc01b539aabb62d09e6600d7cb46a", func := "loop.example/g03111/laws.FnExactRunProgram", spec := "fnExactRunProgram", unfollowed := true, recurses := true, loops := true, apart := false, narrowed := true }
def FnExactRunProgramUptoSaid : Prop := fnExactRunProgramUptoRow.holds Tryz.pinned (OpenSpec.upto fnExactRunProgramSpec)

/-- 'laws.FnSound', WHERE WHAT IT READS IS OF BULK AT MOST 1048576: true; the input reads as it did. -/
def fnSoundUptoRow : OpenClaim := { program := "ythdkhhebanogbaagreat", sum := "cf8fd89f24506334fb46590dc91dad07168bc01b539aabb62d09e6600d7cb46a", func := "loop.example/g03111/laws.FnSound", spec := "fnSound", unfollowed := true, recurses := true, apart := false, narrowed := true }
def FnSoundUptoSaid : Prop := fnSoundUptoRow.holds Tryz.pinned (OpenSpec.upto fnSoundSpec)

/-- 'laws.FnBudgetsRaised', WHERE WHAT IT READS IS OF BULK AT MOST 1048576: true; the input reads as it did. -/
def fnBudgetsRaisedUptoRow : OpenClaim := { program := "ythdkhhebanogbaagreat", sum := "cf8fd89f24506334fb46590dc91dad07168bc01b539aabb62d09e6600d7cb46a", func := "loop.example/g03111/laws.FnBudgetsRaised", spec := "fnBudgetsRaised", unfollowed := true, recurses := true, apart := false, narrowed := true }
def FnBudgetsRaisedUptoSaid : Prop := fnBudgetsRaisedUptoRow.holds Tryz.pinned (OpenSpec.upto fnBudgetsRaisedSpec)

/-- 'laws.FnExactEvaluate', WHERE WHAT IT READS IS OF BULK AT MOST 1048576: true; the input reads as it did. -/
def fnExactEvaluateUptoRow : OpenClaim := { program := "ythdkhhebanogbaagreat", sum := "cf8fd89f24506334fb46590dc91dad07168bc01b539aabb62d09e6600d7cb46a", func := "loop.example/g03111/laws.FnExactEvaluate", spec := "fnExactEvaluate", unfollowed := true, recurses := true, loops := true, apart := false, narrowed := true }
def FnExactEvaluateUptoSaid : Prop := fnExactEvaluateUptoRow.holds Tryz.pinned (OpenSpec.upto fnExactEvaluateSpec)

/-- 'laws.FnBooked', WHERE WHAT IT READS IS OF BULK AT MOST 1048576: true; the input reads as it did. -/
def fnBookedUptoRow : OpenClaim := { program := "ythdkhhebanogbaagreat", sum := "cf8fd89f24506334fb46590dc91dad07168bc01b539aabb62d09e6600d7cb46a", func := "loop.example/g03111/laws.FnBooked", spec := "fnBooked", unfollowed := true, recurses := true, apart := false, narrowed := true }
def FnBookedUptoSaid : Prop := fnBookedUptoRow.holds Tryz.pinned (OpenSpec.upto fnBookedSpec)

/-- 'laws.FnPreserved', WHERE WHAT IT READS IS OF BULK AT MOST 1048576: true; the input reads as it did. -/
def fnPreservedUptoRow : OpenClaim := { program := "ythdkhhebanogbaagreat", sum := "cf8fd89f24506334fb46590dc91dad07168bc01b539aabb62d09e6600d7cb46a", func := "loop.example/g03111/laws.FnPreserved", spec := "fnPreserved", unfollowed := true, recurses := true, apart := false, narrowed := true }
def FnPreservedUptoSaid : Prop := fnPreservedUptoRow.holds Tryz.pinned (OpenSpec.upto fnPreservedSpec)

/-- 'laws.FnDerived', WHERE WHAT IT READS IS OF BULK AT MOST 1048576: true; the input reads as it did. -/
def fnDerivedUptoRow : OpenClaim := { program := "ythdkhhebanogbaagreat", sum := "cf8fd89f24506334fb46590dc91dad07168bc01b539aabb62d09e6600d7cb46a", func := "loop.example/g03111/laws.FnDerived", spec := "fnDerived", unfollowed := true, recurses := true, apart := false, narrowed := true }
def FnDerivedUptoSaid : Prop := fnDerivedUptoRow.holds Tryz.pinned (OpenSpec.upto fnDerivedSpec)

/-- 'laws.FnMapped', WHERE WHAT IT READS IS OF BULK AT MOST 1048576: true; the input reads as it did. -/
def fnMappedUptoRow : OpenClaim := { program := "ythdkhhebanogbaagreat", sum := "cf8fd89f24506334fb46590dc91dad07168bc01b539aabb62d09e6600d7cb46a", func := "loop.example/g03111/laws.FnMapped", spec := "fnMapped", unfollowed := true, recurses := true, apart := false, narrowed := true }
def FnMappedUptoSaid : Prop := fnMappedUptoRow.holds Tryz.pinned (OpenSpec.upto fnMappedSpec)

/-- 'laws.FnBoxed', WHERE WHAT IT READS IS OF BULK AT MOST 1048576: true; the input reads as it did. -/
def fnBoxedUptoRow : OpenClaim := { program := "ythdkhhebanogbaagreat", sum := "cf8fd89f24506334fb46590dc91dad07168bc01b539aabb62d09e6600d7cb46a", func := "loop.example/g03111/laws.FnBoxed", spec := "fnBoxed", unfollowed := true, recurses := true, apart := false, narrowed := true }
def FnBoxedUptoSaid : Prop := fnBoxedUptoRow.holds Tryz.pinned (OpenSpec.upto fnBoxedSpec)

/-- 'laws.FnExactDependsOn', WHERE WHAT IT READS IS OF BULK AT MOST 1048576: true; the input reads as it did. -/
def fnExactDependsOnUptoRow : OpenClaim := { program := "ythdkhhebanogbaagreat", sum := "cf8fd89f24506334fb46590dc91dad07168bc01b539aabb62d09e6600d7cb46a", func := "loop.example/g03111/laws.FnExactDependsOn", spec := "fnExactDependsOn", unfollowed := true, recurses := true, loops := true, apart := false, narrowed := true }
def FnExactDependsOnUptoSaid : Prop := fnExactDependsOnUptoRow.holds Tryz.pinned (OpenSpec.upto fnExactDependsOnSpec)

/-- 'laws.FnExactTableOf', WHERE WHAT IT READS IS OF BULK AT MOST 1048576: true; the input reads as it did. -/
def fnExactTableOfUptoRow : OpenClaim := { program := "ythdkhhebanogbaagreat", sum := "cf8fd89f24506334fb46590dc91dad07168bc01b539aabb62d09e6600d7cb46a", func := "loop.example/g03111/laws.FnExactTableOf", spec := "fnExactTableOf", unfollowed := true, recurses := true, loops := true, apart := false, narrowed := true }
def FnExactTableOfUptoSaid : Prop := fnExactTableOfUptoRow.holds Tryz.pinned (OpenSpec.upto fnExactTableOfSpec)

end Rows
end Go.Proofs.YthdkhhebanogbaaGreat
