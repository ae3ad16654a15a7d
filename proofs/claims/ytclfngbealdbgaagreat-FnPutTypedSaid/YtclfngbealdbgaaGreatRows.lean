/-
  NARROWER THAN 'FOR EVERY INPUT', by the rows' own cells (each row's printed sentence says how): FnExactForgetTerm: loops · FnExactBoxTerm: loops.
  DERIVED. THE GIVEN ROWS OF THIS SEAT. 5 by the template 'for every input the law returns true; each argument reads behind the call as it read before'; 0 by the template 'total and deterministic' (their statements: YtclfngbealdbgaaGreatTotals.lean).
  GIVEN WITH THE SEED: the statements are not yours to turn. If you find one false, say at which input.
  Laid BY PROGRAM, IN A SANDBOX (cutbox-rows.mjs): the forced cells as the released guide's own fill.sh prints them over the translation cb5b801470dcb829… (all of the seat's roots in one cut). By AI agents, Wed Nov 11 2026. No macro, syntax, notation, axiom, sorry.
-/
import Derived.Test.YtclfngbealdbgaaGreatChecked
import GoSem.Claim
import GoSem.ClaimJoined
import GoSem.ClaimMapViews
import Derived.JoinedTies
import Derived.KernelRfl
namespace Go.Proofs.YtclfngbealdbgaaGreat
/- THE CELL 'sum', in the pinned program and in every row, IS THE sha256 OF THE DUMP (.gsa) THAT YtclfngbealdbgaaGreatProg.lean LOADS. Nothing in Lean hashes anything: it is a label: what it is worth is what the hold of that sum in a sandbox is worth. -/
noncomputable def Tryz.pinned : Pinned := { name := "ytclfngbealdbgaagreat", sum := "cb5b801470dcb82992e6cad8c43894af429e2728633f0aef5745b702015ed282", checked := Tryz.checked }
namespace Rows
def none {H : Type} : Left H := { results := [], args := [] }

/-- 'laws.FnExactForgetTerm': WHATEVER THE INPUT: true; the input reads as it did. -/
def fnExactForgetTermSpec : ChangeSpec := { name := "fnExactForgetTerm", fn := fun _ => fun
  | [d1, d2, d3] => { results := [.lit (.bool true)], args := [d1, d2, d3] }
  | _ => none }
def fnExactForgetTermRow : OpenClaim := { program := "ytclfngbealdbgaagreat", sum := "cb5b801470dcb82992e6cad8c43894af429e2728633f0aef5745b702015ed282", func := "loop.example/g03111/laws.FnExactForgetTerm", spec := "fnExactForgetTerm", unfollowed := true, recurses := true, loops := true, apart := false }
def FnExactForgetTermSaid : Prop := fnExactForgetTermRow.holds Tryz.pinned (OpenSpec.ofChange fnExactForgetTermSpec)

/-- ITS FALSE NEIGHBOUR: 'it returns false'. Refute it at one input. -/
def fnExactForgetTermWrong : ChangeSpec := { name := "fnExactForgetTerm", fn := fun _ => fun
  | [d1, d2, d3] => { results := [.lit (.bool false)], args := [d1, d2, d3] }
  | _ => none }
def FnExactForgetTermWrongFalsely : Prop := fnExactForgetTermRow.holds Tryz.pinned (OpenSpec.ofChange fnExactForgetTermWrong)

/-- 'laws.FnExactBoxTerm': WHATEVER THE INPUT: true; the input reads as it did. -/
def fnExactBoxTermSpec : ChangeSpec := { name := "fnExactBoxTerm", fn := fun _ => fun
  | [d1, d2, d3] => { results := [.lit (.bool true)], args := [d1, d2, d3] }
  | _ => none }
def fnExactBoxTermRow : OpenClaim := { program := "ytclfngbealdbgaagreat", sum := "cb5b801470dcb82992e6cad8c43894af429e2728633f0aef5745b702015ed282", func := "loop.example/g03111/laws.FnExactBoxTerm", spec := "fnExactBoxTerm", unfollowed := true, recurses := true, loops := true, apart := false }
def FnExactBoxTermSaid : Prop := fnExactBoxTermRow.holds Tryz.pinned (OpenSpec.ofChange fnExactBoxTermSpec)

/-- ITS FALSE NEIGHBOUR: 'it returns false'. Refute it at one input. -/
def fnExactBoxTermWrong : ChangeSpec := { name := "fnExactBoxTerm", fn := fun _ => fun
  | [d1, d2, d3] => { results := [.lit (.bool false)], args := [d1, d2, d3] }
  | _ => none }
def FnExactBoxTermWrongFalsely : Prop := fnExactBoxTermRow.holds Tryz.pinned (OpenSpec.ofChange fnExactBoxTermWrong)

/-- 'laws.FnClosed': WHATEVER THE INPUT: true; the input reads as it did. -/
def fnClosedSpec : ChangeSpec := { name := "fnClosed", fn := fun _ => fun
  | [d] => { results := [.lit (.bool true)], args := [d] }
  | _ => none }
def fnClosedRow : OpenClaim := { program := "ytclfngbealdbgaagreat", sum := "cb5b801470dcb82992e6cad8c43894af429e2728633f0aef5745b702015ed282", func := "loop.example/g03111/laws.FnClosed", spec := "fnClosed", unfollowed := true, recurses := true, apart := false }
def FnClosedSaid : Prop := fnClosedRow.holds Tryz.pinned (OpenSpec.ofChange fnClosedSpec)

/-- ITS FALSE NEIGHBOUR: 'it returns false'. Refute it at one input. -/
def fnClosedWrong : ChangeSpec := { name := "fnClosed", fn := fun _ => fun
  | [d] => { results := [.lit (.bool false)], args := [d] }
  | _ => none }
def FnClosedWrongFalsely : Prop := fnClosedRow.holds Tryz.pinned (OpenSpec.ofChange fnClosedWrong)

/-- 'laws.FnPutTyped': WHATEVER THE INPUT: true; the input reads as it did. -/
def fnPutTypedSpec : ChangeSpec := { name := "fnPutTyped", fn := fun _ => fun
  | [d] => { results := [.lit (.bool true)], args := [d] }
  | _ => none }
def fnPutTypedRow : OpenClaim := { program := "ytclfngbealdbgaagreat", sum := "cb5b801470dcb82992e6cad8c43894af429e2728633f0aef5745b702015ed282", func := "loop.example/g03111/laws.FnPutTyped", spec := "fnPutTyped", unfollowed := true, recurses := true, apart := false }
def FnPutTypedSaid : Prop := fnPutTypedRow.holds Tryz.pinned (OpenSpec.ofChange fnPutTypedSpec)

/-- ITS FALSE NEIGHBOUR: 'it returns false'. Refute it at one input. -/
def fnPutTypedWrong : ChangeSpec := { name := "fnPutTyped", fn := fun _ => fun
  | [d] => { results := [.lit (.bool false)], args := [d] }
  | _ => none }
def FnPutTypedWrongFalsely : Prop := fnPutTypedRow.holds Tryz.pinned (OpenSpec.ofChange fnPutTypedWrong)

/-- 'laws.FnWeakened': WHATEVER THE INPUT: true; the input reads as it did. -/
def fnWeakenedSpec : ChangeSpec := { name := "fnWeakened", fn := fun _ => fun
  | [d] => { results := [.lit (.bool true)], args := [d] }
  | _ => none }
def fnWeakenedRow : OpenClaim := { program := "ytclfngbealdbgaagreat", sum := "cb5b801470dcb82992e6cad8c43894af429e2728633f0aef5745b702015ed282", func := "loop.example/g03111/laws.FnWeakened", spec := "fnWeakened", unfollowed := true, recurses := true, apart := false }
def FnWeakenedSaid : Prop := fnWeakenedRow.holds Tryz.pinned (OpenSpec.ofChange fnWeakenedSpec)

/-- ITS FALSE NEIGHBOUR: 'it returns false'. Refute it at one input. -/
def fnWeakenedWrong : ChangeSpec := { name := "fnWeakened", fn := fun _ => fun
  | [d] => { results := [.lit (.bool false)], args := [d] }
  | _ => none }
def FnWeakenedWrongFalsely : Prop := fnWeakenedRow.holds Tryz.pinned (OpenSpec.ofChange fnWeakenedWrong)

/- THE SECOND FORM. 'bulk': how many values and letters a reading holds, each counted each time it is reached (what is shared counts as often as it is met; a slice's spare places count too). A statement '..UptoSaid' is the law's where the arguments, and the package variables that the reading takes, are together of bulk at most 1048576: NARROWER than '..Said'. Prove '..Said' where nothing that the law and all that it calls make is longer than what came in: it says more and counts as full. Else prove '..UptoSaid'. A law counts once. -/
mutual
def uptoBulk {H : Type} : DataW H → Nat
  | .lit (.string bytes) => bytes.length + 1
  | .lit _ => 1
  | .nil => 1
  | .ptr d => uptoBulk d + 1
  | .slice elems spare => uptoBulkAll elems + uptoBulkAll spare + 1
  | .agg parts => uptoBulkAll parts + 1
  | .iface _ d => uptoBulk d + 1
  | .map entries => uptoBulkEntries entries + 1
  | .held _ => 1
def uptoBulkAll {H : Type} : List (DataW H) → Nat
  | [] => 0
  | d :: r => uptoBulk d + uptoBulkAll r
def uptoBulkEntries {H : Type} : List (Lit × DataW H) → Nat
  | [] => 0
  | x :: r => uptoBulkEntry x + uptoBulkEntries r
def uptoBulkEntry {H : Type} : Lit × DataW H → Nat
  | (.string bytes, d) => bytes.length + uptoBulk d + 1
  | (_, d) => uptoBulk d + 1
 end
def uptoSmall : (H : Type) → List (DataW H) → Bool := fun _ ds => decide (uptoBulkAll ds ≤ 1048576)
def OpenSpec.upto (s : _root_.Go.ChangeSpec) : _root_.Go.OpenSpec := { _root_.Go.OpenSpec.ofChange s with cond := some uptoSmall }

/-- 'laws.FnExactForgetTerm', WHERE WHAT IT READS IS OF BULK AT MOST 1048576: true; the input reads as it did. -/
def fnExactForgetTermUptoRow : OpenClaim := { program := "ytclfngbealdbgaagreat", sum := "cb5b801470dcb82992e6cad8c43894af429e2728633f0aef5745b702015ed282", func := "loop.example/g03111/laws.FnExactForgetTerm", spec := "fnExactForgetTerm", unfollowed := true, recurses := true, loops := true, apart := false, narrowed := true }
def FnExactForgetTermUptoSaid : Prop := fnExactForgetTermUptoRow.holds Tryz.pinned (OpenSpec.upto fnExactForgetTermSpec)

/-- 'laws.FnExactBoxTerm', WHERE WHAT IT READS IS OF BULK AT MOST 1048576: true; the input reads as it did. -/
def fnExactBoxTermUptoRow : OpenClaim := { program := "ytclfngbealdbgaagreat", sum := "cb5b801470dcb82992e6cad8c43894af429e2728633f0aef5745b702015ed282", func := "loop.example/g03111/laws.FnExactBoxTerm", spec := "fnExactBoxTerm", unfollowed := true, recurses := true, loops := true, apart := false, narrowed := true }
def FnExactBoxTermUptoSaid : Prop := fnExactBoxTermUptoRow.holds Tryz.pinned (OpenSpec.upto fnExactBoxTermSpec)

/-- 'laws.FnClosed', WHERE WHAT IT READS IS OF BULK AT MOST 1048576: true; the input reads as it did. -/
def fnClosedUptoRow : OpenClaim := { program := "ytclfngbealdbgaagreat", sum := "cb5b801470dcb82992e6cad8c43894af429e2728633f0aef5745b702015ed282", func := "loop.example/g03111/laws.FnClosed", spec := "fnClosed", unfollowed := true, recurses := true, apart := false, narrowed := true }
def FnClosedUptoSaid : Prop := fnClosedUptoRow.holds Tryz.pinned (OpenSpec.upto fnClosedSpec)

/-- 'laws.FnPutTyped', WHERE WHAT IT READS IS OF BULK AT MOST 1048576: true; the input reads as it did. -/
def fnPutTypedUptoRow : OpenClaim := { program := "ytclfngbealdbgaagreat", sum := "cb5b801470dcb82992e6cad8c43894af429e2728633f0aef5745b702015ed282", func := "loop.example/g03111/laws.FnPutTyped", spec := "fnPutTyped", unfollowed := true, recurses := true, apart := false, narrowed := true }
def FnPutTypedUptoSaid : Prop := fnPutTypedUptoRow.holds Tryz.pinned (OpenSpec.upto fnPutTypedSpec)

/-- 'laws.FnWeakened', WHERE WHAT IT READS IS OF BULK AT MOST 1048576: true; the input reads as it did. -/
def fnWeakenedUptoRow : OpenClaim := { program := "ytclfngbealdbgaagreat", sum := "cb5b801470dcb82992e6cad8c43894af429e2728633f0aef5745b702015ed282", func := "loop.example/g03111/laws.FnWeakened", spec := "fnWeakened", unfollowed := true, recurses := true, apart := false, narrowed := true }
def FnWeakenedUptoSaid : Prop := fnWeakenedUptoRow.holds Tryz.pinned (OpenSpec.upto fnWeakenedSpec)

end Rows
end Go.Proofs.YtclfngbealdbgaaGreat
