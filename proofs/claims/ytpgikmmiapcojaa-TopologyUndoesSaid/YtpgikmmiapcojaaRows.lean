/-
  No cell of these rows narrows 'for every input' (looked for: loops, veiled, ifaces, maps, wideKeys, modest, calm, conditions, laid).
  DERIVED. THE GIVEN ROWS OF THIS SEAT. 5 by the template 'for every input the law returns true; each argument reads behind the call as it read before'; 0 by the template 'total and deterministic' (their statements: YtpgikmmiapcojaaTotals.lean).
  GIVEN WITH THE SEED: the statements are not yours to turn. If you find one false, say at which input.
  Laid BY PROGRAM, IN A SANDBOX (cutbox-rows.mjs): the forced cells as the released guide's own fill.sh prints them over the translation d3ea592b3ce50b35… (all of the seat's roots in one cut). By AI agents, Wed Nov 11 2026. No macro, syntax, notation, axiom, sorry.
-/
import Derived.Test.YtpgikmmiapcojaaChecked
import GoSem.Claim
import GoSem.ClaimJoined
import GoSem.ClaimMapViews
import Derived.JoinedTies
import Derived.KernelRfl
namespace Go.Proofs.Ytpgikmmiapcojaa
/- THE CELL 'sum', in the pinned program and in every row, IS THE sha256 OF THE DUMP (.gsa) THAT YtpgikmmiapcojaaProg.lean LOADS. Nothing in Lean hashes anything: it is a label: what it is worth is what the hold of that sum in a sandbox is worth. -/
noncomputable def Try.pinned : Pinned := { name := "ytpgikmmiapcojaa", sum := "d3ea592b3ce50b3587d8601e91a3c266b4caeec06d70ac691d04a45d2492c452", checked := Try.checked }
namespace Rows
def none {H : Type} : Left H := { results := [], args := [] }

/-- 'brepkernellaw27.TopologyLimits': WHATEVER THE INPUT: true; the input reads as it did. -/
def topologyLimitsSpec : ChangeSpec := { name := "topologyLimits", fn := fun _ => fun
  | [d] => { results := [.lit (.bool true)], args := [d] }
  | _ => none }
def topologyLimitsRow : OpenClaim := { program := "ytpgikmmiapcojaa", sum := "d3ea592b3ce50b3587d8601e91a3c266b4caeec06d70ac691d04a45d2492c452", func := "brepkernel/brepkernellaw27.TopologyLimits", spec := "topologyLimits", unfollowed := true, recurses := true, apart := false }
def TopologyLimitsSaid : Prop := topologyLimitsRow.holds Try.pinned (OpenSpec.ofChange topologyLimitsSpec)

/-- ITS FALSE NEIGHBOUR: 'it returns false'. Refute it at one input. -/
def topologyLimitsWrong : ChangeSpec := { name := "topologyLimits", fn := fun _ => fun
  | [d] => { results := [.lit (.bool false)], args := [d] }
  | _ => none }
def TopologyLimitsWrongFalsely : Prop := topologyLimitsRow.holds Try.pinned (OpenSpec.ofChange topologyLimitsWrong)

/-- 'brepkernellaw27.TopologySteps': WHATEVER THE INPUT: true; the input reads as it did. -/
def topologyStepsSpec : ChangeSpec := { name := "topologySteps", fn := fun _ => fun
  | [d] => { results := [.lit (.bool true)], args := [d] }
  | _ => none }
def topologyStepsRow : OpenClaim := { program := "ytpgikmmiapcojaa", sum := "d3ea592b3ce50b3587d8601e91a3c266b4caeec06d70ac691d04a45d2492c452", func := "brepkernel/brepkernellaw27.TopologySteps", spec := "topologySteps", unfollowed := true, recurses := true, apart := false }
def TopologyStepsSaid : Prop := topologyStepsRow.holds Try.pinned (OpenSpec.ofChange topologyStepsSpec)

/-- ITS FALSE NEIGHBOUR: 'it returns false'. Refute it at one input. -/
def topologyStepsWrong : ChangeSpec := { name := "topologySteps", fn := fun _ => fun
  | [d] => { results := [.lit (.bool false)], args := [d] }
  | _ => none }
def TopologyStepsWrongFalsely : Prop := topologyStepsRow.holds Try.pinned (OpenSpec.ofChange topologyStepsWrong)

/-- 'brepkernellaw27.TopologyAny': WHATEVER THE INPUT: true; the input reads as it did. -/
def topologyAnySpec : ChangeSpec := { name := "topologyAny", fn := fun _ => fun
  | [d1, d2] => { results := [.lit (.bool true)], args := [d1, d2] }
  | _ => none }
def topologyAnyRow : OpenClaim := { program := "ytpgikmmiapcojaa", sum := "d3ea592b3ce50b3587d8601e91a3c266b4caeec06d70ac691d04a45d2492c452", func := "brepkernel/brepkernellaw27.TopologyAny", spec := "topologyAny", unfollowed := true, recurses := true, apart := false }
def TopologyAnySaid : Prop := topologyAnyRow.holds Try.pinned (OpenSpec.ofChange topologyAnySpec)

/-- ITS FALSE NEIGHBOUR: 'it returns false'. Refute it at one input. -/
def topologyAnyWrong : ChangeSpec := { name := "topologyAny", fn := fun _ => fun
  | [d1, d2] => { results := [.lit (.bool false)], args := [d1, d2] }
  | _ => none }
def TopologyAnyWrongFalsely : Prop := topologyAnyRow.holds Try.pinned (OpenSpec.ofChange topologyAnyWrong)

/-- 'brepkernellaw27.TopologyEuler': WHATEVER THE INPUT: true; the input reads as it did. -/
def topologyEulerSpec : ChangeSpec := { name := "topologyEuler", fn := fun _ => fun
  | [d] => { results := [.lit (.bool true)], args := [d] }
  | _ => none }
def topologyEulerRow : OpenClaim := { program := "ytpgikmmiapcojaa", sum := "d3ea592b3ce50b3587d8601e91a3c266b4caeec06d70ac691d04a45d2492c452", func := "brepkernel/brepkernellaw27.TopologyEuler", spec := "topologyEuler", unfollowed := true, recurses := true, apart := false }
def TopologyEulerSaid : Prop := topologyEulerRow.holds Try.pinned (OpenSpec.ofChange topologyEulerSpec)

/-- ITS FALSE NEIGHBOUR: 'it returns false'. Refute it at one input. -/
def topologyEulerWrong : ChangeSpec := { name := "topologyEuler", fn := fun _ => fun
  | [d] => { results := [.lit (.bool false)], args := [d] }
  | _ => none }
def TopologyEulerWrongFalsely : Prop := topologyEulerRow.holds Try.pinned (OpenSpec.ofChange topologyEulerWrong)

/-- 'brepkernellaw27.TopologyUndoes': WHATEVER THE INPUT: true; the input reads as it did. -/
def topologyUndoesSpec : ChangeSpec := { name := "topologyUndoes", fn := fun _ => fun
  | [d] => { results := [.lit (.bool true)], args := [d] }
  | _ => none }
def topologyUndoesRow : OpenClaim := { program := "ytpgikmmiapcojaa", sum := "d3ea592b3ce50b3587d8601e91a3c266b4caeec06d70ac691d04a45d2492c452", func := "brepkernel/brepkernellaw27.TopologyUndoes", spec := "topologyUndoes", unfollowed := true, recurses := true, apart := false }
def TopologyUndoesSaid : Prop := topologyUndoesRow.holds Try.pinned (OpenSpec.ofChange topologyUndoesSpec)

/-- ITS FALSE NEIGHBOUR: 'it returns false'. Refute it at one input. -/
def topologyUndoesWrong : ChangeSpec := { name := "topologyUndoes", fn := fun _ => fun
  | [d] => { results := [.lit (.bool false)], args := [d] }
  | _ => none }
def TopologyUndoesWrongFalsely : Prop := topologyUndoesRow.holds Try.pinned (OpenSpec.ofChange topologyUndoesWrong)

/- THE SECOND FORM. 'bulk': how many values and letters a reading holds, each counted each time it is reached (what is shared counts as often as it is met; a slice's spare places count too). A statement '..UptoSaid' is the law's where the arguments, and the package variables that the reading takes, are together of bulk at most 1048576: NARROWER than '..Said'. Prove '..Said' where nothing that the law and all that it calls make is longer than what came in: it says more and counts as full. Else prove '..UptoSaid'. A law counts once. -/
mutual
def uptoBulk {H : Type} : DataW H → Nat
  | .lit (.string bytes) => bytes.length + 1
  | .lit _ => 1
  | .nil => 1
  | .ptr d => uptoBulk d + 1
  | .slice elems spare => uptoBulkAll elems + uptoBulkAll spare + 1
  | .agg parts => uptoBulkAll parts + 1
  | .iface _ d => uptoBulk d + 1
  | .map entries => uptoBulkEntries entries + 1
  | .held _ => 1
def uptoBulkAll {H : Type} : List (DataW H) → Nat
  | [] => 0
  | d :: r => uptoBulk d + uptoBulkAll r
def uptoBulkEntries {H : Type} : List (Lit × DataW H) → Nat
  | [] => 0
  | x :: r => uptoBulkEntry x + uptoBulkEntries r
def uptoBulkEntry {H : Type} : Lit × DataW H → Nat
  | (.string bytes, d) => bytes.length + uptoBulk d + 1
  | (_, d) => uptoBulk d + 1
 end
def uptoSmall : (H : Type) → List (DataW H) → Bool := fun _ ds => decide (uptoBulkAll ds ≤ 1048576)
def OpenSpec.upto (s : _root_.Go.ChangeSpec) : _root_.Go.OpenSpec := { _root_.Go.OpenSpec.ofChange s with cond := some uptoSmall }

/-- 'brepkernellaw27.TopologyLimits', WHERE WHAT IT READS IS OF BULK AT MOST 1048576: true; the input reads as it did. -/
def topologyLimitsUptoRow : OpenClaim := { program := "ytpgikmmiapcojaa", sum := "d3ea592b3ce50b3587d8601e91a3c266b4caeec06d70ac691d04a45d2492c452", func := "brepkernel/brepkernellaw27.TopologyLimits", spec := "topologyLimits", unfollowed := true, recurses := true, apart := false, narrowed := true }
def TopologyLimitsUptoSaid : Prop := topologyLimitsUptoRow.holds Try.pinned (OpenSpec.upto topologyLimitsSpec)

/-- 'brepkernellaw27.TopologySteps', WHERE WHAT IT READS IS OF BULK AT MOST 1048576: true; the input reads as it did. -/
def topologyStepsUptoRow : OpenClaim := { program := "ytpgikmmiapcojaa", sum := "d3ea592b3ce50b3587d8601e91a3c266b4caeec06d70ac691d04a45d2492c452", func := "brepkernel/brepkernellaw27.TopologySteps", spec := "topologySteps", unfollowed := true, recurses := true, apart := false, narrowed := true }
def TopologyStepsUptoSaid : Prop := topologyStepsUptoRow.holds Try.pinned (OpenSpec.upto topologyStepsSpec)

/-- 'brepkernellaw27.TopologyAny', WHERE WHAT IT READS IS OF BULK AT MOST 1048576: true; the input reads as it did. -/
def topologyAnyUptoRow : OpenClaim := { program := "ytpgikmmiapcojaa", sum := "d3ea592b3ce50b3587d8601e91a3c266b4caeec06d70ac691d04a45d2492c452", func := "brepkernel/brepkernellaw27.TopologyAny", spec := "topologyAny", unfollowed := true, recurses := true, apart := false, narrowed := true }
def TopologyAnyUptoSaid : Prop := topologyAnyUptoRow.holds Try.pinned (OpenSpec.upto topologyAnySpec)

/-- 'brepkernellaw27.TopologyEuler', WHERE WHAT IT READS IS OF BULK AT MOST 1048576: true; the input reads as it did. -/
def topologyEulerUptoRow : OpenClaim := { program := "ytpgikmmiapcojaa", sum := "d3ea592b3ce50b3587d8601e91a3c266b4caeec06d70ac691d04a45d2492c452", func := "brepkernel/brepkernellaw27.TopologyEuler", spec := "topologyEuler", unfollowed := true, recurses := true, apart := false, narrowed := true }
def TopologyEulerUptoSaid : Prop := topologyEulerUptoRow.holds Try.pinned (OpenSpec.upto topologyEulerSpec)

/-- 'brepkernellaw27.TopologyUndoes', WHERE WHAT IT READS IS OF BULK AT MOST 1048576: true; the input reads as it did. -/
def topologyUndoesUptoRow : OpenClaim := { program := "ytpgikmmiapcojaa", sum := "d3ea592b3ce50b3587d8601e91a3c266b4caeec06d70ac691d04a45d2492c452", func := "brepkernel/brepkernellaw27.TopologyUndoes", spec := "topologyUndoes", unfollowed := true, recurses := true, apart := false, narrowed := true }
def TopologyUndoesUptoSaid : Prop := topologyUndoesUptoRow.holds Try.pinned (OpenSpec.upto topologyUndoesSpec)

end Rows
end Go.Proofs.Ytpgikmmiapcojaa
