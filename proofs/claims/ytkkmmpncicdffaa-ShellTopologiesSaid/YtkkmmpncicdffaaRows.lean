/-
  No cell of these rows narrows 'for every input' (looked for: loops, veiled, ifaces, maps, wideKeys, modest, calm, conditions, laid).
  DERIVED. THE GIVEN ROWS OF THIS SEAT. 5 by the template 'for every input the law returns true; each argument reads behind the call as it read before'; 0 by the template 'total and deterministic' (their statements: YtkkmmpncicdffaaTotals.lean).
  GIVEN WITH THE SEED: the statements are not yours to turn. If you find one false, say at which input.
  Laid BY PROGRAM, IN A SANDBOX (cutbox-rows.mjs): the forced cells as the released guide's own fill.sh prints them over the translation 441c29e369bfaf53… (all of the seat's roots in one cut). By AI agents, Wed Nov 11 2026. No macro, syntax, notation, axiom, sorry.
-/
import Derived.Test.YtkkmmpncicdffaaChecked
import GoSem.Claim
import GoSem.ClaimJoined
import GoSem.ClaimMapViews
import Derived.JoinedTies
import Derived.KernelRfl
namespace Go.Proofs.Ytkkmmpncicdffaa
/- THE CELL 'sum', in the pinned program and in every row, IS THE sha256 OF THE DUMP (.gsa) THAT YtkkmmpncicdffaaProg.lean LOADS. Nothing in Lean hashes anything: it is a label: what it is worth is what the hold of that sum in a sandbox is worth. -/
noncomputable def Try.pinned : Pinned := { name := "ytkkmmpncicdffaa", sum := "441c29e369bfaf5398cbc150fd2f940d96e0dc77dfd3bec8a25fbf6b402cb964", checked := Try.checked }
namespace Rows
def none {H : Type} : Left H := { results := [], args := [] }

/-- 'brepkernellaw28.ShellAll': WHATEVER THE INPUT: true; the input reads as it did. -/
def shellAllSpec : ChangeSpec := { name := "shellAll", fn := fun _ => fun
  | [d] => { results := [.lit (.bool true)], args := [d] }
  | _ => none }
def shellAllRow : OpenClaim := { program := "ytkkmmpncicdffaa", sum := "441c29e369bfaf5398cbc150fd2f940d96e0dc77dfd3bec8a25fbf6b402cb964", func := "brepkernel/brepkernellaw28.ShellAll", spec := "shellAll", unfollowed := true, recurses := true, plainKeys := false, apart := false }
def ShellAllSaid : Prop := shellAllRow.holds Try.pinned (OpenSpec.ofChange shellAllSpec)

/-- ITS FALSE NEIGHBOUR: 'it returns false'. Refute it at one input. -/
def shellAllWrong : ChangeSpec := { name := "shellAll", fn := fun _ => fun
  | [d] => { results := [.lit (.bool false)], args := [d] }
  | _ => none }
def ShellAllWrongFalsely : Prop := shellAllRow.holds Try.pinned (OpenSpec.ofChange shellAllWrong)

/-- 'brepkernellaw28.ShellAny': WHATEVER THE INPUT: true; the input reads as it did. -/
def shellAnySpec : ChangeSpec := { name := "shellAny", fn := fun _ => fun
  | [d1, d2] => { results := [.lit (.bool true)], args := [d1, d2] }
  | _ => none }
def shellAnyRow : OpenClaim := { program := "ytkkmmpncicdffaa", sum := "441c29e369bfaf5398cbc150fd2f940d96e0dc77dfd3bec8a25fbf6b402cb964", func := "brepkernel/brepkernellaw28.ShellAny", spec := "shellAny", unfollowed := true, recurses := true, plainKeys := false, apart := false }
def ShellAnySaid : Prop := shellAnyRow.holds Try.pinned (OpenSpec.ofChange shellAnySpec)

/-- ITS FALSE NEIGHBOUR: 'it returns false'. Refute it at one input. -/
def shellAnyWrong : ChangeSpec := { name := "shellAny", fn := fun _ => fun
  | [d1, d2] => { results := [.lit (.bool false)], args := [d1, d2] }
  | _ => none }
def ShellAnyWrongFalsely : Prop := shellAnyRow.holds Try.pinned (OpenSpec.ofChange shellAnyWrong)

/-- 'brepkernellaw28.ShellTopologies': WHATEVER THE INPUT: true; the input reads as it did. -/
def shellTopologiesSpec : ChangeSpec := { name := "shellTopologies", fn := fun _ => fun
  | [d] => { results := [.lit (.bool true)], args := [d] }
  | _ => none }
def shellTopologiesRow : OpenClaim := { program := "ytkkmmpncicdffaa", sum := "441c29e369bfaf5398cbc150fd2f940d96e0dc77dfd3bec8a25fbf6b402cb964", func := "brepkernel/brepkernellaw28.ShellTopologies", spec := "shellTopologies", unfollowed := true, recurses := true, plainKeys := false, apart := false }
def ShellTopologiesSaid : Prop := shellTopologiesRow.holds Try.pinned (OpenSpec.ofChange shellTopologiesSpec)

/-- ITS FALSE NEIGHBOUR: 'it returns false'. Refute it at one input. -/
def shellTopologiesWrong : ChangeSpec := { name := "shellTopologies", fn := fun _ => fun
  | [d] => { results := [.lit (.bool false)], args := [d] }
  | _ => none }
def ShellTopologiesWrongFalsely : Prop := shellTopologiesRow.holds Try.pinned (OpenSpec.ofChange shellTopologiesWrong)

/-- 'brepkernellaw28.ShellTurns': WHATEVER THE INPUT: true; the input reads as it did. -/
def shellTurnsSpec : ChangeSpec := { name := "shellTurns", fn := fun _ => fun
  | [d1, d2] => { results := [.lit (.bool true)], args := [d1, d2] }
  | _ => none }
def shellTurnsRow : OpenClaim := { program := "ytkkmmpncicdffaa", sum := "441c29e369bfaf5398cbc150fd2f940d96e0dc77dfd3bec8a25fbf6b402cb964", func := "brepkernel/brepkernellaw28.ShellTurns", spec := "shellTurns", unfollowed := true, recurses := true, plainKeys := false, apart := false }
def ShellTurnsSaid : Prop := shellTurnsRow.holds Try.pinned (OpenSpec.ofChange shellTurnsSpec)

/-- ITS FALSE NEIGHBOUR: 'it returns false'. Refute it at one input. -/
def shellTurnsWrong : ChangeSpec := { name := "shellTurns", fn := fun _ => fun
  | [d1, d2] => { results := [.lit (.bool false)], args := [d1, d2] }
  | _ => none }
def ShellTurnsWrongFalsely : Prop := shellTurnsRow.holds Try.pinned (OpenSpec.ofChange shellTurnsWrong)

/-- 'brepkernellaw28.ShellBalanced': WHATEVER THE INPUT: true; the input reads as it did. -/
def shellBalancedSpec : ChangeSpec := { name := "shellBalanced", fn := fun _ => fun
  | [d] => { results := [.lit (.bool true)], args := [d] }
  | _ => none }
def shellBalancedRow : OpenClaim := { program := "ytkkmmpncicdffaa", sum := "441c29e369bfaf5398cbc150fd2f940d96e0dc77dfd3bec8a25fbf6b402cb964", func := "brepkernel/brepkernellaw28.ShellBalanced", spec := "shellBalanced", unfollowed := true, recurses := true, plainKeys := false, apart := false }
def ShellBalancedSaid : Prop := shellBalancedRow.holds Try.pinned (OpenSpec.ofChange shellBalancedSpec)

/-- ITS FALSE NEIGHBOUR: 'it returns false'. Refute it at one input. -/
def shellBalancedWrong : ChangeSpec := { name := "shellBalanced", fn := fun _ => fun
  | [d] => { results := [.lit (.bool false)], args := [d] }
  | _ => none }
def ShellBalancedWrongFalsely : Prop := shellBalancedRow.holds Try.pinned (OpenSpec.ofChange shellBalancedWrong)

/- THE SECOND FORM. 'bulk': how many values and letters a reading holds, each counted each time it is reached (what is shared counts as often as it is met; a slice's spare places count too). A statement '..UptoSaid' is the law's where the arguments, and the package variables that the reading takes, are together of bulk at most 1048576: NARROWER than '..Said'. Prove '..Said' where nothing that the law and all that it calls make is longer than what came in: it says more and counts as full. Else prove '..UptoSaid'. A law counts once. -/
mutual
def uptoBulk {H : Type} : DataW H → Nat
  | .lit (.string bytes) => bytes.length + 1
  | .lit _ => 1
  | .nil => 1
  | .ptr d => uptoBulk d + 1
  | .slice elems spare => uptoBulkAll elems + uptoBulkAll spare + 1
  | .agg parts => uptoBulkAll parts + 1
  | .iface _ d => uptoBulk d + 1
  | .map entries => uptoBulkEntries entries + 1
  | .held _ => 1
def uptoBulkAll {H : Type} : List (DataW H) → Nat
  | [] => 0
  | d :: r => uptoBulk d + uptoBulkAll r
def uptoBulkEntries {H : Type} : List (Lit × DataW H) → Nat
  | [] => 0
  | x :: r => uptoBulkEntry x + uptoBulkEntries r
def uptoBulkEntry {H : Type} : Lit × DataW H → Nat
  | (.string bytes, d) => bytes.length + uptoBulk d + 1
  | (_, d) => uptoBulk d + 1
 end
def uptoSmall : (H : Type) → List (DataW H) → Bool := fun _ ds => decide (uptoBulkAll ds ≤ 1048576)
def OpenSpec.upto (s : _root_.Go.ChangeSpec) : _root_.Go.OpenSpec := { _root_.Go.OpenSpec.ofChange s with cond := some uptoSmall }

/-- 'brepkernellaw28.ShellAll', WHERE WHAT IT READS IS OF BULK AT MOST 1048576: true; the input reads as it did. -/
def shellAllUptoRow : OpenClaim := { program := "ytkkmmpncicdffaa", sum := "441c29e369bfaf5398cbc150fd2f940d96e0dc77dfd3bec8a25fbf6b402cb964", func := "brepkernel/brepkernellaw28.ShellAll", spec := "shellAll", unfollowed := true, recurses := true, plainKeys := false, apart := false, narrowed := true }
def ShellAllUptoSaid : Prop := shellAllUptoRow.holds Try.pinned (OpenSpec.upto shellAllSpec)

/-- 'brepkernellaw28.ShellAny', WHERE WHAT IT READS IS OF BULK AT MOST 1048576: true; the input reads as it did. -/
def shellAnyUptoRow : OpenClaim := { program := "ytkkmmpncicdffaa", sum := "441c29e369bfaf5398cbc150fd2f940d96e0dc77dfd3bec8a25fbf6b402cb964", func := "brepkernel/brepkernellaw28.ShellAny", spec := "shellAny", unfollowed := true, recurses := true, plainKeys := false, apart := false, narrowed := true }
def ShellAnyUptoSaid : Prop := shellAnyUptoRow.holds Try.pinned (OpenSpec.upto shellAnySpec)

/-- 'brepkernellaw28.ShellTopologies', WHERE WHAT IT READS IS OF BULK AT MOST 1048576: true; the input reads as it did. -/
def shellTopologiesUptoRow : OpenClaim := { program := "ytkkmmpncicdffaa", sum := "441c29e369bfaf5398cbc150fd2f940d96e0dc77dfd3bec8a25fbf6b402cb964", func := "brepkernel/brepkernellaw28.ShellTopologies", spec := "shellTopologies", unfollowed := true, recurses := true, plainKeys := false, apart := false, narrowed := true }
def ShellTopologiesUptoSaid : Prop := shellTopologiesUptoRow.holds Try.pinned (OpenSpec.upto shellTopologiesSpec)

/-- 'brepkernellaw28.ShellTurns', WHERE WHAT IT READS IS OF BULK AT MOST 1048576: true; the input reads as it did. -/
def shellTurnsUptoRow : OpenClaim := { program := "ytkkmmpncicdffaa", sum := "441c29e369bfaf5398cbc150fd2f940d96e0dc77dfd3bec8a25fbf6b402cb964", func := "brepkernel/brepkernellaw28.ShellTurns", spec := "shellTurns", unfollowed := true, recurses := true, plainKeys := false, apart := false, narrowed := true }
def ShellTurnsUptoSaid : Prop := shellTurnsUptoRow.holds Try.pinned (OpenSpec.upto shellTurnsSpec)

/-- 'brepkernellaw28.ShellBalanced', WHERE WHAT IT READS IS OF BULK AT MOST 1048576: true; the input reads as it did. -/
def shellBalancedUptoRow : OpenClaim := { program := "ytkkmmpncicdffaa", sum := "441c29e369bfaf5398cbc150fd2f940d96e0dc77dfd3bec8a25fbf6b402cb964", func := "brepkernel/brepkernellaw28.ShellBalanced", spec := "shellBalanced", unfollowed := true, recurses := true, plainKeys := false, apart := false, narrowed := true }
def ShellBalancedUptoSaid : Prop := shellBalancedUptoRow.holds Try.pinned (OpenSpec.upto shellBalancedSpec)

end Rows
end Go.Proofs.Ytkkmmpncicdffaa
