/-
  No cell of these rows narrows 'for every input' (looked for: loops, veiled, ifaces, maps, wideKeys, modest, calm, conditions, laid).
  DERIVED. THE GIVEN ROWS OF THIS SEAT. 3 by the template 'for every input the law returns true; each argument reads behind the call as it read before'; 0 by the template 'total and deterministic' (their statements: YtlcfmafkolgagaaGreatTotals.lean).
  GIVEN WITH THE SEED: the statements are not yours to turn. If you find one false, say at which input.
  Laid BY PROGRAM, IN A SANDBOX (cutbox-rows.mjs): the forced cells as the released guide's own fill.sh prints them over the translation e14f528d7a63b830… (all of the seat's roots in one cut). By AI agents, Wed Nov 11 2026. No macro, syntax, notation, axiom, sorry.
-/
import Derived.Test.YtlcfmafkolgagaaGreatChecked
import GoSem.Claim
import GoSem.ClaimJoined
import GoSem.ClaimMapViews
import Derived.JoinedTies
import Derived.KernelRfl
namespace Go.Proofs.YtlcfmafkolgagaaGreat
/- THE CELL 'sum', in the pinned program and in every row, IS THE sha256 OF THE DUMP (.gsa) THAT YtlcfmafkolgagaaGreatProg.lean LOADS. Nothing in Lean hashes anything: it is a label: what it is worth is what the hold of that sum in a sandbox is worth. -/
noncomputable def Tryz.pinned : Pinned := { name := "ytlcfmafkolgagaagreat", sum := "e14f528d7a63b830be98391c0a12f633e689028802af48933f381ad62a29dac7", checked := Tryz.checked }
namespace Rows
def none {H : Type} : Left H := { results := [], args := [] }

/-- 'brepkernellaw21.TrimWhere': WHATEVER THE INPUT: true; the input reads as it did. -/
def trimWhereSpec : ChangeSpec := { name := "trimWhere", fn := fun _ => fun
  | [d1, d2, d3, d4] => { results := [.lit (.bool true)], args := [d1, d2, d3, d4] }
  | _ => none }
def trimWhereRow : OpenClaim := { program := "ytlcfmafkolgagaagreat", sum := "e14f528d7a63b830be98391c0a12f633e689028802af48933f381ad62a29dac7", func := "brepkernel/brepkernellaw21.TrimWhere", spec := "trimWhere", inPlace := ["math/bits.Add64"], unfollowed := true, recurses := true, apart := false }
def TrimWhereSaid : Prop := trimWhereRow.holds Tryz.pinned (OpenSpec.ofChange trimWhereSpec)

/-- ITS FALSE NEIGHBOUR: 'it returns false'. Refute it at one input. -/
def trimWhereWrong : ChangeSpec := { name := "trimWhere", fn := fun _ => fun
  | [d1, d2, d3, d4] => { results := [.lit (.bool false)], args := [d1, d2, d3, d4] }
  | _ => none }
def TrimWhereWrongFalsely : Prop := trimWhereRow.holds Tryz.pinned (OpenSpec.ofChange trimWhereWrong)

/-- 'brepkernellaw21.TrimOrders': WHATEVER THE INPUT: true; the input reads as it did. -/
def trimOrdersSpec : ChangeSpec := { name := "trimOrders", fn := fun _ => fun
  | [d1, d2, d3, d4] => { results := [.lit (.bool true)], args := [d1, d2, d3, d4] }
  | _ => none }
def trimOrdersRow : OpenClaim := { program := "ytlcfmafkolgagaagreat", sum := "e14f528d7a63b830be98391c0a12f633e689028802af48933f381ad62a29dac7", func := "brepkernel/brepkernellaw21.TrimOrders", spec := "trimOrders", inPlace := ["math/bits.Add64"], unfollowed := true, recurses := true, apart := false }
def TrimOrdersSaid : Prop := trimOrdersRow.holds Tryz.pinned (OpenSpec.ofChange trimOrdersSpec)

/-- ITS FALSE NEIGHBOUR: 'it returns false'. Refute it at one input. -/
def trimOrdersWrong : ChangeSpec := { name := "trimOrders", fn := fun _ => fun
  | [d1, d2, d3, d4] => { results := [.lit (.bool false)], args := [d1, d2, d3, d4] }
  | _ => none }
def TrimOrdersWrongFalsely : Prop := trimOrdersRow.holds Tryz.pinned (OpenSpec.ofChange trimOrdersWrong)

/-- 'brepkernellaw21.TrimChecks': WHATEVER THE INPUT: true; the input reads as it did. -/
def trimChecksSpec : ChangeSpec := { name := "trimChecks", fn := fun _ => fun
  | [d1, d2, d3] => { results := [.lit (.bool true)], args := [d1, d2, d3] }
  | _ => none }
def trimChecksRow : OpenClaim := { program := "ytlcfmafkolgagaagreat", sum := "e14f528d7a63b830be98391c0a12f633e689028802af48933f381ad62a29dac7", func := "brepkernel/brepkernellaw21.TrimChecks", spec := "trimChecks", inPlace := ["math/bits.Add64"], unfollowed := true, recurses := true, apart := false }
def TrimChecksSaid : Prop := trimChecksRow.holds Tryz.pinned (OpenSpec.ofChange trimChecksSpec)

/-- ITS FALSE NEIGHBOUR: 'it returns false'. Refute it at one input. -/
def trimChecksWrong : ChangeSpec := { name := "trimChecks", fn := fun _ => fun
  | [d1, d2, d3] => { results := [.lit (.bool false)], args := [d1, d2, d3] }
  | _ => none }
def TrimChecksWrongFalsely : Prop := trimChecksRow.holds Tryz.pinned (OpenSpec.ofChange trimChecksWrong)

/- THE SECOND FORM. 'bulk': how many values and letters a reading holds, each counted each time it is reached (what is shared counts as often as it is met; a slice's spare places count too). A statement '..UptoSaid' is the law's where the arguments, and the package variables that the reading takes, are together of bulk at most 1048576: NARROWER than '..Said'. Prove '..Said' where nothing that the law and all that it calls make is longer than what came in: it says more and counts as full. Else prove '..UptoSaid'. A law counts once. -/
mutual
def uptoBulk {H : Type} : DataW H → Nat
  | .lit (.string bytes) => bytes.length + 1
  | .lit _ => 1
  | .nil => 1
  | .ptr d => uptoBulk d + 1
  | .slice elems spare => uptoBulkAll elems + uptoBulkAll spare + 1
  | .agg parts => uptoBulkAll parts + 1
  | .iface _ d => uptoBulk d + 1
  | .map entries => uptoBulkEntries entries + 1
  | .held _ => 1
def uptoBulkAll {H : Type} : List (DataW H) → Nat
  | [] => 0
  | d :: r => uptoBulk d + uptoBulkAll r
def uptoBulkEntries {H : Type} : List (Lit × DataW H) → Nat
  | [] => 0
  | x :: r => uptoBulkEntry x + uptoBulkEntries r
def uptoBulkEntry {H : Type} : Lit × DataW H → Nat
  | (.string bytes, d) => bytes.length + uptoBulk d + 1
  | (_, d) => uptoBulk d + 1
 end
def uptoSmall : (H : Type) → List (DataW H) → Bool := fun _ ds => decide (uptoBulkAll ds ≤ 1048576)
def OpenSpec.upto (s : _root_.Go.ChangeSpec) : _root_.Go.OpenSpec := { _root_.Go.OpenSpec.ofChange s with cond := some uptoSmall }

/-- 'brepkernellaw21.TrimWhere', WHERE WHAT IT READS IS OF BULK AT MOST 1048576: true; the input reads as it did. -/
def trimWhereUptoRow : OpenClaim := { program := "ytlcfmafkolgagaagreat", sum := "e14f528d7a63b830be98391c0a12f633e689028802af48933f381ad62a29dac7", func := "brepkernel/brepkernellaw21.TrimWhere", spec := "trimWhere", inPlace := ["math/bits.Add64"], unfollowed := true, recurses := true, apart := false, narrowed := true }
def TrimWhereUptoSaid : Prop := trimWhereUptoRow.holds Tryz.pinned (OpenSpec.upto trimWhereSpec)

/-- 'brepkernellaw21.TrimOrders', WHERE WHAT IT READS IS OF BULK AT MOST 1048576: true; the input reads as it did. -/
def trimOrdersUptoRow : OpenClaim := { program := "ytlcfmafkolgagaagreat", sum := "e14f528d7a63b830be98391c0a12f633e689028802af48933f381ad62a29dac7", func := "brepkernel/brepkernellaw21.TrimOrders", spec := "trimOrders", inPlace := ["math/bits.Add64"], unfollowed := true, recurses := true, apart := false, narrowed := true }
def TrimOrdersUptoSaid : Prop := trimOrdersUptoRow.holds Tryz.pinned (OpenSpec.upto trimOrdersSpec)

/-- 'brepkernellaw21.TrimChecks', WHERE WHAT IT READS IS OF BULK AT MOST 1048576: true; the input reads as it did. -/
def trimChecksUptoRow : OpenClaim := { program := "ytlcfmafkolgagaagreat", sum := "e14f528d7a63b830be98391c0a12f633e689028802af48933f381ad62a29dac7", func := "brepkernel/brepkernellaw21.TrimChecks", spec := "trimChecks", inPlace := ["math/bits.Add64"], unfollowed := true, recurses := true, apart := false, narrowed := true }
def TrimChecksUptoSaid : Prop := trimChecksUptoRow.holds Tryz.pinned (OpenSpec.upto trimChecksSpec)

end Rows
end Go.Proofs.YtlcfmafkolgagaaGreat
