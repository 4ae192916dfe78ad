/-
  DERIVED. GIVEN WITH THE SEED: THE CARDS: each row of YtfocnnocifhdhaaDoorRows.lean that lists a variable, with what it lists TIED to the program's text (the seventh form; the later family's looks); each row that meets fmt, with fmt's text TOLD by the authors' own Lean function (tested against real Go, not proved from fmt's source: count such statements apart). THE CARD IS WHAT COUNTS. Prove the row's statement (the work); the ties are given (YtfocnnocifhdhaaDoorTie.lean); close each card by the builder's one call (the guide's Derived/Test/ToyasCard.lean, 'card_holds'). Laid BY PROGRAM, IN A SANDBOX (cutbox-door.mjs). By AI agents, Wed Nov 11 2026. No macro, syntax, notation, axiom, sorry.
-/
import Derived.Test.YtfocnnocifhdhaaDoorRows
import GoSem.ClaimSeven
namespace Go.Proofs.YtfocnnocifhdhaaDoor
namespace Rows

/-- THE TIED CARD OF 'brepkernellaw43.NamesParts'. -/
def namesPartsCard : Claim7 := { stood := { row := namesPartsRow, standIns := [], harness := (true, "f72545b7856d603fe0c375042022e1e3172dafd79c54921d0addab6bd55001d4"), looks := false }, kinds := [], alts := [], laidByText := true, laidKinds := [.data, .pinned], laidTests := true, laidLooks := .later }
def NamesPartsCardSaid : Prop := Claim7.holds Tryd.pinned (.plain (OpenSpec.ofChange namesPartsSpec)) namesPartsCard

/-- THE SECOND FORM's CARD OF 'brepkernellaw43.NamesParts'. -/
def namesPartsUptoCard : Claim7 := { stood := { row := namesPartsUptoRow, standIns := [], harness := (true, "f72545b7856d603fe0c375042022e1e3172dafd79c54921d0addab6bd55001d4"), looks := false }, kinds := [], alts := [], laidByText := true, laidKinds := [.data, .pinned], laidTests := true, laidLooks := .later }
def NamesPartsUptoCardSaid : Prop := Claim7.holds Tryd.pinned (.plain (OpenSpec.upto namesPartsSpec)) namesPartsUptoCard
end Rows
end Go.Proofs.YtfocnnocifhdhaaDoor
