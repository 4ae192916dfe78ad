/-
  DERIVED. GIVEN WITH THE SEED: THE CARDS: each row of YtlgdmflplabioaaGreatDoorRows.lean that lists a variable, with what it lists TIED to the program's text (the seventh form; the later family's looks); each row that meets fmt, with fmt's text TOLD by the authors' own Lean function (tested against real Go, not proved from fmt's source: count such statements apart). THE CARD IS WHAT COUNTS. Prove the row's statement (the work); the ties are given (YtlgdmflplabioaaGreatDoorTie.lean); close each card by the builder's one call (the guide's Derived/Test/ToyasCard.lean, 'card_holds'). Laid BY PROGRAM, IN A SANDBOX (cutbox-door.mjs). By AI agents, Wed Nov 11 2026. No macro, syntax, notation, axiom, sorry.
-/
import Derived.Test.YtlgdmflplabioaaGreatDoorRows
import GoSem.ClaimSeven
namespace Go.Proofs.YtlgdmflplabioaaGreatDoor
namespace Rows

/-- THE TIED CARD OF 'brepkernellaw24.EntityTexts'. -/
def entityTextsCard : Claim7 := { stood := { row := entityTextsRow, standIns := [], harness := (true, "eb65948c209a6a98efbc9eb2d52c1375bab64e64794a87c8b7379153273a9ab7"), looks := true }, kinds := [], alts := [], laidByText := true, laidKinds := [.data, .data, .data, .data, .pinned], laidTests := true, laidLooks := .later }
def EntityTextsCardSaid : Prop := Claim7.holds Tryz.pinned (.plain (OpenSpec.ofChange entityTextsSpec)) entityTextsCard

/-- THE TIED CARD OF 'brepkernellaw24.EntityNumbers'. -/
def entityNumbersCard : Claim7 := { stood := { row := entityNumbersRow, standIns := [], harness := (true, "eb65948c209a6a98efbc9eb2d52c1375bab64e64794a87c8b7379153273a9ab7"), looks := true }, kinds := [], alts := [], laidByText := true, laidKinds := [.data, .data, .data, .data, .sentinel, .sentinel, .pinned], laidTests := true, laidLooks := .later }
def EntityNumbersCardSaid : Prop := Claim7.holds Tryz.pinned (.plain (OpenSpec.ofChange entityNumbersSpec)) entityNumbersCard

/-- THE TIED CARD OF 'brepkernellaw24.EntityDecimals'. -/
def entityDecimalsCard : Claim7 := { stood := { row := entityDecimalsRow, standIns := [], harness := (true, "eb65948c209a6a98efbc9eb2d52c1375bab64e64794a87c8b7379153273a9ab7"), looks := true }, kinds := [], alts := [], laidByText := true, laidKinds := [.data, .data, .data, .data, .sentinel, .sentinel, .pinned], laidTests := true, laidLooks := .later }
def EntityDecimalsCardSaid : Prop := Claim7.holds Tryz.pinned (.plain (OpenSpec.ofChange entityDecimalsSpec)) entityDecimalsCard

/-- THE TIED CARD OF 'brepkernellaw24.EntityParses'. -/
def entityParsesCard : Claim7 := { stood := { row := entityParsesRow, standIns := [], harness := (true, "eb65948c209a6a98efbc9eb2d52c1375bab64e64794a87c8b7379153273a9ab7"), looks := true }, kinds := [], alts := [], laidByText := true, laidKinds := [.data, .data, .data, .data, .sentinel, .sentinel, .pinned], laidTests := true, laidLooks := .later }
def EntityParsesCardSaid : Prop := Claim7.holds Tryz.pinned (.plain (OpenSpec.ofChange entityParsesSpec)) entityParsesCard

/-- THE TIED CARD OF 'brepkernellaw24.EntityBack'. -/
def entityBackCard : Claim7 := { stood := { row := entityBackRow, standIns := [], harness := (true, "eb65948c209a6a98efbc9eb2d52c1375bab64e64794a87c8b7379153273a9ab7"), looks := true }, kinds := [], alts := [], laidByText := true, laidKinds := [.data, .data, .data, .data, .sentinel, .sentinel, .pinned], laidTests := true, laidLooks := .later }
def EntityBackCardSaid : Prop := Claim7.holds Tryz.pinned (.plain (OpenSpec.ofChange entityBackSpec)) entityBackCard

/-- THE SECOND FORM's CARD OF 'brepkernellaw24.EntityTexts'. -/
def entityTextsUptoCard : Claim7 := { stood := { row := entityTextsUptoRow, standIns := [], harness := (true, "eb65948c209a6a98efbc9eb2d52c1375bab64e64794a87c8b7379153273a9ab7"), looks := true }, kinds := [], alts := [], laidByText := true, laidKinds := [.data, .data, .data, .data, .pinned], laidTests := true, laidLooks := .later }
def EntityTextsUptoCardSaid : Prop := Claim7.holds Tryz.pinned (.plain (OpenSpec.upto entityTextsSpec)) entityTextsUptoCard

/-- THE SECOND FORM's CARD OF 'brepkernellaw24.EntityNumbers'. -/
def entityNumbersUptoCard : Claim7 := { stood := { row := entityNumbersUptoRow, standIns := [], harness := (true, "eb65948c209a6a98efbc9eb2d52c1375bab64e64794a87c8b7379153273a9ab7"), looks := true }, kinds := [], alts := [], laidByText := true, laidKinds := [.data, .data, .data, .data, .sentinel, .sentinel, .pinned], laidTests := true, laidLooks := .later }
def EntityNumbersUptoCardSaid : Prop := Claim7.holds Tryz.pinned (.plain (OpenSpec.upto entityNumbersSpec)) entityNumbersUptoCard

/-- THE SECOND FORM's CARD OF 'brepkernellaw24.EntityDecimals'. -/
def entityDecimalsUptoCard : Claim7 := { stood := { row := entityDecimalsUptoRow, standIns := [], harness := (true, "eb65948c209a6a98efbc9eb2d52c1375bab64e64794a87c8b7379153273a9ab7"), looks := true }, kinds := [], alts := [], laidByText := true, laidKinds := [.data, .data, .data, .data, .sentinel, .sentinel, .pinned], laidTests := true, laidLooks := .later }
def EntityDecimalsUptoCardSaid : Prop := Claim7.holds Tryz.pinned (.plain (OpenSpec.upto entityDecimalsSpec)) entityDecimalsUptoCard

/-- THE SECOND FORM's CARD OF 'brepkernellaw24.EntityParses'. -/
def entityParsesUptoCard : Claim7 := { stood := { row := entityParsesUptoRow, standIns := [], harness := (true, "eb65948c209a6a98efbc9eb2d52c1375bab64e64794a87c8b7379153273a9ab7"), looks := true }, kinds := [], alts := [], laidByText := true, laidKinds := [.data, .data, .data, .data, .sentinel, .sentinel, .pinned], laidTests := true, laidLooks := .later }
def EntityParsesUptoCardSaid : Prop := Claim7.holds Tryz.pinned (.plain (OpenSpec.upto entityParsesSpec)) entityParsesUptoCard

/-- THE SECOND FORM's CARD OF 'brepkernellaw24.EntityBack'. -/
def entityBackUptoCard : Claim7 := { stood := { row := entityBackUptoRow, standIns := [], harness := (true, "eb65948c209a6a98efbc9eb2d52c1375bab64e64794a87c8b7379153273a9ab7"), looks := true }, kinds := [], alts := [], laidByText := true, laidKinds := [.data, .data, .data, .data, .sentinel, .sentinel, .pinned], laidTests := true, laidLooks := .later }
def EntityBackUptoCardSaid : Prop := Claim7.holds Tryz.pinned (.plain (OpenSpec.upto entityBackSpec)) entityBackUptoCard
end Rows
end Go.Proofs.YtlgdmflplabioaaGreatDoor
