/-
  DERIVED. GIVEN WITH THE SEED: THE CARDS: each row of YtgjoeikaglmoeaaDoorRows.lean that lists a variable, with what it lists TIED to the program's text (the seventh form; the later family's looks); each row that meets fmt, with fmt's text TOLD by the authors' own Lean function (tested against real Go, not proved from fmt's source: count such statements apart). THE CARD IS WHAT COUNTS. Prove the row's statement (the work); the ties are given (YtgjoeikaglmoeaaDoorTie.lean); close each card by the builder's one call (the guide's Derived/Test/ToyasCard.lean, 'card_holds'). Laid BY PROGRAM, IN A SANDBOX (cutbox-door.mjs). By AI agents, Wed Nov 11 2026. No macro, syntax, notation, axiom, sorry.
-/
import Derived.Test.YtgjoeikaglmoeaaDoorRows
import GoSem.ClaimSeven
namespace Go.Proofs.YtgjoeikaglmoeaaDoor
namespace Rows

/-- THE TIED CARD OF 'brepkernellaw23.LexerTexts'. -/
def lexerTextsCard : Claim7 := { stood := { row := lexerTextsRow, standIns := [], harness := (true, "556d13da7bf757267759f360f8d949b6f55c0806e696ae61c47b5becb8b04352"), looks := false }, kinds := [], alts := [], laidByText := true, laidKinds := [.data, .pinned], laidTests := true, laidLooks := .later }
def LexerTextsCardSaid : Prop := Claim7.holds Tryd.pinned (.plain (OpenSpec.ofChange lexerTextsSpec)) lexerTextsCard

/-- THE TIED CARD OF 'brepkernellaw23.LexerBack'. -/
def lexerBackCard : Claim7 := { stood := { row := lexerBackRow, standIns := [], harness := (true, "556d13da7bf757267759f360f8d949b6f55c0806e696ae61c47b5becb8b04352"), looks := false }, kinds := [], alts := [], laidByText := true, laidKinds := [.data, .pinned], laidTests := true, laidLooks := .later }
def LexerBackCardSaid : Prop := Claim7.holds Tryd.pinned (.plain (OpenSpec.ofChange lexerBackSpec)) lexerBackCard

/-- THE SECOND FORM's CARD OF 'brepkernellaw23.LexerTexts'. -/
def lexerTextsUptoCard : Claim7 := { stood := { row := lexerTextsUptoRow, standIns := [], harness := (true, "556d13da7bf757267759f360f8d949b6f55c0806e696ae61c47b5becb8b04352"), looks := false }, kinds := [], alts := [], laidByText := true, laidKinds := [.data, .pinned], laidTests := true, laidLooks := .later }
def LexerTextsUptoCardSaid : Prop := Claim7.holds Tryd.pinned (.plain (OpenSpec.upto lexerTextsSpec)) lexerTextsUptoCard

/-- THE SECOND FORM's CARD OF 'brepkernellaw23.LexerBack'. -/
def lexerBackUptoCard : Claim7 := { stood := { row := lexerBackUptoRow, standIns := [], harness := (true, "556d13da7bf757267759f360f8d949b6f55c0806e696ae61c47b5becb8b04352"), looks := false }, kinds := [], alts := [], laidByText := true, laidKinds := [.data, .pinned], laidTests := true, laidLooks := .later }
def LexerBackUptoCardSaid : Prop := Claim7.holds Tryd.pinned (.plain (OpenSpec.upto lexerBackSpec)) lexerBackUptoCard
end Rows
end Go.Proofs.YtgjoeikaglmoeaaDoor
