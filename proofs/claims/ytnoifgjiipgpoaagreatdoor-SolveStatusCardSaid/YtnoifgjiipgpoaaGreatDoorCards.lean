/-
  DERIVED. GIVEN WITH THE SEED: THE CARDS: each row of YtnoifgjiipgpoaaGreatDoorRows.lean that lists a variable, with what it lists TIED to the program's text (the seventh form; the later family's looks); each row that meets fmt, with fmt's text TOLD by the authors' own Lean function (tested against real Go, not proved from fmt's source: count such statements apart). THE CARD IS WHAT COUNTS. Prove the row's statement (the work); the ties are given (YtnoifgjiipgpoaaGreatDoorTie.lean); close each card by the builder's one call (the guide's Derived/Test/ToyasCard.lean, 'card_holds'). Laid BY PROGRAM, IN A SANDBOX (cutbox-door.mjs). By AI agents, Wed Nov 11 2026. No macro, syntax, notation, axiom, sorry.
-/
import Derived.Test.YtnoifgjiipgpoaaGreatDoorRows
import GoSem.ClaimSeven
namespace Go.Proofs.YtnoifgjiipgpoaaGreatDoor
namespace Rows

/-- THE TIED CARD OF 'haulierlaw23.SolveTells'. -/
def solveTellsCard : Claim7 := { stood := { row := solveTellsRow, standIns := [], harness := (true, "3dac301958a13f3f9b64202f25390e7473e378e9b68e00c672bf6c6dd6288cf8"), looks := false }, kinds := [], alts := [], laidByText := true, laidKinds := [.data, .data, .data], laidTests := true, laidLooks := .later }
def SolveTellsCardSaid : Prop := Claim7.holds Tryz.pinned (.plain (OpenSpec.ofChange solveTellsSpec)) solveTellsCard

/-- THE TIED CARD OF 'haulierlaw23.SolveStatus'. -/
def solveStatusCard : Claim7 := { stood := { row := solveStatusRow, standIns := [], harness := (true, "3dac301958a13f3f9b64202f25390e7473e378e9b68e00c672bf6c6dd6288cf8"), looks := false }, kinds := [], alts := [], laidByText := true, laidKinds := [.data, .data, .data], laidTests := true, laidLooks := .later }
def SolveStatusCardSaid : Prop := Claim7.holds Tryz.pinned (.plain (OpenSpec.ofChange solveStatusSpec)) solveStatusCard

/-- THE TIED CARD OF 'haulierlaw23.SolveNotes'. -/
def solveNotesCard : Claim7 := { stood := { row := solveNotesRow, standIns := [], harness := (true, "3dac301958a13f3f9b64202f25390e7473e378e9b68e00c672bf6c6dd6288cf8"), looks := false }, kinds := [], alts := [], laidByText := true, laidKinds := [.data, .data, .data], laidTests := true, laidLooks := .later }
def SolveNotesCardSaid : Prop := Claim7.holds Tryz.pinned (.plain (OpenSpec.ofChange solveNotesSpec)) solveNotesCard

/-- THE TIED CARD OF 'haulierlaw23.SolveText'. -/
def solveTextCard : Claim7 := { stood := { row := solveTextRow, standIns := [], harness := (true, "3dac301958a13f3f9b64202f25390e7473e378e9b68e00c672bf6c6dd6288cf8"), looks := false }, kinds := [], alts := [], laidByText := true, laidKinds := [.data, .data, .data], laidTests := true, laidLooks := .later }
def SolveTextCardSaid : Prop := Claim7.holds Tryz.pinned (.plain (OpenSpec.ofChange solveTextSpec)) solveTextCard

/-- THE TIED CARD OF 'haulierlaw23.SolveAccepted'. -/
def solveAcceptedCard : Claim7 := { stood := { row := solveAcceptedRow, standIns := [], harness := (true, "3dac301958a13f3f9b64202f25390e7473e378e9b68e00c672bf6c6dd6288cf8"), looks := false }, kinds := [], alts := [], laidByText := true, laidKinds := [.data, .data, .data], laidTests := true, laidLooks := .later }
def SolveAcceptedCardSaid : Prop := Claim7.holds Tryz.pinned (.plain (OpenSpec.ofChange solveAcceptedSpec)) solveAcceptedCard

/-- THE TIED CARD OF 'hauliertop.TopBrackets'. -/
def topBracketsCard : Claim7 := { stood := { row := topBracketsRow, standIns := [], harness := (true, "3dac301958a13f3f9b64202f25390e7473e378e9b68e00c672bf6c6dd6288cf8"), looks := false }, kinds := [], alts := [], laidByText := true, laidKinds := [.data, .data, .data], laidTests := true, laidLooks := .later }
def TopBracketsCardSaid : Prop := Claim7.holds Tryz.pinned (.plain (OpenSpec.ofChange topBracketsSpec)) topBracketsCard

/-- THE TIED CARD OF 'hauliertop.TopPairs'. -/
def topPairsCard : Claim7 := { stood := { row := topPairsRow, standIns := [], harness := (true, "3dac301958a13f3f9b64202f25390e7473e378e9b68e00c672bf6c6dd6288cf8"), looks := false }, kinds := [], alts := [], laidByText := true, laidKinds := [.data, .data, .data], laidTests := true, laidLooks := .later }
def TopPairsCardSaid : Prop := Claim7.holds Tryz.pinned (.plain (OpenSpec.ofChange topPairsSpec)) topPairsCard

/-- THE TIED CARD OF 'hauliertop.TopMoves'. -/
def topMovesCard : Claim7 := { stood := { row := topMovesRow, standIns := [], harness := (true, "3dac301958a13f3f9b64202f25390e7473e378e9b68e00c672bf6c6dd6288cf8"), looks := false }, kinds := [], alts := [], laidByText := true, laidKinds := [.data, .data, .data], laidTests := true, laidLooks := .later }
def TopMovesCardSaid : Prop := Claim7.holds Tryz.pinned (.plain (OpenSpec.ofChange topMovesSpec)) topMovesCard

/-- THE SECOND FORM's CARD OF 'haulierlaw23.SolveTells'. -/
def solveTellsUptoCard : Claim7 := { stood := { row := solveTellsUptoRow, standIns := [], harness := (true, "3dac301958a13f3f9b64202f25390e7473e378e9b68e00c672bf6c6dd6288cf8"), looks := false }, kinds := [], alts := [], laidByText := true, laidKinds := [.data, .data, .data], laidTests := true, laidLooks := .later }
def SolveTellsUptoCardSaid : Prop := Claim7.holds Tryz.pinned (.plain (OpenSpec.upto solveTellsSpec)) solveTellsUptoCard

/-- THE SECOND FORM's CARD OF 'haulierlaw23.SolveStatus'. -/
def solveStatusUptoCard : Claim7 := { stood := { row := solveStatusUptoRow, standIns := [], harness := (true, "3dac301958a13f3f9b64202f25390e7473e378e9b68e00c672bf6c6dd6288cf8"), looks := false }, kinds := [], alts := [], laidByText := true, laidKinds := [.data, .data, .data], laidTests := true, laidLooks := .later }
def SolveStatusUptoCardSaid : Prop := Claim7.holds Tryz.pinned (.plain (OpenSpec.upto solveStatusSpec)) solveStatusUptoCard

/-- THE SECOND FORM's CARD OF 'haulierlaw23.SolveNotes'. -/
def solveNotesUptoCard : Claim7 := { stood := { row := solveNotesUptoRow, standIns := [], harness := (true, "3dac301958a13f3f9b64202f25390e7473e378e9b68e00c672bf6c6dd6288cf8"), looks := false }, kinds := [], alts := [], laidByText := true, laidKinds := [.data, .data, .data], laidTests := true, laidLooks := .later }
def SolveNotesUptoCardSaid : Prop := Claim7.holds Tryz.pinned (.plain (OpenSpec.upto solveNotesSpec)) solveNotesUptoCard

/-- THE SECOND FORM's CARD OF 'haulierlaw23.SolveText'. -/
def solveTextUptoCard : Claim7 := { stood := { row := solveTextUptoRow, standIns := [], harness := (true, "3dac301958a13f3f9b64202f25390e7473e378e9b68e00c672bf6c6dd6288cf8"), looks := false }, kinds := [], alts := [], laidByText := true, laidKinds := [.data, .data, .data], laidTests := true, laidLooks := .later }
def SolveTextUptoCardSaid : Prop := Claim7.holds Tryz.pinned (.plain (OpenSpec.upto solveTextSpec)) solveTextUptoCard

/-- THE SECOND FORM's CARD OF 'haulierlaw23.SolveAccepted'. -/
def solveAcceptedUptoCard : Claim7 := { stood := { row := solveAcceptedUptoRow, standIns := [], harness := (true, "3dac301958a13f3f9b64202f25390e7473e378e9b68e00c672bf6c6dd6288cf8"), looks := false }, kinds := [], alts := [], laidByText := true, laidKinds := [.data, .data, .data], laidTests := true, laidLooks := .later }
def SolveAcceptedUptoCardSaid : Prop := Claim7.holds Tryz.pinned (.plain (OpenSpec.upto solveAcceptedSpec)) solveAcceptedUptoCard

/-- THE SECOND FORM's CARD OF 'hauliertop.TopBrackets'. -/
def topBracketsUptoCard : Claim7 := { stood := { row := topBracketsUptoRow, standIns := [], harness := (true, "3dac301958a13f3f9b64202f25390e7473e378e9b68e00c672bf6c6dd6288cf8"), looks := false }, kinds := [], alts := [], laidByText := true, laidKinds := [.data, .data, .data], laidTests := true, laidLooks := .later }
def TopBracketsUptoCardSaid : Prop := Claim7.holds Tryz.pinned (.plain (OpenSpec.upto topBracketsSpec)) topBracketsUptoCard

/-- THE SECOND FORM's CARD OF 'hauliertop.TopPairs'. -/
def topPairsUptoCard : Claim7 := { stood := { row := topPairsUptoRow, standIns := [], harness := (true, "3dac301958a13f3f9b64202f25390e7473e378e9b68e00c672bf6c6dd6288cf8"), looks := false }, kinds := [], alts := [], laidByText := true, laidKinds := [.data, .data, .data], laidTests := true, laidLooks := .later }
def TopPairsUptoCardSaid : Prop := Claim7.holds Tryz.pinned (.plain (OpenSpec.upto topPairsSpec)) topPairsUptoCard

/-- THE SECOND FORM's CARD OF 'hauliertop.TopMoves'. -/
def topMovesUptoCard : Claim7 := { stood := { row := topMovesUptoRow, standIns := [], harness := (true, "3dac301958a13f3f9b64202f25390e7473e378e9b68e00c672bf6c6dd6288cf8"), looks := false }, kinds := [], alts := [], laidByText := true, laidKinds := [.data, .data, .data], laidTests := true, laidLooks := .later }
def TopMovesUptoCardSaid : Prop := Claim7.holds Tryz.pinned (.plain (OpenSpec.upto topMovesSpec)) topMovesUptoCard
end Rows
end Go.Proofs.YtnoifgjiipgpoaaGreatDoor
