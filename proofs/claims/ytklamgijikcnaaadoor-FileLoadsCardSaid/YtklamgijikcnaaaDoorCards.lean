/-
  DERIVED. GIVEN WITH THE SEED: THE CARDS: each row of YtklamgijikcnaaaDoorRows.lean that lists a variable, with what it lists TIED to the program's text (the seventh form; the later family's looks); each row that meets fmt, with fmt's text TOLD by the authors' own Lean function (tested against real Go, not proved from fmt's source: count such statements apart). THE CARD IS WHAT COUNTS. Prove the row's statement (the work); the ties are given (YtklamgijikcnaaaDoorTie.lean); close each card by the builder's one call (the guide's Derived/Test/ToyasCard.lean, 'card_holds'). Laid BY PROGRAM, IN A SANDBOX (cutbox-door.mjs). By AI agents, Wed Nov 11 2026. No macro, syntax, notation, axiom, sorry.
-/
import Derived.Test.YtklamgijikcnaaaDoorRows
import GoSem.ClaimSeven
namespace Go.Proofs.YtklamgijikcnaaaDoor
namespace Rows

/-- THE TIED CARD OF 'marllaw16.FileNeeds'. -/
def fileNeedsCard : Claim7 := { stood := { row := fileNeedsRow, standIns := [], harness := (true, "bfdc3af5349945a674153308ea084a659e201e338dc1cfe212eb9b1cfa8729cf"), looks := false }, kinds := [], alts := [], laidByText := true, laidKinds := [.data], laidTests := true, laidLooks := .later }
def FileNeedsCardSaid : Prop := Claim7.holds Tryd.pinned (.plain (OpenSpec.ofChange fileNeedsSpec)) fileNeedsCard

/-- THE TIED CARD OF 'marllaw16.FileOnce'. -/
def fileOnceCard : Claim7 := { stood := { row := fileOnceRow, standIns := [], harness := (true, "bfdc3af5349945a674153308ea084a659e201e338dc1cfe212eb9b1cfa8729cf"), looks := false }, kinds := [], alts := [], laidByText := true, laidKinds := [.data], laidTests := true, laidLooks := .later }
def FileOnceCardSaid : Prop := Claim7.holds Tryd.pinned (.plain (OpenSpec.ofChange fileOnceSpec)) fileOnceCard

/-- THE TIED CARD OF 'marllaw16.FileMoves'. -/
def fileMovesCard : Claim7 := { stood := { row := fileMovesRow, standIns := [], harness := (true, "bfdc3af5349945a674153308ea084a659e201e338dc1cfe212eb9b1cfa8729cf"), looks := false }, kinds := [], alts := [], laidByText := true, laidKinds := [.data], laidTests := true, laidLooks := .later }
def FileMovesCardSaid : Prop := Claim7.holds Tryd.pinned (.plain (OpenSpec.ofChange fileMovesSpec)) fileMovesCard

/-- THE TIED CARD OF 'marllaw16.FileCuts'. -/
def fileCutsCard : Claim7 := { stood := { row := fileCutsRow, standIns := [], harness := (true, "bfdc3af5349945a674153308ea084a659e201e338dc1cfe212eb9b1cfa8729cf"), looks := false }, kinds := [], alts := [], laidByText := true, laidKinds := [.data], laidTests := true, laidLooks := .later }
def FileCutsCardSaid : Prop := Claim7.holds Tryd.pinned (.plain (OpenSpec.ofChange fileCutsSpec)) fileCutsCard

/-- THE TIED CARD OF 'marllaw16.FileBack'. -/
def fileBackCard : Claim7 := { stood := { row := fileBackRow, standIns := [], harness := (true, "bfdc3af5349945a674153308ea084a659e201e338dc1cfe212eb9b1cfa8729cf"), looks := false }, kinds := [], alts := [], laidByText := true, laidKinds := [.data], laidTests := true, laidLooks := .later }
def FileBackCardSaid : Prop := Claim7.holds Tryd.pinned (.plain (OpenSpec.ofChange fileBackSpec)) fileBackCard

/-- THE TIED CARD OF 'marllaw16.FileLoads'. -/
def fileLoadsCard : Claim7 := { stood := { row := fileLoadsRow, standIns := [], harness := (true, "bfdc3af5349945a674153308ea084a659e201e338dc1cfe212eb9b1cfa8729cf"), looks := false }, kinds := [], alts := [], laidByText := true, laidKinds := [.data], laidTests := true, laidLooks := .later }
def FileLoadsCardSaid : Prop := Claim7.holds Tryd.pinned (.plain (OpenSpec.ofChange fileLoadsSpec)) fileLoadsCard

/-- THE SECOND FORM's CARD OF 'marllaw16.FileNeeds'. -/
def fileNeedsUptoCard : Claim7 := { stood := { row := fileNeedsUptoRow, standIns := [], harness := (true, "bfdc3af5349945a674153308ea084a659e201e338dc1cfe212eb9b1cfa8729cf"), looks := false }, kinds := [], alts := [], laidByText := true, laidKinds := [.data], laidTests := true, laidLooks := .later }
def FileNeedsUptoCardSaid : Prop := Claim7.holds Tryd.pinned (.plain (OpenSpec.upto fileNeedsSpec)) fileNeedsUptoCard

/-- THE SECOND FORM's CARD OF 'marllaw16.FileOnce'. -/
def fileOnceUptoCard : Claim7 := { stood := { row := fileOnceUptoRow, standIns := [], harness := (true, "bfdc3af5349945a674153308ea084a659e201e338dc1cfe212eb9b1cfa8729cf"), looks := false }, kinds := [], alts := [], laidByText := true, laidKinds := [.data], laidTests := true, laidLooks := .later }
def FileOnceUptoCardSaid : Prop := Claim7.holds Tryd.pinned (.plain (OpenSpec.upto fileOnceSpec)) fileOnceUptoCard

/-- THE SECOND FORM's CARD OF 'marllaw16.FileMoves'. -/
def fileMovesUptoCard : Claim7 := { stood := { row := fileMovesUptoRow, standIns := [], harness := (true, "bfdc3af5349945a674153308ea084a659e201e338dc1cfe212eb9b1cfa8729cf"), looks := false }, kinds := [], alts := [], laidByText := true, laidKinds := [.data], laidTests := true, laidLooks := .later }
def FileMovesUptoCardSaid : Prop := Claim7.holds Tryd.pinned (.plain (OpenSpec.upto fileMovesSpec)) fileMovesUptoCard

/-- THE SECOND FORM's CARD OF 'marllaw16.FileCuts'. -/
def fileCutsUptoCard : Claim7 := { stood := { row := fileCutsUptoRow, standIns := [], harness := (true, "bfdc3af5349945a674153308ea084a659e201e338dc1cfe212eb9b1cfa8729cf"), looks := false }, kinds := [], alts := [], laidByText := true, laidKinds := [.data], laidTests := true, laidLooks := .later }
def FileCutsUptoCardSaid : Prop := Claim7.holds Tryd.pinned (.plain (OpenSpec.upto fileCutsSpec)) fileCutsUptoCard

/-- THE SECOND FORM's CARD OF 'marllaw16.FileBack'. -/
def fileBackUptoCard : Claim7 := { stood := { row := fileBackUptoRow, standIns := [], harness := (true, "bfdc3af5349945a674153308ea084a659e201e338dc1cfe212eb9b1cfa8729cf"), looks := false }, kinds := [], alts := [], laidByText := true, laidKinds := [.data], laidTests := true, laidLooks := .later }
def FileBackUptoCardSaid : Prop := Claim7.holds Tryd.pinned (.plain (OpenSpec.upto fileBackSpec)) fileBackUptoCard

/-- THE SECOND FORM's CARD OF 'marllaw16.FileLoads'. -/
def fileLoadsUptoCard : Claim7 := { stood := { row := fileLoadsUptoRow, standIns := [], harness := (true, "bfdc3af5349945a674153308ea084a659e201e338dc1cfe212eb9b1cfa8729cf"), looks := false }, kinds := [], alts := [], laidByText := true, laidKinds := [.data], laidTests := true, laidLooks := .later }
def FileLoadsUptoCardSaid : Prop := Claim7.holds Tryd.pinned (.plain (OpenSpec.upto fileLoadsSpec)) fileLoadsUptoCard
end Rows
end Go.Proofs.YtklamgijikcnaaaDoor
