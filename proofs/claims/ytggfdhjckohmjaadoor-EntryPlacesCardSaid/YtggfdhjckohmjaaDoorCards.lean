/-
  DERIVED. GIVEN WITH THE SEED: THE CARDS: each row of YtggfdhjckohmjaaDoorRows.lean that lists a variable, with what it lists TIED to the program's text (the seventh form; the later family's looks); each row that meets fmt, with fmt's text TOLD by the authors' own Lean function (tested against real Go, not proved from fmt's source: count such statements apart). THE CARD IS WHAT COUNTS. Prove the row's statement (the work); the ties are given (YtggfdhjckohmjaaDoorTie.lean); close each card by the builder's one call (the guide's Derived/Test/ToyasCard.lean, 'card_holds'). Laid BY PROGRAM, IN A SANDBOX (cutbox-door.mjs). By AI agents, Wed Nov 11 2026. No macro, syntax, notation, axiom, sorry.
-/
import Derived.Test.YtggfdhjckohmjaaDoorRows
import GoSem.ClaimSeven
namespace Go.Proofs.YtggfdhjckohmjaaDoor
namespace Rows

/-- THE TIED CARD OF 'marllaw07.EntryMaps'. -/
def entryMapsCard : Claim7 := { stood := { row := entryMapsRow, standIns := [], harness := (true, "bbdd91e6fd2be39a213bb78b18dc85c48d0c501f68762fa250c693abb88c8277"), looks := false }, kinds := [], alts := [], laidByText := true, laidKinds := [.data, .pinned], laidTests := true, laidLooks := .later }
def EntryMapsCardSaid : Prop := Claim7.holds Tryd.pinned (.plain (OpenSpec.ofChange entryMapsSpec)) entryMapsCard

/-- THE TIED CARD OF 'marllaw07.EntryDirs'. -/
def entryDirsCard : Claim7 := { stood := { row := entryDirsRow, standIns := [], harness := (true, "bbdd91e6fd2be39a213bb78b18dc85c48d0c501f68762fa250c693abb88c8277"), looks := false }, kinds := [], alts := [], laidByText := true, laidKinds := [.data, .pinned], laidTests := true, laidLooks := .later }
def EntryDirsCardSaid : Prop := Claim7.holds Tryd.pinned (.plain (OpenSpec.ofChange entryDirsSpec)) entryDirsCard

/-- THE TIED CARD OF 'marllaw07.EntryReads'. -/
def entryReadsCard : Claim7 := { stood := { row := entryReadsRow, standIns := [], harness := (true, "bbdd91e6fd2be39a213bb78b18dc85c48d0c501f68762fa250c693abb88c8277"), looks := false }, kinds := [], alts := [], laidByText := true, laidKinds := [.data, .pinned], laidTests := true, laidLooks := .later }
def EntryReadsCardSaid : Prop := Claim7.holds Tryd.pinned (.plain (OpenSpec.ofChange entryReadsSpec)) entryReadsCard

/-- THE TIED CARD OF 'marllaw07.EntryNames'. -/
def entryNamesCard : Claim7 := { stood := { row := entryNamesRow, standIns := [], harness := (true, "bbdd91e6fd2be39a213bb78b18dc85c48d0c501f68762fa250c693abb88c8277"), looks := false }, kinds := [], alts := [], laidByText := true, laidKinds := [.data, .pinned], laidTests := true, laidLooks := .later }
def EntryNamesCardSaid : Prop := Claim7.holds Tryd.pinned (.plain (OpenSpec.ofChange entryNamesSpec)) entryNamesCard

/-- THE TIED CARD OF 'marllaw07.EntryPlaces'. -/
def entryPlacesCard : Claim7 := { stood := { row := entryPlacesRow, standIns := [], harness := (true, "bbdd91e6fd2be39a213bb78b18dc85c48d0c501f68762fa250c693abb88c8277"), looks := false }, kinds := [], alts := [], laidByText := true, laidKinds := [.data, .pinned], laidTests := true, laidLooks := .later }
def EntryPlacesCardSaid : Prop := Claim7.holds Tryd.pinned (.plain (OpenSpec.ofChange entryPlacesSpec)) entryPlacesCard

/-- THE TIED CARD OF 'marllaw07.EntryOne'. -/
def entryOneCard : Claim7 := { stood := { row := entryOneRow, standIns := [], harness := (true, "bbdd91e6fd2be39a213bb78b18dc85c48d0c501f68762fa250c693abb88c8277"), looks := false }, kinds := [], alts := [], laidByText := true, laidKinds := [.data, .pinned], laidTests := true, laidLooks := .later }
def EntryOneCardSaid : Prop := Claim7.holds Tryd.pinned (.plain (OpenSpec.ofChange entryOneSpec)) entryOneCard

/-- THE SECOND FORM's CARD OF 'marllaw07.EntryMaps'. -/
def entryMapsUptoCard : Claim7 := { stood := { row := entryMapsUptoRow, standIns := [], harness := (true, "bbdd91e6fd2be39a213bb78b18dc85c48d0c501f68762fa250c693abb88c8277"), looks := false }, kinds := [], alts := [], laidByText := true, laidKinds := [.data, .pinned], laidTests := true, laidLooks := .later }
def EntryMapsUptoCardSaid : Prop := Claim7.holds Tryd.pinned (.plain (OpenSpec.upto entryMapsSpec)) entryMapsUptoCard

/-- THE SECOND FORM's CARD OF 'marllaw07.EntryDirs'. -/
def entryDirsUptoCard : Claim7 := { stood := { row := entryDirsUptoRow, standIns := [], harness := (true, "bbdd91e6fd2be39a213bb78b18dc85c48d0c501f68762fa250c693abb88c8277"), looks := false }, kinds := [], alts := [], laidByText := true, laidKinds := [.data, .pinned], laidTests := true, laidLooks := .later }
def EntryDirsUptoCardSaid : Prop := Claim7.holds Tryd.pinned (.plain (OpenSpec.upto entryDirsSpec)) entryDirsUptoCard

/-- THE SECOND FORM's CARD OF 'marllaw07.EntryReads'. -/
def entryReadsUptoCard : Claim7 := { stood := { row := entryReadsUptoRow, standIns := [], harness := (true, "bbdd91e6fd2be39a213bb78b18dc85c48d0c501f68762fa250c693abb88c8277"), looks := false }, kinds := [], alts := [], laidByText := true, laidKinds := [.data, .pinned], laidTests := true, laidLooks := .later }
def EntryReadsUptoCardSaid : Prop := Claim7.holds Tryd.pinned (.plain (OpenSpec.upto entryReadsSpec)) entryReadsUptoCard

/-- THE SECOND FORM's CARD OF 'marllaw07.EntryNames'. -/
def entryNamesUptoCard : Claim7 := { stood := { row := entryNamesUptoRow, standIns := [], harness := (true, "bbdd91e6fd2be39a213bb78b18dc85c48d0c501f68762fa250c693abb88c8277"), looks := false }, kinds := [], alts := [], laidByText := true, laidKinds := [.data, .pinned], laidTests := true, laidLooks := .later }
def EntryNamesUptoCardSaid : Prop := Claim7.holds Tryd.pinned (.plain (OpenSpec.upto entryNamesSpec)) entryNamesUptoCard

/-- THE SECOND FORM's CARD OF 'marllaw07.EntryPlaces'. -/
def entryPlacesUptoCard : Claim7 := { stood := { row := entryPlacesUptoRow, standIns := [], harness := (true, "bbdd91e6fd2be39a213bb78b18dc85c48d0c501f68762fa250c693abb88c8277"), looks := false }, kinds := [], alts := [], laidByText := true, laidKinds := [.data, .pinned], laidTests := true, laidLooks := .later }
def EntryPlacesUptoCardSaid : Prop := Claim7.holds Tryd.pinned (.plain (OpenSpec.upto entryPlacesSpec)) entryPlacesUptoCard

/-- THE SECOND FORM's CARD OF 'marllaw07.EntryOne'. -/
def entryOneUptoCard : Claim7 := { stood := { row := entryOneUptoRow, standIns := [], harness := (true, "bbdd91e6fd2be39a213bb78b18dc85c48d0c501f68762fa250c693abb88c8277"), looks := false }, kinds := [], alts := [], laidByText := true, laidKinds := [.data, .pinned], laidTests := true, laidLooks := .later }
def EntryOneUptoCardSaid : Prop := Claim7.holds Tryd.pinned (.plain (OpenSpec.upto entryOneSpec)) entryOneUptoCard
end Rows
end Go.Proofs.YtggfdhjckohmjaaDoor
