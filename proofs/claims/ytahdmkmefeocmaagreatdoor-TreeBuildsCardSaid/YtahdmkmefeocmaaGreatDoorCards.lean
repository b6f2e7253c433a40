/-
  DERIVED. GIVEN WITH THE SEED: THE CARDS: each row of YtahdmkmefeocmaaGreatDoorRows.lean that lists a variable, with what it lists TIED to the program's text (the seventh form; the later family's looks); each row that meets fmt, with fmt's text TOLD by the authors' own Lean function (tested against real Go, not proved from fmt's source: count such statements apart). THE CARD IS WHAT COUNTS. Prove the row's statement (the work); the ties are given (YtahdmkmefeocmaaGreatDoorTie.lean); close each card by the builder's one call (the guide's Derived/Test/ToyasCard.lean, 'card_holds'). Laid BY PROGRAM, IN A SANDBOX (cutbox-door.mjs). By AI agents, Wed Nov 11 2026. No macro, syntax, notation, axiom, sorry.
-/
import Derived.Test.YtahdmkmefeocmaaGreatDoorRows
import GoSem.ClaimSeven
namespace Go.Proofs.YtahdmkmefeocmaaGreatDoor
namespace Rows

/-- THE TIED CARD OF 'treeringlaw13.TreeMoves'. -/
def treeMovesCard : Claim7 := { stood := { row := treeMovesRow, standIns := [], harness := (true, "3f227a3af4e1a723a7941fc7ca56bedfc38d7967a05fc6a567c4c8a30677f0cc"), looks := true }, kinds := [], alts := [], laidByText := true, laidKinds := [.data, .pinned], laidTests := true, laidLooks := .later }
def TreeMovesCardSaid : Prop := Claim7.holds Tryz.pinned (.plain (OpenSpec.ofChange treeMovesSpec)) treeMovesCard

/-- THE TIED CARD OF 'treeringlaw13.TreePlays'. -/
def treePlaysCard : Claim7 := { stood := { row := treePlaysRow, standIns := [], harness := (true, "3f227a3af4e1a723a7941fc7ca56bedfc38d7967a05fc6a567c4c8a30677f0cc"), looks := true }, kinds := [], alts := [], laidByText := true, laidKinds := [.data, .pinned], laidTests := true, laidLooks := .later }
def TreePlaysCardSaid : Prop := Claim7.holds Tryz.pinned (.plain (OpenSpec.ofChange treePlaysSpec)) treePlaysCard

/-- THE TIED CARD OF 'treeringlaw13.TreeBuilds'. -/
def treeBuildsCard : Claim7 := { stood := { row := treeBuildsRow, standIns := [], harness := (true, "3f227a3af4e1a723a7941fc7ca56bedfc38d7967a05fc6a567c4c8a30677f0cc"), looks := true }, kinds := [], alts := [], laidByText := true, laidKinds := [.data, .pinned], laidTests := true, laidLooks := .later }
def TreeBuildsCardSaid : Prop := Claim7.holds Tryz.pinned (.plain (OpenSpec.ofChange treeBuildsSpec)) treeBuildsCard

/-- THE SECOND FORM's CARD OF 'treeringlaw13.TreeMoves'. -/
def treeMovesUptoCard : Claim7 := { stood := { row := treeMovesUptoRow, standIns := [], harness := (true, "3f227a3af4e1a723a7941fc7ca56bedfc38d7967a05fc6a567c4c8a30677f0cc"), looks := true }, kinds := [], alts := [], laidByText := true, laidKinds := [.data, .pinned], laidTests := true, laidLooks := .later }
def TreeMovesUptoCardSaid : Prop := Claim7.holds Tryz.pinned (.plain (OpenSpec.upto treeMovesSpec)) treeMovesUptoCard

/-- THE SECOND FORM's CARD OF 'treeringlaw13.TreePlays'. -/
def treePlaysUptoCard : Claim7 := { stood := { row := treePlaysUptoRow, standIns := [], harness := (true, "3f227a3af4e1a723a7941fc7ca56bedfc38d7967a05fc6a567c4c8a30677f0cc"), looks := true }, kinds := [], alts := [], laidByText := true, laidKinds := [.data, .pinned], laidTests := true, laidLooks := .later }
def TreePlaysUptoCardSaid : Prop := Claim7.holds Tryz.pinned (.plain (OpenSpec.upto treePlaysSpec)) treePlaysUptoCard

/-- THE SECOND FORM's CARD OF 'treeringlaw13.TreeBuilds'. -/
def treeBuildsUptoCard : Claim7 := { stood := { row := treeBuildsUptoRow, standIns := [], harness := (true, "3f227a3af4e1a723a7941fc7ca56bedfc38d7967a05fc6a567c4c8a30677f0cc"), looks := true }, kinds := [], alts := [], laidByText := true, laidKinds := [.data, .pinned], laidTests := true, laidLooks := .later }
def TreeBuildsUptoCardSaid : Prop := Claim7.holds Tryz.pinned (.plain (OpenSpec.upto treeBuildsSpec)) treeBuildsUptoCard
end Rows
end Go.Proofs.YtahdmkmefeocmaaGreatDoor
