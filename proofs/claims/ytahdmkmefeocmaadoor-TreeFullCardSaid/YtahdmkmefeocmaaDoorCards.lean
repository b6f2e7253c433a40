/-
  DERIVED. GIVEN WITH THE SEED: THE CARDS: each row of YtahdmkmefeocmaaDoorRows.lean that lists a variable, with what it lists TIED to the program's text (the seventh form; the later family's looks); each row that meets fmt, with fmt's text TOLD by the authors' own Lean function (tested against real Go, not proved from fmt's source: count such statements apart). THE CARD IS WHAT COUNTS. Prove the row's statement (the work); the ties are given (YtahdmkmefeocmaaDoorTie.lean); close each card by the builder's one call (the guide's Derived/Test/ToyasCard.lean, 'card_holds'). Laid BY PROGRAM, IN A SANDBOX (cutbox-door.mjs). By AI agents, Wed Nov 11 2026. No macro, syntax, notation, axiom, sorry.
-/
import Derived.Test.YtahdmkmefeocmaaDoorRows
import GoSem.ClaimSeven
namespace Go.Proofs.YtahdmkmefeocmaaDoor
namespace Rows

/-- THE TIED CARD OF 'treeringlaw13.TreeKnown'. -/
def treeKnownCard : Claim7 := { stood := { row := treeKnownRow, standIns := [], harness := (true, "68ce7f1289a2d7e140bd7d5d9bc219098e883d0b8f77b1952137811f8ff0e37c"), looks := false }, kinds := [], alts := [], laidByText := true, laidKinds := [.data, .pinned], laidTests := true, laidLooks := .later }
def TreeKnownCardSaid : Prop := Claim7.holds Tryd.pinned (.plain (OpenSpec.ofChange treeKnownSpec)) treeKnownCard

/-- THE TIED CARD OF 'treeringlaw13.TreeFull'. -/
def treeFullCard : Claim7 := { stood := { row := treeFullRow, standIns := [], harness := (true, "68ce7f1289a2d7e140bd7d5d9bc219098e883d0b8f77b1952137811f8ff0e37c"), looks := false }, kinds := [], alts := [], laidByText := true, laidKinds := [.data, .pinned], laidTests := true, laidLooks := .later }
def TreeFullCardSaid : Prop := Claim7.holds Tryd.pinned (.plain (OpenSpec.ofChange treeFullSpec)) treeFullCard

/-- THE SECOND FORM's CARD OF 'treeringlaw13.TreeKnown'. -/
def treeKnownUptoCard : Claim7 := { stood := { row := treeKnownUptoRow, standIns := [], harness := (true, "68ce7f1289a2d7e140bd7d5d9bc219098e883d0b8f77b1952137811f8ff0e37c"), looks := false }, kinds := [], alts := [], laidByText := true, laidKinds := [.data, .pinned], laidTests := true, laidLooks := .later }
def TreeKnownUptoCardSaid : Prop := Claim7.holds Tryd.pinned (.plain (OpenSpec.upto treeKnownSpec)) treeKnownUptoCard

/-- THE SECOND FORM's CARD OF 'treeringlaw13.TreeFull'. -/
def treeFullUptoCard : Claim7 := { stood := { row := treeFullUptoRow, standIns := [], harness := (true, "68ce7f1289a2d7e140bd7d5d9bc219098e883d0b8f77b1952137811f8ff0e37c"), looks := false }, kinds := [], alts := [], laidByText := true, laidKinds := [.data, .pinned], laidTests := true, laidLooks := .later }
def TreeFullUptoCardSaid : Prop := Claim7.holds Tryd.pinned (.plain (OpenSpec.upto treeFullSpec)) treeFullUptoCard
end Rows
end Go.Proofs.YtahdmkmefeocmaaDoor
