/-
  DERIVED. GIVEN WITH THE SEED: THE CARDS: each row of YtiegadfhgccliaaGreatDoorRows.lean that lists a variable, with what it lists TIED to the program's text (the seventh form; the later family's looks); each row that meets fmt, with fmt's text TOLD by the authors' own Lean function (tested against real Go, not proved from fmt's source: count such statements apart). THE CARD IS WHAT COUNTS. Prove the row's statement (the work); the ties are given (YtiegadfhgccliaaGreatDoorTie.lean); close each card by the builder's one call (the guide's Derived/Test/ToyasCard.lean, 'card_holds'). Laid BY PROGRAM, IN A SANDBOX (cutbox-door.mjs). By AI agents, Wed Nov 11 2026. No macro, syntax, notation, axiom, sorry.
-/
import Derived.Test.YtiegadfhgccliaaGreatDoorRows
import GoSem.ClaimSeven
namespace Go.Proofs.YtiegadfhgccliaaGreatDoor
namespace Rows

/-- THE TIED CARD OF 'treeringlaw15.FoldUses'. -/
def foldUsesCard : Claim7 := { stood := { row := foldUsesRow, standIns := [], harness := (true, "6ae5e2aefae569d7441ad4bf5c477ba42bdaccab5fbfebf9edc21bc7dd7fd679"), looks := true }, kinds := [], alts := [], laidByText := true, laidKinds := [.data, .pinned], laidTests := true, laidLooks := .later }
def FoldUsesCardSaid : Prop := Claim7.holds Tryz.pinned (.plain (OpenSpec.ofChange foldUsesSpec)) foldUsesCard

/-- THE TIED CARD OF 'treeringlaw15.FoldIDs'. -/
def foldIDsCard : Claim7 := { stood := { row := foldIDsRow, standIns := [], harness := (true, "6ae5e2aefae569d7441ad4bf5c477ba42bdaccab5fbfebf9edc21bc7dd7fd679"), looks := true }, kinds := [], alts := [], laidByText := true, laidKinds := [.data, .pinned], laidTests := true, laidLooks := .later }
def FoldIDsCardSaid : Prop := Claim7.holds Tryz.pinned (.plain (OpenSpec.ofChange foldIDsSpec)) foldIDsCard

/-- THE TIED CARD OF 'treeringlaw15.FoldPlays'. -/
def foldPlaysCard : Claim7 := { stood := { row := foldPlaysRow, standIns := [], harness := (true, "6ae5e2aefae569d7441ad4bf5c477ba42bdaccab5fbfebf9edc21bc7dd7fd679"), looks := true }, kinds := [], alts := [], laidByText := true, laidKinds := [.data, .pinned], laidTests := true, laidLooks := .later }
def FoldPlaysCardSaid : Prop := Claim7.holds Tryz.pinned (.plain (OpenSpec.ofChange foldPlaysSpec)) foldPlaysCard

/-- THE TIED CARD OF 'treeringlaw15.FoldBuilds'. -/
def foldBuildsCard : Claim7 := { stood := { row := foldBuildsRow, standIns := [], harness := (true, "6ae5e2aefae569d7441ad4bf5c477ba42bdaccab5fbfebf9edc21bc7dd7fd679"), looks := true }, kinds := [], alts := [], laidByText := true, laidKinds := [.data, .pinned], laidTests := true, laidLooks := .later }
def FoldBuildsCardSaid : Prop := Claim7.holds Tryz.pinned (.plain (OpenSpec.ofChange foldBuildsSpec)) foldBuildsCard

/-- THE SECOND FORM's CARD OF 'treeringlaw15.FoldUses'. -/
def foldUsesUptoCard : Claim7 := { stood := { row := foldUsesUptoRow, standIns := [], harness := (true, "6ae5e2aefae569d7441ad4bf5c477ba42bdaccab5fbfebf9edc21bc7dd7fd679"), looks := true }, kinds := [], alts := [], laidByText := true, laidKinds := [.data, .pinned], laidTests := true, laidLooks := .later }
def FoldUsesUptoCardSaid : Prop := Claim7.holds Tryz.pinned (.plain (OpenSpec.upto foldUsesSpec)) foldUsesUptoCard

/-- THE SECOND FORM's CARD OF 'treeringlaw15.FoldIDs'. -/
def foldIDsUptoCard : Claim7 := { stood := { row := foldIDsUptoRow, standIns := [], harness := (true, "6ae5e2aefae569d7441ad4bf5c477ba42bdaccab5fbfebf9edc21bc7dd7fd679"), looks := true }, kinds := [], alts := [], laidByText := true, laidKinds := [.data, .pinned], laidTests := true, laidLooks := .later }
def FoldIDsUptoCardSaid : Prop := Claim7.holds Tryz.pinned (.plain (OpenSpec.upto foldIDsSpec)) foldIDsUptoCard

/-- THE SECOND FORM's CARD OF 'treeringlaw15.FoldPlays'. -/
def foldPlaysUptoCard : Claim7 := { stood := { row := foldPlaysUptoRow, standIns := [], harness := (true, "6ae5e2aefae569d7441ad4bf5c477ba42bdaccab5fbfebf9edc21bc7dd7fd679"), looks := true }, kinds := [], alts := [], laidByText := true, laidKinds := [.data, .pinned], laidTests := true, laidLooks := .later }
def FoldPlaysUptoCardSaid : Prop := Claim7.holds Tryz.pinned (.plain (OpenSpec.upto foldPlaysSpec)) foldPlaysUptoCard

/-- THE SECOND FORM's CARD OF 'treeringlaw15.FoldBuilds'. -/
def foldBuildsUptoCard : Claim7 := { stood := { row := foldBuildsUptoRow, standIns := [], harness := (true, "6ae5e2aefae569d7441ad4bf5c477ba42bdaccab5fbfebf9edc21bc7dd7fd679"), looks := true }, kinds := [], alts := [], laidByText := true, laidKinds := [.data, .pinned], laidTests := true, laidLooks := .later }
def FoldBuildsUptoCardSaid : Prop := Claim7.holds Tryz.pinned (.plain (OpenSpec.upto foldBuildsSpec)) foldBuildsUptoCard
end Rows
end Go.Proofs.YtiegadfhgccliaaGreatDoor
