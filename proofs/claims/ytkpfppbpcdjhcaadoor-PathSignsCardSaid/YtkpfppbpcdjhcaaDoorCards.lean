/-
  DERIVED. GIVEN WITH THE SEED: THE CARDS: each row of YtkpfppbpcdjhcaaDoorRows.lean that lists a variable, with what it lists TIED to the program's text (the seventh form; the later family's looks); each row that meets fmt, with fmt's text TOLD by the authors' own Lean function (tested against real Go, not proved from fmt's source: count such statements apart). THE CARD IS WHAT COUNTS. Prove the row's statement (the work); the ties are given (YtkpfppbpcdjhcaaDoorTie.lean); close each card by the builder's one call (the guide's Derived/Test/ToyasCard.lean, 'card_holds'). Laid BY PROGRAM, IN A SANDBOX (cutbox-door.mjs). By AI agents, Wed Nov 11 2026. No macro, syntax, notation, axiom, sorry.
-/
import Derived.Test.YtkpfppbpcdjhcaaDoorRows
import GoSem.ClaimSeven
namespace Go.Proofs.YtkpfppbpcdjhcaaDoor
namespace Rows

/-- THE TIED CARD OF 'treeringlaw11.PathSplit'. -/
def pathSplitCard : Claim7 := { stood := { row := pathSplitRow, standIns := [], harness := (true, "601b8146b7a28ec4087b286a0d8383d5285eb04949dba05188d49029aeab09a1"), looks := false }, kinds := [], alts := [], laidByText := true, laidKinds := [.data, .pinned], laidTests := true, laidLooks := .later }
def PathSplitCardSaid : Prop := Claim7.holds Tryd.pinned (.plain (OpenSpec.ofChange pathSplitSpec)) pathSplitCard

/-- THE TIED CARD OF 'treeringlaw11.PathUnder'. -/
def pathUnderCard : Claim7 := { stood := { row := pathUnderRow, standIns := [], harness := (true, "601b8146b7a28ec4087b286a0d8383d5285eb04949dba05188d49029aeab09a1"), looks := false }, kinds := [], alts := [], laidByText := true, laidKinds := [.data, .pinned], laidTests := true, laidLooks := .later }
def PathUnderCardSaid : Prop := Claim7.holds Tryd.pinned (.plain (OpenSpec.ofChange pathUnderSpec)) pathUnderCard

/-- THE TIED CARD OF 'treeringlaw11.PathJoin'. -/
def pathJoinCard : Claim7 := { stood := { row := pathJoinRow, standIns := [], harness := (true, "601b8146b7a28ec4087b286a0d8383d5285eb04949dba05188d49029aeab09a1"), looks := false }, kinds := [], alts := [], laidByText := true, laidKinds := [.data, .pinned], laidTests := true, laidLooks := .later }
def PathJoinCardSaid : Prop := Claim7.holds Tryd.pinned (.plain (OpenSpec.ofChange pathJoinSpec)) pathJoinCard

/-- THE TIED CARD OF 'treeringlaw11.PathSigns'. -/
def pathSignsCard : Claim7 := { stood := { row := pathSignsRow, standIns := [], harness := (true, "601b8146b7a28ec4087b286a0d8383d5285eb04949dba05188d49029aeab09a1"), looks := false }, kinds := [], alts := [], laidByText := true, laidKinds := [.data, .pinned], laidTests := true, laidLooks := .later }
def PathSignsCardSaid : Prop := Claim7.holds Tryd.pinned (.plain (OpenSpec.ofChange pathSignsSpec)) pathSignsCard

/-- THE SECOND FORM's CARD OF 'treeringlaw11.PathSplit'. -/
def pathSplitUptoCard : Claim7 := { stood := { row := pathSplitUptoRow, standIns := [], harness := (true, "601b8146b7a28ec4087b286a0d8383d5285eb04949dba05188d49029aeab09a1"), looks := false }, kinds := [], alts := [], laidByText := true, laidKinds := [.data, .pinned], laidTests := true, laidLooks := .later }
def PathSplitUptoCardSaid : Prop := Claim7.holds Tryd.pinned (.plain (OpenSpec.upto pathSplitSpec)) pathSplitUptoCard

/-- THE SECOND FORM's CARD OF 'treeringlaw11.PathUnder'. -/
def pathUnderUptoCard : Claim7 := { stood := { row := pathUnderUptoRow, standIns := [], harness := (true, "601b8146b7a28ec4087b286a0d8383d5285eb04949dba05188d49029aeab09a1"), looks := false }, kinds := [], alts := [], laidByText := true, laidKinds := [.data, .pinned], laidTests := true, laidLooks := .later }
def PathUnderUptoCardSaid : Prop := Claim7.holds Tryd.pinned (.plain (OpenSpec.upto pathUnderSpec)) pathUnderUptoCard

/-- THE SECOND FORM's CARD OF 'treeringlaw11.PathJoin'. -/
def pathJoinUptoCard : Claim7 := { stood := { row := pathJoinUptoRow, standIns := [], harness := (true, "601b8146b7a28ec4087b286a0d8383d5285eb04949dba05188d49029aeab09a1"), looks := false }, kinds := [], alts := [], laidByText := true, laidKinds := [.data, .pinned], laidTests := true, laidLooks := .later }
def PathJoinUptoCardSaid : Prop := Claim7.holds Tryd.pinned (.plain (OpenSpec.upto pathJoinSpec)) pathJoinUptoCard

/-- THE SECOND FORM's CARD OF 'treeringlaw11.PathSigns'. -/
def pathSignsUptoCard : Claim7 := { stood := { row := pathSignsUptoRow, standIns := [], harness := (true, "601b8146b7a28ec4087b286a0d8383d5285eb04949dba05188d49029aeab09a1"), looks := false }, kinds := [], alts := [], laidByText := true, laidKinds := [.data, .pinned], laidTests := true, laidLooks := .later }
def PathSignsUptoCardSaid : Prop := Claim7.holds Tryd.pinned (.plain (OpenSpec.upto pathSignsSpec)) pathSignsUptoCard
end Rows
end Go.Proofs.YtkpfppbpcdjhcaaDoor
