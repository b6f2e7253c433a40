/-
  NARROWER THAN 'FOR EVERY INPUT', by the rows' own cells (each row's printed sentence says how): PathSplit: laid · PathUnder: laid · PathJoin: laid · PathSigns: laid.
  DERIVED. THE GIVEN ROWS OF THIS SEAT. 4 by the template 'for every input the law returns true; each argument reads behind the call as it read before'; 0 by the template 'total and deterministic' (their statements: YtkpfppbpcdjhcaaDoorTotals.lean).
  GIVEN WITH THE SEED: the statements are not yours to turn. If you find one false, say at which input.
  Laid BY PROGRAM, IN A SANDBOX (cutbox-rows.mjs): the forced cells as the released guide's own fill.sh prints them over the translation 4e3fcf572008f4a3… (all of the seat's roots in one cut). By AI agents, Wed Nov 11 2026. No macro, syntax, notation, axiom, sorry.
-/
import Derived.Test.YtkpfppbpcdjhcaaDoorChecked
import GoSem.PinnedTables
import GoSem.Claim
import GoSem.ClaimJoined
import GoSem.ClaimMapViews
import Derived.JoinedTies
import Derived.KernelRfl
namespace Go.Proofs.YtkpfppbpcdjhcaaDoor
/- THE CELL 'sum', in the pinned program and in every row, IS THE sha256 OF THE DUMP (.gsa) THAT YtkpfppbpcdjhcaaDoorProg.lean LOADS. Nothing in Lean hashes anything: it is a label: what it is worth is what the hold of that sum in a sandbox is worth. -/
noncomputable def Tryd.pinned : Pinned := { name := "ytkpfppbpcdjhcaadoor", sum := "4e3fcf572008f4a366501431105a0a5ed0f33f1f223b2259bd68c36ecb1c1ebc", checked := Tryd.checked }
namespace Rows
def none {H : Type} : Left H := { results := [], args := [] }

/- WHAT THE LISTED PACKAGE-LEVEL VARIABLES READ AS WHEN THE CALL BEGINS. Each datum BY PROGRAM (the guide's laid-datum.mjs) off the statement by which the dump's own 'gosem.cut.vars' lays the variable. In a bare row this is a premise. The card (YtkpfppbpcdjhcaaDoorCards.lean) ties it to the program's text. -/
def laid_unicode_utf8_acceptRanges {H : Type} : DataW H := .agg [.agg [.lit (.int .u8 128), .lit (.int .u8 191)], .agg [.lit (.int .u8 160), .lit (.int .u8 191)], .agg [.lit (.int .u8 128), .lit (.int .u8 159)], .agg [.lit (.int .u8 144), .lit (.int .u8 191)], .agg [.lit (.int .u8 128), .lit (.int .u8 143)], .agg [.lit (.int .u8 0), .lit (.int .u8 0)], .agg [.lit (.int .u8 0), .lit (.int .u8 0)], .agg [.lit (.int .u8 0), .lit (.int .u8 0)], .agg [.lit (.int .u8 0), .lit (.int .u8 0)], .agg [.lit (.int .u8 0), .lit (.int .u8 0)], .agg [.lit (.int .u8 0), .lit (.int .u8 0)], .agg [.lit (.int .u8 0), .lit (.int .u8 0)], .agg [.lit (.int .u8 0), .lit (.int .u8 0)], .agg [.lit (.int .u8 0), .lit (.int .u8 0)], .agg [.lit (.int .u8 0), .lit (.int .u8 0)], .agg [.lit (.int .u8 0), .lit (.int .u8 0)]]
/-- One of Go's own tables, pinned by name: the form's constant. -/
def laid_unicode_utf8_first : DataW Unit := Go.Pinned.utf8First

/-- 'treeringlaw11.PathSplit': WHATEVER THE INPUT: true; the input reads as it did. -/
def pathSplitSpec : ChangeSpec := { name := "pathSplit", fn := fun _ => fun
  | [d1, d2] => { results := [.lit (.bool true)], args := [d1, d2] }
  | _ => none }
def pathSplitRow : OpenClaim := { program := "ytkpfppbpcdjhcaadoor", sum := "4e3fcf572008f4a366501431105a0a5ed0f33f1f223b2259bd68c36ecb1c1ebc", func := "treering/treeringlaw11.PathSplit", spec := "pathSplit", inPlace := ["internal/bytealg.CountString", "internal/bytealg.IndexByteString", "internal/bytealg.IndexString", "internal/abi.NoEscape", "internal/bytealg.MakeNoZero"], unfollowed := true, recurses := true, named := ["unicode/utf8.first", "unicode/utf8.acceptRanges", "internal/bytealg.MaxLen"], apart := false, laid := [("unicode/utf8.acceptRanges", laid_unicode_utf8_acceptRanges), ("unicode/utf8.first", laid_unicode_utf8_first)] }
def PathSplitSaid : Prop := pathSplitRow.holds Tryd.pinned (OpenSpec.ofChange pathSplitSpec)

/-- ITS FALSE NEIGHBOUR: 'it returns false'. Refute it at one input. -/
def pathSplitWrong : ChangeSpec := { name := "pathSplit", fn := fun _ => fun
  | [d1, d2] => { results := [.lit (.bool false)], args := [d1, d2] }
  | _ => none }
def PathSplitWrongFalsely : Prop := pathSplitRow.holds Tryd.pinned (OpenSpec.ofChange pathSplitWrong)

/-- 'treeringlaw11.PathUnder': WHATEVER THE INPUT: true; the input reads as it did. -/
def pathUnderSpec : ChangeSpec := { name := "pathUnder", fn := fun _ => fun
  | [d1, d2, d3] => { results := [.lit (.bool true)], args := [d1, d2, d3] }
  | _ => none }
def pathUnderRow : OpenClaim := { program := "ytkpfppbpcdjhcaadoor", sum := "4e3fcf572008f4a366501431105a0a5ed0f33f1f223b2259bd68c36ecb1c1ebc", func := "treering/treeringlaw11.PathUnder", spec := "pathUnder", inPlace := ["internal/bytealg.CountString", "internal/bytealg.IndexByteString", "internal/bytealg.IndexString", "internal/abi.NoEscape", "internal/bytealg.MakeNoZero"], unfollowed := true, recurses := true, named := ["unicode/utf8.first", "unicode/utf8.acceptRanges", "internal/bytealg.MaxLen"], apart := false, laid := [("unicode/utf8.acceptRanges", laid_unicode_utf8_acceptRanges), ("unicode/utf8.first", laid_unicode_utf8_first)] }
def PathUnderSaid : Prop := pathUnderRow.holds Tryd.pinned (OpenSpec.ofChange pathUnderSpec)

/-- ITS FALSE NEIGHBOUR: 'it returns false'. Refute it at one input. -/
def pathUnderWrong : ChangeSpec := { name := "pathUnder", fn := fun _ => fun
  | [d1, d2, d3] => { results := [.lit (.bool false)], args := [d1, d2, d3] }
  | _ => none }
def PathUnderWrongFalsely : Prop := pathUnderRow.holds Tryd.pinned (OpenSpec.ofChange pathUnderWrong)

/-- 'treeringlaw11.PathJoin': WHATEVER THE INPUT: true; the input reads as it did. -/
def pathJoinSpec : ChangeSpec := { name := "pathJoin", fn := fun _ => fun
  | [d] => { results := [.lit (.bool true)], args := [d] }
  | _ => none }
def pathJoinRow : OpenClaim := { program := "ytkpfppbpcdjhcaadoor", sum := "4e3fcf572008f4a366501431105a0a5ed0f33f1f223b2259bd68c36ecb1c1ebc", func := "treering/treeringlaw11.PathJoin", spec := "pathJoin", inPlace := ["internal/bytealg.CountString", "internal/bytealg.IndexByteString", "internal/bytealg.IndexString", "internal/abi.NoEscape", "internal/bytealg.MakeNoZero"], unfollowed := true, recurses := true, named := ["unicode/utf8.first", "unicode/utf8.acceptRanges", "internal/bytealg.MaxLen"], apart := false, laid := [("unicode/utf8.acceptRanges", laid_unicode_utf8_acceptRanges), ("unicode/utf8.first", laid_unicode_utf8_first)] }
def PathJoinSaid : Prop := pathJoinRow.holds Tryd.pinned (OpenSpec.ofChange pathJoinSpec)

/-- ITS FALSE NEIGHBOUR: 'it returns false'. Refute it at one input. -/
def pathJoinWrong : ChangeSpec := { name := "pathJoin", fn := fun _ => fun
  | [d] => { results := [.lit (.bool false)], args := [d] }
  | _ => none }
def PathJoinWrongFalsely : Prop := pathJoinRow.holds Tryd.pinned (OpenSpec.ofChange pathJoinWrong)

/-- 'treeringlaw11.PathSigns': WHATEVER THE INPUT: true; the input reads as it did. -/
def pathSignsSpec : ChangeSpec := { name := "pathSigns", fn := fun _ => fun
  | [d1, d2, d3] => { results := [.lit (.bool true)], args := [d1, d2, d3] }
  | _ => none }
def pathSignsRow : OpenClaim := { program := "ytkpfppbpcdjhcaadoor", sum := "4e3fcf572008f4a366501431105a0a5ed0f33f1f223b2259bd68c36ecb1c1ebc", func := "treering/treeringlaw11.PathSigns", spec := "pathSigns", inPlace := ["internal/bytealg.CountString", "internal/bytealg.IndexByteString", "internal/bytealg.IndexString", "internal/abi.NoEscape", "internal/bytealg.MakeNoZero"], unfollowed := true, recurses := true, named := ["unicode/utf8.first", "unicode/utf8.acceptRanges", "internal/bytealg.MaxLen"], apart := false, laid := [("unicode/utf8.acceptRanges", laid_unicode_utf8_acceptRanges), ("unicode/utf8.first", laid_unicode_utf8_first)] }
def PathSignsSaid : Prop := pathSignsRow.holds Tryd.pinned (OpenSpec.ofChange pathSignsSpec)

/-- ITS FALSE NEIGHBOUR: 'it returns false'. Refute it at one input. -/
def pathSignsWrong : ChangeSpec := { name := "pathSigns", fn := fun _ => fun
  | [d1, d2, d3] => { results := [.lit (.bool false)], args := [d1, d2, d3] }
  | _ => none }
def PathSignsWrongFalsely : Prop := pathSignsRow.holds Tryd.pinned (OpenSpec.ofChange pathSignsWrong)

/- THE SECOND FORM. 'bulk': how many values and letters a reading holds, each counted each time it is reached (what is shared counts as often as it is met; a slice's spare places count too). A statement '..UptoSaid' is the law's where the arguments, and the package variables that the reading takes, are together of bulk at most 1048576: NARROWER than '..Said'. Prove '..Said' where nothing that the law and all that it calls make is longer than what came in: it says more and counts as full. Else prove '..UptoSaid'. A law counts once. -/
mutual
def uptoBulk {H : Type} : DataW H → Nat
  | .lit (.string bytes) => bytes.length + 1
  | .lit _ => 1
  | .nil => 1
  | .ptr d => uptoBulk d + 1
  | .slice elems spare => uptoBulkAll elems + uptoBulkAll spare + 1
  | .agg parts => uptoBulkAll parts + 1
  | .iface _ d => uptoBulk d + 1
  | .map entries => uptoBulkEntries entries + 1
  | .held _ => 1
def uptoBulkAll {H : Type} : List (DataW H) → Nat
  | [] => 0
  | d :: r => uptoBulk d + uptoBulkAll r
def uptoBulkEntries {H : Type} : List (Lit × DataW H) → Nat
  | [] => 0
  | x :: r => uptoBulkEntry x + uptoBulkEntries r
def uptoBulkEntry {H : Type} : Lit × DataW H → Nat
  | (.string bytes, d) => bytes.length + uptoBulk d + 1
  | (_, d) => uptoBulk d + 1
 end
def uptoSmall : (H : Type) → List (DataW H) → Bool := fun _ ds => decide (uptoBulkAll ds ≤ 1048576)
def OpenSpec.upto (s : _root_.Go.ChangeSpec) : _root_.Go.OpenSpec := { _root_.Go.OpenSpec.ofChange s with cond := some uptoSmall }

/-- 'treeringlaw11.PathSplit', WHERE WHAT IT READS IS OF BULK AT MOST 1048576: true; the input reads as it did. -/
def pathSplitUptoRow : OpenClaim := { program := "ytkpfppbpcdjhcaadoor", sum := "4e3fcf572008f4a366501431105a0a5ed0f33f1f223b2259bd68c36ecb1c1ebc", func := "treering/treeringlaw11.PathSplit", spec := "pathSplit", inPlace := ["internal/bytealg.CountString", "internal/bytealg.IndexByteString", "internal/bytealg.IndexString", "internal/abi.NoEscape", "internal/bytealg.MakeNoZero"], unfollowed := true, recurses := true, named := ["unicode/utf8.first", "unicode/utf8.acceptRanges", "internal/bytealg.MaxLen"], apart := false, laid := [("unicode/utf8.acceptRanges", laid_unicode_utf8_acceptRanges), ("unicode/utf8.first", laid_unicode_utf8_first)], narrowed := true }
def PathSplitUptoSaid : Prop := pathSplitUptoRow.holds Tryd.pinned (OpenSpec.upto pathSplitSpec)

/-- 'treeringlaw11.PathUnder', WHERE WHAT IT READS IS OF BULK AT MOST 1048576: true; the input reads as it did. -/
def pathUnderUptoRow : OpenClaim := { program := "ytkpfppbpcdjhcaadoor", sum := "4e3fcf572008f4a366501431105a0a5ed0f33f1f223b2259bd68c36ecb1c1ebc", func := "treering/treeringlaw11.PathUnder", spec := "pathUnder", inPlace := ["internal/bytealg.CountString", "internal/bytealg.IndexByteString", "internal/bytealg.IndexString", "internal/abi.NoEscape", "internal/bytealg.MakeNoZero"], unfollowed := true, recurses := true, named := ["unicode/utf8.first", "unicode/utf8.acceptRanges", "internal/bytealg.MaxLen"], apart := false, laid := [("unicode/utf8.acceptRanges", laid_unicode_utf8_acceptRanges), ("unicode/utf8.first", laid_unicode_utf8_first)], narrowed := true }
def PathUnderUptoSaid : Prop := pathUnderUptoRow.holds Tryd.pinned (OpenSpec.upto pathUnderSpec)

/-- 'treeringlaw11.PathJoin', WHERE WHAT IT READS IS OF BULK AT MOST 1048576: true; the input reads as it did. -/
def pathJoinUptoRow : OpenClaim := { program := "ytkpfppbpcdjhcaadoor", sum := "4e3fcf572008f4a366501431105a0a5ed0f33f1f223b2259bd68c36ecb1c1ebc", func := "treering/treeringlaw11.PathJoin", spec := "pathJoin", inPlace := ["internal/bytealg.CountString", "internal/bytealg.IndexByteString", "internal/bytealg.IndexString", "internal/abi.NoEscape", "internal/bytealg.MakeNoZero"], unfollowed := true, recurses := true, named := ["unicode/utf8.first", "unicode/utf8.acceptRanges", "internal/bytealg.MaxLen"], apart := false, laid := [("unicode/utf8.acceptRanges", laid_unicode_utf8_acceptRanges), ("unicode/utf8.first", laid_unicode_utf8_first)], narrowed := true }
def PathJoinUptoSaid : Prop := pathJoinUptoRow.holds Tryd.pinned (OpenSpec.upto pathJoinSpec)

/-- 'treeringlaw11.PathSigns', WHERE WHAT IT READS IS OF BULK AT MOST 1048576: true; the input reads as it did. -/
def pathSignsUptoRow : OpenClaim := { program := "ytkpfppbpcdjhcaadoor", sum := "4e3fcf572008f4a366501431105a0a5ed0f33f1f223b2259bd68c36ecb1c1ebc", func := "treering/treeringlaw11.PathSigns", spec := "pathSigns", inPlace := ["internal/bytealg.CountString", "internal/bytealg.IndexByteString", "internal/bytealg.IndexString", "internal/abi.NoEscape", "internal/bytealg.MakeNoZero"], unfollowed := true, recurses := true, named := ["unicode/utf8.first", "unicode/utf8.acceptRanges", "internal/bytealg.MaxLen"], apart := false, laid := [("unicode/utf8.acceptRanges", laid_unicode_utf8_acceptRanges), ("unicode/utf8.first", laid_unicode_utf8_first)], narrowed := true }
def PathSignsUptoSaid : Prop := pathSignsUptoRow.holds Tryd.pinned (OpenSpec.upto pathSignsSpec)

end Rows
end Go.Proofs.YtkpfppbpcdjhcaaDoor
