/-
  No cell of these rows narrows 'for every input' (looked for: loops, veiled, ifaces, maps, wideKeys, modest, calm, conditions, laid).
  DERIVED. THE GIVEN ROWS OF THIS SEAT. 15 by the template 'for every input the law returns true; each argument reads behind the call as it read before'; 0 by the template 'total and deterministic' (their statements: YtddnhjpclglclaaTotals.lean).
  GIVEN WITH THE SEED: the statements are not yours to turn. If you find one false, say at which input.
  Laid BY PROGRAM, IN A SANDBOX (cutbox-rows.mjs): the forced cells as the released guide's own fill.sh prints them over the translation ca633db5b71ac22e… (all of the seat's roots in one cut). By AI agents, Wed Nov 11 2026. No macro, syntax, notation, axiom, sorry.
-/
import Derived.Test.YtddnhjpclglclaaChecked
import GoSem.Claim
import GoSem.ClaimJoined
import GoSem.ClaimMapViews
import Derived.JoinedTies
import Derived.KernelRfl
namespace Go.Proofs.Ytddnhjpclglclaa
/- THE CELL 'sum', in the pinned program and in every row, IS THE sha256 OF THE DUMP (.gsa) THAT YtddnhjpclglclaaProg.lean LOADS. Nothing in Lean hashes anything: it is a label: what it is worth is what the hold of that sum in a sandbox is worth. -/
noncomputable def Try.pinned : Pinned := { name := "ytddnhjpclglclaa", sum := "ca633db5b71ac22e3a3dba46740be21e77ef79d7b5ae58f6ab0d94493e0e2abf", checked := Try.checked }
namespace Rows
def none {H : Type} : Left H := { results := [], args := [] }

/-- 'treeringlaw18.PointsOrder': WHATEVER THE INPUT: true; the input reads as it did. -/
def pointsOrderSpec : ChangeSpec := { name := "pointsOrder", fn := fun _ => fun
  | [d1, d2, d3] => { results := [.lit (.bool true)], args := [d1, d2, d3] }
  | _ => none }
def pointsOrderRow : OpenClaim := { program := "ytddnhjpclglclaa", sum := "ca633db5b71ac22e3a3dba46740be21e77ef79d7b5ae58f6ab0d94493e0e2abf", func := "treering/treeringlaw18.PointsOrder", spec := "pointsOrder", inPlace := ["math.Float64bits", "math.Float64frombits"], unfollowed := true, recurses := true, apart := false }
def PointsOrderSaid : Prop := pointsOrderRow.holds Try.pinned (OpenSpec.ofChange pointsOrderSpec)

/-- ITS FALSE NEIGHBOUR: 'it returns false'. Refute it at one input. -/
def pointsOrderWrong : ChangeSpec := { name := "pointsOrder", fn := fun _ => fun
  | [d1, d2, d3] => { results := [.lit (.bool false)], args := [d1, d2, d3] }
  | _ => none }
def PointsOrderWrongFalsely : Prop := pointsOrderRow.holds Try.pinned (OpenSpec.ofChange pointsOrderWrong)

/-- 'treeringlaw18.PointsParts': WHATEVER THE INPUT: true; the input reads as it did. -/
def pointsPartsSpec : ChangeSpec := { name := "pointsParts", fn := fun _ => fun
  | [d1, d2, d3] => { results := [.lit (.bool true)], args := [d1, d2, d3] }
  | _ => none }
def pointsPartsRow : OpenClaim := { program := "ytddnhjpclglclaa", sum := "ca633db5b71ac22e3a3dba46740be21e77ef79d7b5ae58f6ab0d94493e0e2abf", func := "treering/treeringlaw18.PointsParts", spec := "pointsParts", inPlace := ["math.Float64bits", "math.Float64frombits"], unfollowed := true, recurses := true, apart := false }
def PointsPartsSaid : Prop := pointsPartsRow.holds Try.pinned (OpenSpec.ofChange pointsPartsSpec)

/-- ITS FALSE NEIGHBOUR: 'it returns false'. Refute it at one input. -/
def pointsPartsWrong : ChangeSpec := { name := "pointsParts", fn := fun _ => fun
  | [d1, d2, d3] => { results := [.lit (.bool false)], args := [d1, d2, d3] }
  | _ => none }
def PointsPartsWrongFalsely : Prop := pointsPartsRow.holds Try.pinned (OpenSpec.ofChange pointsPartsWrong)

/-- 'treeringlaw3.AgeBuckets': WHATEVER THE INPUT: true; the input reads as it did. -/
def ageBucketsSpec : ChangeSpec := { name := "ageBuckets", fn := fun _ => fun
  | [d1, d2, d3] => { results := [.lit (.bool true)], args := [d1, d2, d3] }
  | _ => none }
def ageBucketsRow : OpenClaim := { program := "ytddnhjpclglclaa", sum := "ca633db5b71ac22e3a3dba46740be21e77ef79d7b5ae58f6ab0d94493e0e2abf", func := "treering/treeringlaw3.AgeBuckets", spec := "ageBuckets", inPlace := ["math.Float64bits", "math.Float64frombits", "math.archFloor", "math.archTrunc"], apart := false }
def AgeBucketsSaid : Prop := ageBucketsRow.holds Try.pinned (OpenSpec.ofChange ageBucketsSpec)

/-- ITS FALSE NEIGHBOUR: 'it returns false'. Refute it at one input. -/
def ageBucketsWrong : ChangeSpec := { name := "ageBuckets", fn := fun _ => fun
  | [d1, d2, d3] => { results := [.lit (.bool false)], args := [d1, d2, d3] }
  | _ => none }
def AgeBucketsWrongFalsely : Prop := ageBucketsRow.holds Try.pinned (OpenSpec.ofChange ageBucketsWrong)

/-- 'treeringlaw3.AgeSums': WHATEVER THE INPUT: true; the input reads as it did. -/
def ageSumsSpec : ChangeSpec := { name := "ageSums", fn := fun _ => fun
  | [d1, d2, d3] => { results := [.lit (.bool true)], args := [d1, d2, d3] }
  | _ => none }
def ageSumsRow : OpenClaim := { program := "ytddnhjpclglclaa", sum := "ca633db5b71ac22e3a3dba46740be21e77ef79d7b5ae58f6ab0d94493e0e2abf", func := "treering/treeringlaw3.AgeSums", spec := "ageSums", inPlace := ["math.Float64bits", "math.Float64frombits", "math.archFloor", "math.archTrunc"], apart := false }
def AgeSumsSaid : Prop := ageSumsRow.holds Try.pinned (OpenSpec.ofChange ageSumsSpec)

/-- ITS FALSE NEIGHBOUR: 'it returns false'. Refute it at one input. -/
def ageSumsWrong : ChangeSpec := { name := "ageSums", fn := fun _ => fun
  | [d1, d2, d3] => { results := [.lit (.bool false)], args := [d1, d2, d3] }
  | _ => none }
def AgeSumsWrongFalsely : Prop := ageSumsRow.holds Try.pinned (OpenSpec.ofChange ageSumsWrong)

/-- 'treeringlaw18.PointsAsk': WHATEVER THE INPUT: true; the input reads as it did. -/
def pointsAskSpec : ChangeSpec := { name := "pointsAsk", fn := fun _ => fun
  | [d1, d2, d3] => { results := [.lit (.bool true)], args := [d1, d2, d3] }
  | _ => none }
def pointsAskRow : OpenClaim := { program := "ytddnhjpclglclaa", sum := "ca633db5b71ac22e3a3dba46740be21e77ef79d7b5ae58f6ab0d94493e0e2abf", func := "treering/treeringlaw18.PointsAsk", spec := "pointsAsk", inPlace := ["math.Float64bits", "math.Float64frombits"], unfollowed := true, recurses := true, apart := false }
def PointsAskSaid : Prop := pointsAskRow.holds Try.pinned (OpenSpec.ofChange pointsAskSpec)

/-- ITS FALSE NEIGHBOUR: 'it returns false'. Refute it at one input. -/
def pointsAskWrong : ChangeSpec := { name := "pointsAsk", fn := fun _ => fun
  | [d1, d2, d3] => { results := [.lit (.bool false)], args := [d1, d2, d3] }
  | _ => none }
def PointsAskWrongFalsely : Prop := pointsAskRow.holds Try.pinned (OpenSpec.ofChange pointsAskWrong)

/-- 'treeringlaw18.PointsSeq': WHATEVER THE INPUT: true; the input reads as it did. -/
def pointsSeqSpec : ChangeSpec := { name := "pointsSeq", fn := fun _ => fun
  | [d] => { results := [.lit (.bool true)], args := [d] }
  | _ => none }
def pointsSeqRow : OpenClaim := { program := "ytddnhjpclglclaa", sum := "ca633db5b71ac22e3a3dba46740be21e77ef79d7b5ae58f6ab0d94493e0e2abf", func := "treering/treeringlaw18.PointsSeq", spec := "pointsSeq", inPlace := ["math.Float64bits", "math.Float64frombits"], unfollowed := true, recurses := true, apart := false }
def PointsSeqSaid : Prop := pointsSeqRow.holds Try.pinned (OpenSpec.ofChange pointsSeqSpec)

/-- ITS FALSE NEIGHBOUR: 'it returns false'. Refute it at one input. -/
def pointsSeqWrong : ChangeSpec := { name := "pointsSeq", fn := fun _ => fun
  | [d] => { results := [.lit (.bool false)], args := [d] }
  | _ => none }
def PointsSeqWrongFalsely : Prop := pointsSeqRow.holds Try.pinned (OpenSpec.ofChange pointsSeqWrong)

/-- 'treeringlaw3.AgeOrder': WHATEVER THE INPUT: true; the input reads as it did. -/
def ageOrderSpec : ChangeSpec := { name := "ageOrder", fn := fun _ => fun
  | [d1, d2, d3] => { results := [.lit (.bool true)], args := [d1, d2, d3] }
  | _ => none }
def ageOrderRow : OpenClaim := { program := "ytddnhjpclglclaa", sum := "ca633db5b71ac22e3a3dba46740be21e77ef79d7b5ae58f6ab0d94493e0e2abf", func := "treering/treeringlaw3.AgeOrder", spec := "ageOrder", inPlace := ["math.Float64bits", "math.Float64frombits", "math.archFloor", "math.archTrunc"], apart := false }
def AgeOrderSaid : Prop := ageOrderRow.holds Try.pinned (OpenSpec.ofChange ageOrderSpec)

/-- ITS FALSE NEIGHBOUR: 'it returns false'. Refute it at one input. -/
def ageOrderWrong : ChangeSpec := { name := "ageOrder", fn := fun _ => fun
  | [d1, d2, d3] => { results := [.lit (.bool false)], args := [d1, d2, d3] }
  | _ => none }
def AgeOrderWrongFalsely : Prop := ageOrderRow.holds Try.pinned (OpenSpec.ofChange ageOrderWrong)

/-- 'treeringlaw3.AgeKnown': WHATEVER THE INPUT: true; the input reads as it did. -/
def ageKnownSpec : ChangeSpec := { name := "ageKnown", fn := fun _ => fun
  | [] => { results := [.lit (.bool true)], args := [] }
  | _ => none }
def ageKnownRow : OpenClaim := { program := "ytddnhjpclglclaa", sum := "ca633db5b71ac22e3a3dba46740be21e77ef79d7b5ae58f6ab0d94493e0e2abf", func := "treering/treeringlaw3.AgeKnown", spec := "ageKnown", inPlace := ["math.Float64bits", "math.Float64frombits", "math.archFloor", "math.archTrunc"], apart := false }
def AgeKnownSaid : Prop := ageKnownRow.holds Try.pinned (OpenSpec.ofChange ageKnownSpec)

/-- ITS FALSE NEIGHBOUR: 'it returns false'. Refute it at one input. -/
def ageKnownWrong : ChangeSpec := { name := "ageKnown", fn := fun _ => fun
  | [] => { results := [.lit (.bool false)], args := [] }
  | _ => none }
def AgeKnownWrongFalsely : Prop := ageKnownRow.holds Try.pinned (OpenSpec.ofChange ageKnownWrong)

/-- 'treeringlaw18.PointsKnown': WHATEVER THE INPUT: true; the input reads as it did. -/
def pointsKnownSpec : ChangeSpec := { name := "pointsKnown", fn := fun _ => fun
  | [] => { results := [.lit (.bool true)], args := [] }
  | _ => none }
def pointsKnownRow : OpenClaim := { program := "ytddnhjpclglclaa", sum := "ca633db5b71ac22e3a3dba46740be21e77ef79d7b5ae58f6ab0d94493e0e2abf", func := "treering/treeringlaw18.PointsKnown", spec := "pointsKnown", inPlace := ["math.Float64bits", "math.Float64frombits"], unfollowed := true, recurses := true, apart := false }
def PointsKnownSaid : Prop := pointsKnownRow.holds Try.pinned (OpenSpec.ofChange pointsKnownSpec)

/-- ITS FALSE NEIGHBOUR: 'it returns false'. Refute it at one input. -/
def pointsKnownWrong : ChangeSpec := { name := "pointsKnown", fn := fun _ => fun
  | [] => { results := [.lit (.bool false)], args := [] }
  | _ => none }
def PointsKnownWrongFalsely : Prop := pointsKnownRow.holds Try.pinned (OpenSpec.ofChange pointsKnownWrong)

/-- 'treeringlaw19.TierKeeps': WHATEVER THE INPUT: true; the input reads as it did. -/
def tierKeepsSpec : ChangeSpec := { name := "tierKeeps", fn := fun _ => fun
  | [d1, d2, d3] => { results := [.lit (.bool true)], args := [d1, d2, d3] }
  | _ => none }
def tierKeepsRow : OpenClaim := { program := "ytddnhjpclglclaa", sum := "ca633db5b71ac22e3a3dba46740be21e77ef79d7b5ae58f6ab0d94493e0e2abf", func := "treering/treeringlaw19.TierKeeps", spec := "tierKeeps", inPlace := ["math.Float64bits", "math.Float64frombits", "math.archFloor", "math.archTrunc"], apart := false }
def TierKeepsSaid : Prop := tierKeepsRow.holds Try.pinned (OpenSpec.ofChange tierKeepsSpec)

/-- ITS FALSE NEIGHBOUR: 'it returns false'. Refute it at one input. -/
def tierKeepsWrong : ChangeSpec := { name := "tierKeeps", fn := fun _ => fun
  | [d1, d2, d3] => { results := [.lit (.bool false)], args := [d1, d2, d3] }
  | _ => none }
def TierKeepsWrongFalsely : Prop := tierKeepsRow.holds Try.pinned (OpenSpec.ofChange tierKeepsWrong)

/-- 'treeringlaw19.TierAgain': WHATEVER THE INPUT: true; the input reads as it did. -/
def tierAgainSpec : ChangeSpec := { name := "tierAgain", fn := fun _ => fun
  | [d1, d2, d3] => { results := [.lit (.bool true)], args := [d1, d2, d3] }
  | _ => none }
def tierAgainRow : OpenClaim := { program := "ytddnhjpclglclaa", sum := "ca633db5b71ac22e3a3dba46740be21e77ef79d7b5ae58f6ab0d94493e0e2abf", func := "treering/treeringlaw19.TierAgain", spec := "tierAgain", inPlace := ["math.Float64bits", "math.Float64frombits", "math.archFloor", "math.archTrunc"], apart := false }
def TierAgainSaid : Prop := tierAgainRow.holds Try.pinned (OpenSpec.ofChange tierAgainSpec)

/-- ITS FALSE NEIGHBOUR: 'it returns false'. Refute it at one input. -/
def tierAgainWrong : ChangeSpec := { name := "tierAgain", fn := fun _ => fun
  | [d1, d2, d3] => { results := [.lit (.bool false)], args := [d1, d2, d3] }
  | _ => none }
def TierAgainWrongFalsely : Prop := tierAgainRow.holds Try.pinned (OpenSpec.ofChange tierAgainWrong)

/-- 'treeringlaw19.TierMore': WHATEVER THE INPUT: true; the input reads as it did. -/
def tierMoreSpec : ChangeSpec := { name := "tierMore", fn := fun _ => fun
  | [d1, d2, d3] => { results := [.lit (.bool true)], args := [d1, d2, d3] }
  | _ => none }
def tierMoreRow : OpenClaim := { program := "ytddnhjpclglclaa", sum := "ca633db5b71ac22e3a3dba46740be21e77ef79d7b5ae58f6ab0d94493e0e2abf", func := "treering/treeringlaw19.TierMore", spec := "tierMore", inPlace := ["math.Float64bits", "math.Float64frombits", "math.archFloor", "math.archTrunc"], apart := false }
def TierMoreSaid : Prop := tierMoreRow.holds Try.pinned (OpenSpec.ofChange tierMoreSpec)

/-- ITS FALSE NEIGHBOUR: 'it returns false'. Refute it at one input. -/
def tierMoreWrong : ChangeSpec := { name := "tierMore", fn := fun _ => fun
  | [d1, d2, d3] => { results := [.lit (.bool false)], args := [d1, d2, d3] }
  | _ => none }
def TierMoreWrongFalsely : Prop := tierMoreRow.holds Try.pinned (OpenSpec.ofChange tierMoreWrong)

/-- 'treeringlaw19.TierOf': WHATEVER THE INPUT: true; the input reads as it did. -/
def tierOfSpec : ChangeSpec := { name := "tierOf", fn := fun _ => fun
  | [d1, d2, d3] => { results := [.lit (.bool true)], args := [d1, d2, d3] }
  | _ => none }
def tierOfRow : OpenClaim := { program := "ytddnhjpclglclaa", sum := "ca633db5b71ac22e3a3dba46740be21e77ef79d7b5ae58f6ab0d94493e0e2abf", func := "treering/treeringlaw19.TierOf", spec := "tierOf", inPlace := ["math.Float64bits", "math.Float64frombits", "math.archFloor", "math.archTrunc"], apart := false }
def TierOfSaid : Prop := tierOfRow.holds Try.pinned (OpenSpec.ofChange tierOfSpec)

/-- ITS FALSE NEIGHBOUR: 'it returns false'. Refute it at one input. -/
def tierOfWrong : ChangeSpec := { name := "tierOf", fn := fun _ => fun
  | [d1, d2, d3] => { results := [.lit (.bool false)], args := [d1, d2, d3] }
  | _ => none }
def TierOfWrongFalsely : Prop := tierOfRow.holds Try.pinned (OpenSpec.ofChange tierOfWrong)

/-- 'treeringlaw19.TierLate': WHATEVER THE INPUT: true; the input reads as it did. -/
def tierLateSpec : ChangeSpec := { name := "tierLate", fn := fun _ => fun
  | [d1, d2, d3] => { results := [.lit (.bool true)], args := [d1, d2, d3] }
  | _ => none }
def tierLateRow : OpenClaim := { program := "ytddnhjpclglclaa", sum := "ca633db5b71ac22e3a3dba46740be21e77ef79d7b5ae58f6ab0d94493e0e2abf", func := "treering/treeringlaw19.TierLate", spec := "tierLate", inPlace := ["math.Float64bits", "math.Float64frombits", "math.archFloor", "math.archTrunc"], apart := false }
def TierLateSaid : Prop := tierLateRow.holds Try.pinned (OpenSpec.ofChange tierLateSpec)

/-- ITS FALSE NEIGHBOUR: 'it returns false'. Refute it at one input. -/
def tierLateWrong : ChangeSpec := { name := "tierLate", fn := fun _ => fun
  | [d1, d2, d3] => { results := [.lit (.bool false)], args := [d1, d2, d3] }
  | _ => none }
def TierLateWrongFalsely : Prop := tierLateRow.holds Try.pinned (OpenSpec.ofChange tierLateWrong)

/-- 'treeringlaw19.TierKnown': WHATEVER THE INPUT: true; the input reads as it did. -/
def tierKnownSpec : ChangeSpec := { name := "tierKnown", fn := fun _ => fun
  | [] => { results := [.lit (.bool true)], args := [] }
  | _ => none }
def tierKnownRow : OpenClaim := { program := "ytddnhjpclglclaa", sum := "ca633db5b71ac22e3a3dba46740be21e77ef79d7b5ae58f6ab0d94493e0e2abf", func := "treering/treeringlaw19.TierKnown", spec := "tierKnown", inPlace := ["math.Float64bits", "math.Float64frombits", "math.archFloor", "math.archTrunc"], apart := false }
def TierKnownSaid : Prop := tierKnownRow.holds Try.pinned (OpenSpec.ofChange tierKnownSpec)

/-- ITS FALSE NEIGHBOUR: 'it returns false'. Refute it at one input. -/
def tierKnownWrong : ChangeSpec := { name := "tierKnown", fn := fun _ => fun
  | [] => { results := [.lit (.bool false)], args := [] }
  | _ => none }
def TierKnownWrongFalsely : Prop := tierKnownRow.holds Try.pinned (OpenSpec.ofChange tierKnownWrong)

/- THE SECOND FORM. 'bulk': how many values and letters a reading holds, each counted each time it is reached (what is shared counts as often as it is met; a slice's spare places count too). A statement '..UptoSaid' is the law's where the arguments, and the package variables that the reading takes, are together of bulk at most 1048576: NARROWER than '..Said'. Prove '..Said' where nothing that the law and all that it calls make is longer than what came in: it says more and counts as full. Else prove '..UptoSaid'. A law counts once. -/
mutual
def uptoBulk {H : Type} : DataW H → Nat
  | .lit (.string bytes) => bytes.length + 1
  | .lit _ => 1
  | .nil => 1
  | .ptr d => uptoBulk d + 1
  | .slice elems spare => uptoBulkAll elems + uptoBulkAll spare + 1
  | .agg parts => uptoBulkAll parts + 1
  | .iface _ d => uptoBulk d + 1
  | .map entries => uptoBulkEntries entries + 1
  | .held _ => 1
def uptoBulkAll {H : Type} : List (DataW H) → Nat
  | [] => 0
  | d :: r => uptoBulk d + uptoBulkAll r
def uptoBulkEntries {H : Type} : List (Lit × DataW H) → Nat
  | [] => 0
  | x :: r => uptoBulkEntry x + uptoBulkEntries r
def uptoBulkEntry {H : Type} : Lit × DataW H → Nat
  | (.string bytes, d) => bytes.length + uptoBulk d + 1
  | (_, d) => uptoBulk d + 1
 end
def uptoSmall : (H : Type) → List (DataW H) → Bool := fun _ ds => decide (uptoBulkAll ds ≤ 1048576)
def OpenSpec.upto (s : _root_.Go.ChangeSpec) : _root_.Go.OpenSpec := { _root_.Go.OpenSpec.ofChange s with cond := some uptoSmall }

/-- 'treeringlaw18.PointsOrder', WHERE WHAT IT READS IS OF BULK AT MOST 1048576: true; the input reads as it did. -/
def pointsOrderUptoRow : OpenClaim := { program := "ytddnhjpclglclaa", sum := "ca633db5b71ac22e3a3dba46740be21e77ef79d7b5ae58f6ab0d94493e0e2abf", func := "treering/treeringlaw18.PointsOrder", spec := "pointsOrder", inPlace := ["math.Float64bits", "math.Float64frombits"], unfollowed := true, recurses := true, apart := false, narrowed := true }
def PointsOrderUptoSaid : Prop := pointsOrderUptoRow.holds Try.pinned (OpenSpec.upto pointsOrderSpec)

/-- 'treeringlaw18.PointsParts', WHERE WHAT IT READS IS OF BULK AT MOST 1048576: true; the input reads as it did. -/
def pointsPartsUptoRow : OpenClaim := { program := "ytddnhjpclglclaa", sum := "ca633db5b71ac22e3a3dba46740be21e77ef79d7b5ae58f6ab0d94493e0e2abf", func := "treering/treeringlaw18.PointsParts", spec := "pointsParts", inPlace := ["math.Float64bits", "math.Float64frombits"], unfollowed := true, recurses := true, apart := false, narrowed := true }
def PointsPartsUptoSaid : Prop := pointsPartsUptoRow.holds Try.pinned (OpenSpec.upto pointsPartsSpec)

/-- 'treeringlaw3.AgeBuckets', WHERE WHAT IT READS IS OF BULK AT MOST 1048576: true; the input reads as it did. -/
def ageBucketsUptoRow : OpenClaim := { program := "ytddnhjpclglclaa", sum := "ca633db5b71ac22e3a3dba46740be21e77ef79d7b5ae58f6ab0d94493e0e2abf", func := "treering/treeringlaw3.AgeBuckets", spec := "ageBuckets", inPlace := ["math.Float64bits", "math.Float64frombits", "math.archFloor", "math.archTrunc"], apart := false, narrowed := true }
def AgeBucketsUptoSaid : Prop := ageBucketsUptoRow.holds Try.pinned (OpenSpec.upto ageBucketsSpec)

/-- 'treeringlaw3.AgeSums', WHERE WHAT IT READS IS OF BULK AT MOST 1048576: true; the input reads as it did. -/
def ageSumsUptoRow : OpenClaim := { program := "ytddnhjpclglclaa", sum := "ca633db5b71ac22e3a3dba46740be21e77ef79d7b5ae58f6ab0d94493e0e2abf", func := "treering/treeringlaw3.AgeSums", spec := "ageSums", inPlace := ["math.Float64bits", "math.Float64frombits", "math.archFloor", "math.archTrunc"], apart := false, narrowed := true }
def AgeSumsUptoSaid : Prop := ageSumsUptoRow.holds Try.pinned (OpenSpec.upto ageSumsSpec)

/-- 'treeringlaw18.PointsAsk', WHERE WHAT IT READS IS OF BULK AT MOST 1048576: true; the input reads as it did. -/
def pointsAskUptoRow : OpenClaim := { program := "ytddnhjpclglclaa", sum := "ca633db5b71ac22e3a3dba46740be21e77ef79d7b5ae58f6ab0d94493e0e2abf", func := "treering/treeringlaw18.PointsAsk", spec := "pointsAsk", inPlace := ["math.Float64bits", "math.Float64frombits"], unfollowed := true, recurses := true, apart := false, narrowed := true }
def PointsAskUptoSaid : Prop := pointsAskUptoRow.holds Try.pinned (OpenSpec.upto pointsAskSpec)

/-- 'treeringlaw18.PointsSeq', WHERE WHAT IT READS IS OF BULK AT MOST 1048576: true; the input reads as it did. -/
def pointsSeqUptoRow : OpenClaim := { program := "ytddnhjpclglclaa", sum := "ca633db5b71ac22e3a3dba46740be21e77ef79d7b5ae58f6ab0d94493e0e2abf", func := "treering/treeringlaw18.PointsSeq", spec := "pointsSeq", inPlace := ["math.Float64bits", "math.Float64frombits"], unfollowed := true, recurses := true, apart := false, narrowed := true }
def PointsSeqUptoSaid : Prop := pointsSeqUptoRow.holds Try.pinned (OpenSpec.upto pointsSeqSpec)

/-- 'treeringlaw3.AgeOrder', WHERE WHAT IT READS IS OF BULK AT MOST 1048576: true; the input reads as it did. -/
def ageOrderUptoRow : OpenClaim := { program := "ytddnhjpclglclaa", sum := "ca633db5b71ac22e3a3dba46740be21e77ef79d7b5ae58f6ab0d94493e0e2abf", func := "treering/treeringlaw3.AgeOrder", spec := "ageOrder", inPlace := ["math.Float64bits", "math.Float64frombits", "math.archFloor", "math.archTrunc"], apart := false, narrowed := true }
def AgeOrderUptoSaid : Prop := ageOrderUptoRow.holds Try.pinned (OpenSpec.upto ageOrderSpec)

/-- 'treeringlaw3.AgeKnown', WHERE WHAT IT READS IS OF BULK AT MOST 1048576: true; the input reads as it did. -/
def ageKnownUptoRow : OpenClaim := { program := "ytddnhjpclglclaa", sum := "ca633db5b71ac22e3a3dba46740be21e77ef79d7b5ae58f6ab0d94493e0e2abf", func := "treering/treeringlaw3.AgeKnown", spec := "ageKnown", inPlace := ["math.Float64bits", "math.Float64frombits", "math.archFloor", "math.archTrunc"], apart := false, narrowed := true }
def AgeKnownUptoSaid : Prop := ageKnownUptoRow.holds Try.pinned (OpenSpec.upto ageKnownSpec)

/-- 'treeringlaw18.PointsKnown', WHERE WHAT IT READS IS OF BULK AT MOST 1048576: true; the input reads as it did. -/
def pointsKnownUptoRow : OpenClaim := { program := "ytddnhjpclglclaa", sum := "ca633db5b71ac22e3a3dba46740be21e77ef79d7b5ae58f6ab0d94493e0e2abf", func := "treering/treeringlaw18.PointsKnown", spec := "pointsKnown", inPlace := ["math.Float64bits", "math.Float64frombits"], unfollowed := true, recurses := true, apart := false, narrowed := true }
def PointsKnownUptoSaid : Prop := pointsKnownUptoRow.holds Try.pinned (OpenSpec.upto pointsKnownSpec)

/-- 'treeringlaw19.TierKeeps', WHERE WHAT IT READS IS OF BULK AT MOST 1048576: true; the input reads as it did. -/
def tierKeepsUptoRow : OpenClaim := { program := "ytddnhjpclglclaa", sum := "ca633db5b71ac22e3a3dba46740be21e77ef79d7b5ae58f6ab0d94493e0e2abf", func := "treering/treeringlaw19.TierKeeps", spec := "tierKeeps", inPlace := ["math.Float64bits", "math.Float64frombits", "math.archFloor", "math.archTrunc"], apart := false, narrowed := true }
def TierKeepsUptoSaid : Prop := tierKeepsUptoRow.holds Try.pinned (OpenSpec.upto tierKeepsSpec)

/-- 'treeringlaw19.TierAgain', WHERE WHAT IT READS IS OF BULK AT MOST 1048576: true; the input reads as it did. -/
def tierAgainUptoRow : OpenClaim := { program := "ytddnhjpclglclaa", sum := "ca633db5b71ac22e3a3dba46740be21e77ef79d7b5ae58f6ab0d94493e0e2abf", func := "treering/treeringlaw19.TierAgain", spec := "tierAgain", inPlace := ["math.Float64bits", "math.Float64frombits", "math.archFloor", "math.archTrunc"], apart := false, narrowed := true }
def TierAgainUptoSaid : Prop := tierAgainUptoRow.holds Try.pinned (OpenSpec.upto tierAgainSpec)

/-- 'treeringlaw19.TierMore', WHERE WHAT IT READS IS OF BULK AT MOST 1048576: true; the input reads as it did. -/
def tierMoreUptoRow : OpenClaim := { program := "ytddnhjpclglclaa", sum := "ca633db5b71ac22e3a3dba46740be21e77ef79d7b5ae58f6ab0d94493e0e2abf", func := "treering/treeringlaw19.TierMore", spec := "tierMore", inPlace := ["math.Float64bits", "math.Float64frombits", "math.archFloor", "math.archTrunc"], apart := false, narrowed := true }
def TierMoreUptoSaid : Prop := tierMoreUptoRow.holds Try.pinned (OpenSpec.upto tierMoreSpec)

/-- 'treeringlaw19.TierOf', WHERE WHAT IT READS IS OF BULK AT MOST 1048576: true; the input reads as it did. -/
def tierOfUptoRow : OpenClaim := { program := "ytddnhjpclglclaa", sum := "ca633db5b71ac22e3a3dba46740be21e77ef79d7b5ae58f6ab0d94493e0e2abf", func := "treering/treeringlaw19.TierOf", spec := "tierOf", inPlace := ["math.Float64bits", "math.Float64frombits", "math.archFloor", "math.archTrunc"], apart := false, narrowed := true }
def TierOfUptoSaid : Prop := tierOfUptoRow.holds Try.pinned (OpenSpec.upto tierOfSpec)

/-- 'treeringlaw19.TierLate', WHERE WHAT IT READS IS OF BULK AT MOST 1048576: true; the input reads as it did. -/
def tierLateUptoRow : OpenClaim := { program := "ytddnhjpclglclaa", sum := "ca633db5b71ac22e3a3dba46740be21e77ef79d7b5ae58f6ab0d94493e0e2abf", func := "treering/treeringlaw19.TierLate", spec := "tierLate", inPlace := ["math.Float64bits", "math.Float64frombits", "math.archFloor", "math.archTrunc"], apart := false, narrowed := true }
def TierLateUptoSaid : Prop := tierLateUptoRow.holds Try.pinned (OpenSpec.upto tierLateSpec)

/-- 'treeringlaw19.TierKnown', WHERE WHAT IT READS IS OF BULK AT MOST 1048576: true; the input reads as it did. -/
def tierKnownUptoRow : OpenClaim := { program := "ytddnhjpclglclaa", sum := "ca633db5b71ac22e3a3dba46740be21e77ef79d7b5ae58f6ab0d94493e0e2abf", func := "treering/treeringlaw19.TierKnown", spec := "tierKnown", inPlace := ["math.Float64bits", "math.Float64frombits", "math.archFloor", "math.archTrunc"], apart := false, narrowed := true }
def TierKnownUptoSaid : Prop := tierKnownUptoRow.holds Try.pinned (OpenSpec.upto tierKnownSpec)

end Rows
end Go.Proofs.Ytddnhjpclglclaa
