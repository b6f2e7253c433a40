/-
  DERIVED: THE SHELF's CONTRACTS AT THIS DUMP, IN PLAIN WORDS (tools/lay-plain.mjs out of 'TryzCloneBT.lean', which tools/lay-shelf.mjs wrote): THE SAME DECLARATIONS UNDER THE SAME NAMES: 'import', 'namespace', 'open', 'def', 'theorem' AND NOTHING ELSE: no command of the shelf's: FOR A HAND-IN. Each laying: the table of numbers ('.._ren') and one theorem, a field a fact of the dump's own or the kernel's comparison; each contract: ONE APPLICATION.
-/
import Derived.Test.YtiegadfhgccliaaGreatDoorMTreeW5
import Derived.Lib.IndexAny
import Derived.Shelf.SlIter.Nil
import Derived.Shelf.SortM.Plain
import Derived.Shelf.SortM.SortNone
import Derived.Ground.GgzProg
import Derived.Ground.SlgmProg
import Derived.Test.YtiegadfhgccliaaGreatDoorProg
import Derived.Test.YtiegadfhgccliaaGreatDoorMTreeW
import Derived.Test.YtiegadfhgccliaaGreatDoorMTreeW8
import Derived.Shelf.SlMaps.Clone
import Derived.Ground.SlmcProg
import Derived.Deep.RegionHeld3
namespace Go.Proofs.YtiegadfhgccliaaGreatDoor
open Go.Lib
set_option linter.unusedVariables false

def aheadB (s : ByteArray) : ByteArray := ⟨(trimSuffix s.data.toList [47]).toArray⟩ ++ ⟨#[47]⟩
def restB (a p : ByteArray) : ByteArray := ⟨(trimPrefix p.data.toList a.data.toList).toArray⟩
def inB (a p : ByteArray) : Bool := hasPrefix p.data.toList a.data.toList && !decide (0 ≤ indexByte (restB a p).data.toList 47)
def sortB (L : List ByteArray) : List ByteArray := ((L.map (·.data.toList)).mergeSort fun x y => decide (x ≤ y)).map mkB
/-- The rows that List gathers. -/
def gotB (a : ByteArray) (L : List Nd) : List ByteArray := (L.filter fun n => inB a n.path).map fun n => restB a n.path
end Go.Proofs.YtiegadfhgccliaaGreatDoor
namespace Go.Proofs
open Go.Shelf
open Go.RowKit Go.Maps Go.Sort Go.Shelf
def Tryz.keys68_ren : Go.Shelf.Ren := ⟨fun | 7 => 68 | 10 => 98 | n => n, fun | 23 => 97 | 26 => 9 | 3 => 51 | 28 => 133 | 0 => 0 | 27 => 132 | 33 => 104 | 4 => 4 | n => n, fun | n => n⟩
def Tryz.sorted67_ren : Go.Shelf.Ren := ⟨fun | 6 => 67 | 8 => 96 | 9 => 97 | 11 => 120 | 13 => 95 | 12 => 121 | 23 => 118 | 24 => 119 | 14 => 134 | 15 => 135 | 16 => 136 | 17 => 137 | 18 => 138 | 19 => 139 | 20 => 140 | 21 => 141 | 22 => 142 | 25 => 149 | 26 => 129 | 27 => 130 | 28 => 150 | 29 => 151 | 30 => 152 | 31 => 159 | n => n, fun | 26 => 9 | 28 => 133 | 24 => 95 | 0 => 0 | 3 => 3 | 37 => 156 | 48 => 174 | 50 => 176 | 4 => 4 | 40 => 166 | 39 => 165 | 45 => 171 | 5 => 5 | 9 => 9 | 51 => 190 | 55 => 194 | 57 => 204 | 58 => 142 | 33 => 104 | n => n, fun | n => n⟩
def Tryz.sort97_ren : Go.Shelf.Ren := ⟨fun | 6 => 97 | 8 => 95 | 9 => 121 | 19 => 118 | 20 => 119 | 21 => 134 | 22 => 135 | 23 => 136 | 24 => 137 | 25 => 138 | 26 => 139 | 27 => 140 | 28 => 141 | 29 => 142 | 36 => 149 | 31 => 129 | 32 => 130 | 37 => 150 | 38 => 151 | 39 => 152 | 41 => 159 | n => n, fun | 27 => 95 | 29 => 9 | 3 => 3 | 32 => 156 | 26 => 95 | 0 => 0 | 44 => 174 | 46 => 176 | 4 => 4 | 36 => 166 | 35 => 165 | 41 => 171 | 5 => 5 | 9 => 9 | 53 => 190 | 57 => 194 | 63 => 204 | 64 => 142 | n => n, fun | n => n⟩
end Go.Proofs
namespace Go.Proofs.YtiegadfhgccliaaGreatDoor
open Go.RowKit Go.Lib

theorem RdN.take {w : World} {b o : Nat} {L : List Nd} (h : RdN w b o L) (k : Nat) : RdN w b o (L.take k) := by
  refine ⟨fun j hj => ?_, h.lt⟩
  rw [List.length_take] at hj
  have e : (L.take k).getD j default = L.getD j default := by simp [List.getD, show j < k by omega]
  rw [e]
  exact h.at_ j (by omega)
theorem RdN.drop {w : World} {b o : Nat} {L : List Nd} (h : RdN w b o L) (k : Nat) : RdN w b (o + k * 3) (L.drop k) := by
  refine ⟨fun j hj => ?_, h.lt⟩
  rw [List.length_drop] at hj
  have e : (L.drop k).getD j default = L.getD (k + j) default := by simp [List.getD]
  rw [e, show o + k * 3 + j * 3 = o + (k + j) * 3 by omega]
  exact h.at_ (k + j) (by omega)
end Go.Proofs.YtiegadfhgccliaaGreatDoor
namespace Go.Proofs.YtiegadfhgccliaaGreatDoor
open Go.RowKit Go.Lib Go.Maps
open Go.ChangeMaps (setBlock)
open Go.WideElems (Fit rd rg rg_of)

/-- How an element reads where nobody asks. -/
def rAny : Value → Option (DataW Unit × List MemPlace) := fun _ => some (.nil, [])
def keyB : Value → List UInt8
  | .string s => s.data.toList
  | _ => []
end Go.Proofs.YtiegadfhgccliaaGreatDoor
namespace Go.Proofs.YtiegadfhgccliaaGreatDoor
open Go.RowKit Go.Lib Go.Maps
open Go.ChangeMaps (setBlock)

end Go.Proofs.YtiegadfhgccliaaGreatDoor
namespace Go.Proofs
open Go.Shelf
def Tryz.clone65_ren : Go.Shelf.Ren := ⟨fun | 5 => 65 | 7 => 66 | n => n, fun | 23 => 97 | 25 => 9 | 3 => 51 | 4 => 4 | 20 => 20 | n => n, fun | n => n⟩
end Go.Proofs
namespace Go.Proofs.YtiegadfhgccliaaGreatDoor
open Go.RowKit Go.Lib
open Go.ChangeMaps (setBlock)

end Go.Proofs.YtiegadfhgccliaaGreatDoor
namespace Go.Proofs
open Go.Shelf
def Tryz.clone37_ren : Go.Shelf.Ren := ⟨fun | 5 => 37 | 7 => 66 | n => n, fun | 23 => 78 | 25 => 3 | 3 => 47 | 4 => 4 | 20 => 20 | n => n, fun | n => n⟩
end Go.Proofs
