/-
  DERIVED: THE SHELF's CONTRACTS AT THIS DUMP, IN PLAIN WORDS (tools/lay-plain.mjs out of 'TryzIterIT.lean', which tools/lay-shelf.mjs wrote): THE SAME DECLARATIONS UNDER THE SAME NAMES: 'import', 'namespace', 'open', 'def', 'theorem' AND NOTHING ELSE: no command of the shelf's: FOR A HAND-IN. Each laying: the table of numbers ('.._ren') and one theorem, a field a fact of the dump's own or the kernel's comparison; each contract: ONE APPLICATION.
-/
import Derived.Shelf.SlIterI.Nil
import Derived.Shelf.SortM.Plain
import Derived.Shelf.SortM.SortNone
import Derived.Ground.GgzProg
import Derived.Ground.SlgmProg
import Derived.Test.YtiegadfhgccliaaGreatDoorProg
namespace Go.Proofs
open Go.Shelf
open Go.RowKit Go.Maps Go.Sort Go.Shelf
def Tryz.keys35_ren : Go.Shelf.Ren := ⟨fun | 7 => 35 | 10 => 64 | n => n, fun | 23 => 88 | 26 => 3 | 3 => 4 | 28 => 92 | 0 => 0 | 27 => 91 | 33 => 128 | 4 => 4 | n => n, fun | n => n⟩
def Tryz.sorted34_ren : Go.Shelf.Ren := ⟨fun | 6 => 34 | 8 => 62 | 9 => 63 | 11 => 93 | 13 => 95 | 12 => 94 | 23 => 118 | 24 => 119 | 14 => 109 | 15 => 110 | 16 => 111 | 17 => 112 | 18 => 113 | 19 => 114 | 20 => 115 | 21 => 116 | 22 => 117 | 25 => 128 | 26 => 129 | 27 => 130 | 28 => 131 | 29 => 132 | 30 => 133 | 31 => 148 | n => n, fun | 26 => 3 | 28 => 92 | 24 => 37 | 0 => 0 | 3 => 3 | 37 => 156 | 48 => 174 | 50 => 176 | 4 => 4 | 40 => 166 | 39 => 165 | 45 => 171 | 5 => 5 | 9 => 9 | 51 => 190 | 55 => 194 | 57 => 204 | 58 => 142 | 33 => 128 | n => n, fun | n => n⟩
def Tryz.sort63_ren : Go.Shelf.Ren := ⟨fun | 5 => 63 | 8 => 95 | 7 => 94 | 19 => 118 | 20 => 119 | 10 => 109 | 11 => 110 | 12 => 111 | 13 => 112 | 14 => 113 | 15 => 114 | 16 => 115 | 17 => 116 | 18 => 117 | 30 => 128 | 31 => 129 | 32 => 130 | 33 => 131 | 34 => 132 | 35 => 133 | 40 => 148 | n => n, fun | 23 => 37 | 25 => 3 | 3 => 3 | 32 => 156 | 22 => 37 | 0 => 0 | 44 => 174 | 46 => 176 | 4 => 4 | 36 => 166 | 35 => 165 | 41 => 171 | 5 => 5 | 9 => 9 | 53 => 190 | 57 => 194 | 63 => 204 | 64 => 142 | n => n, fun | n => n⟩
end Go.Proofs
