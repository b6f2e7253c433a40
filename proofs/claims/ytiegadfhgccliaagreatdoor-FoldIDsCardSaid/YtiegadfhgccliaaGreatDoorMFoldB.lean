/- Walks: slices.Sorted(maps.Keys(set)), body.Uses, fold's Tree, Uses. -/
import Derived.Test.YtiegadfhgccliaaGreatDoorMUsesL
import Derived.Test.YtiegadfhgccliaaGreatDoorMFoldA
namespace Go.Proofs.YtiegadfhgccliaaGreatDoor
open Go.RowKit Go.Lib Go.Maps
open Go.ChangeMaps (setBlock)

set_option maxRecDepth 100000 in
set_option maxHeartbeats 4000000 in
/-- Tree. -/
theorem fold_tree (w : World) {sb tb mb lb : Nat} {S : FS} (hS : FoldP w sb tb mb lb S) :
    Calls Tryz.prog 14 #[.pointer (some ⟨sb, 0, none⟩)] w fun e w' => ∃ cb cm, e = .returned (.pointer (some ⟨cb, 0, none⟩)) ∧ TreeP w' cb cm S.t ∧ w.heap.size ≤ cb ∧ w.heap.size ≤ cm ∧ Below w.heap.size w w' := by
  obtain ⟨c0, c1⟩ := hS.cells
  have HT := Lib.hid (tree_copy w hS.t)
  clear hS
  go_enter Tryz.func14, Tryz.ntmps14
  go_wp2_with fail
  refine HT.out.mono ?_
  rintro e w' ⟨cb, cm, rfl, h1, h2, h3, h4⟩
  have H1 := Lib.hid h1
  have H4 := Lib.hid h4
  clear h1 h4
  go_wp2
  go_ret
  exact ⟨cb, cm, rfl, H1.out, h2, h3, H4.out⟩
end Go.Proofs.YtiegadfhgccliaaGreatDoor
