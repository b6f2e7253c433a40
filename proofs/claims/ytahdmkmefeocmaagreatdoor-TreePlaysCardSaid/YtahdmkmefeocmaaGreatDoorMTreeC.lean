/- Walks of package tree: Copy. -/
import Derived.Test.YtahdmkmefeocmaaGreatDoorMTreeN
import Derived.Test.YtahdmkmefeocmaaGreatDoorMClone
import Derived.Deep.RegionHeld3
namespace Go.Proofs.YtahdmkmefeocmaaGreatDoor
open Go.RowKit Go.Lib
open Go.ChangeMaps (setBlock)

set_option maxRecDepth 100000 in
set_option maxHeartbeats 4000000 in
/-- Copy. -/
theorem tree_copy (w : World) {tb mb : Nat} {T : TS} (hT : TreeP w tb mb T) :
    Calls Tryz.prog 12 #[.pointer (some ⟨tb, 0, none⟩)] w fun e w' => ∃ cb cm, e = .returned (.pointer (some ⟨cb, 0, none⟩)) ∧ TreeP w' cb cm T ∧ w.heap.size ≤ cb ∧ w.heap.size ≤ cm ∧ Below w.heap.size w w' := by
  obtain ⟨L, hp, hA⟩ := hT
  obtain ⟨es, clock, hb, hst, hM⟩ := hA.map
  have hc0 := hA.c0
  have hc1 := hA.c1
  have htb := hA.lt
  have HC : Hid (∀ W : World, W.heap[mb]? = some (.map es clock) → Calls Tryz.prog 31 #[.map (some mb)] W fun e w' => e = .returned (.map (some W.heap.size)) ∧ w' = W.alloc (.map es clock)) := fun W h => AnyW.maps_Clone Tryz.clone31 mb es clock W h
  have HBk := Lib.hid hb
  have HP := Lib.hid hp
  have HSt := Lib.hid hst
  have HM := Lib.hid hM
  clear hb hp hst hM hA
  go_enter Tryz.func12, Tryz.ntmps12
  go_upto_region 3 with (fail)
  go_region_held3 (fun w' => w'.cell? ⟨tb, 0, none⟩ = some (.map (some mb)) ∧ w'.cell? ⟨tb, 1, none⟩ = some (.int .i64 T.nx)) (first | go_keep | (go_split_ands; exact ⟨hc0, hc1⟩)) (first | (go_at_call 31; refine (HC.out _ (by exact HBk.out)).mono ?_; rintro e w' ⟨rfl, rfl⟩))
  all_goals
    go_wp2
    go_ret
    have hsz : (w.alloc (.map es clock)).heap.size = w.heap.size + 1 := by simp
    have h1 := heap_alloc_new (w.alloc (.map es clock)) (.cells #[.map (some w.heap.size), .int .i64 T.nx] 63)
    rw [hsz] at h1
    have h2 := (((Below.refl (w.alloc (.map es clock)).heap.size _).alloc (Nat.le_refl _) (.cells #[.map (some w.heap.size), .int .i64 T.nx] 63)).block w.heap.size (by omega)).trans (heap_alloc_new w (.map es clock))
    have hB := ((Below.refl w.heap.size w).alloc (Nat.le_refl _) (.map es clock)).alloc (by omega) (.cells #[.map (some w.heap.size), .int .i64 T.nx] 63)
    exact ⟨w.heap.size + 1, w.heap.size, rfl, ⟨L, HP.out, ⟨h1, ⟨es, clock, h2, HSt.out, HM.out⟩⟩⟩, by omega, Nat.le_refl _, below_drewN' hB 1⟩
end Go.Proofs.YtahdmkmefeocmaaGreatDoor
