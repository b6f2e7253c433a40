/- The document's example of layer 11 is awake. -/
import Derived.Test.YtkpfppbpcdjhcaaDoorPathU
import Derived.Test.YtkpfppbpcdjhcaaDoorPathR2
namespace Go.Proofs.YtkpfppbpcdjhcaaDoor
open Go.RowKit Go.Lib

/-- nameOk over a list. -/
def nameOkL (l : List UInt8) : Bool := decide (1 ≤ l.length) && decide (l.length ≤ 16) && !(l == [46]) && !(l == [46, 46]) && l.all nameByte
theorem nameOk_mk (l : List UInt8) : nameOk (mkB l) = nameOkL l := by
  unfold nameOk nameOkL
  rw [toList_data, mkB_size]
theorem name_mk {l : List UInt8} (h : nameOkL l = true) : nameOk (mkB l) = true := by rw [nameOk_mk]; exact h
theorem path_mk {L : List (List UInt8)} (h1 : L.length ≤ 8) (h2 : L.all nameOkL = true) (h3 : (47 :: join L [47]).length ≤ 64) : psplit (mkB (47 :: join L [47])) = some (L.map mkB) := by
  have e : (L.map mkB).map (fun x : ByteArray => x.data.toList) = L := by
    rw [List.map_map]
    conv => rhs; rw [← List.map_id L]
    exact List.map_congr_left fun x _ => mkB_toList x
  have hj : pjoin (L.map mkB) = mkB (47 :: join L [47]) := by unfold pjoin; rw [e]
  rw [← hj]
  refine psplit_pjoin ⟨by simpa using h1, fun x hx => ?_, ?_⟩
  · obtain ⟨l, hl, rfl⟩ := List.mem_map.1 hx
    exact name_mk (List.all_eq_true.1 h2 l hl)
  · rw [hj, mkB_size]; exact h3
theorem split_ab : psplit ⟨#[47, 97, 47, 98]⟩ = some [⟨#[97]⟩, ⟨#[98]⟩] := path_mk (L := [[97], [98]]) (by decide) (by decide) (by decide)
theorem split_a : psplit ⟨#[47, 97]⟩ = some [⟨#[97]⟩] := path_mk (L := [[97]]) (by decide) (by decide) (by decide)
theorem split_root : psplit ⟨#[47]⟩ = some [] := by
  unfold psplit; rw [if_pos (by rw [toList_data]; decide)]
theorem under_ab_a : punder ⟨#[47, 97, 47, 98]⟩ ⟨#[47, 97]⟩ = true := by
  unfold punder; rw [split_ab, split_a]; simp
theorem under_self (s : ByteArray) : punder s s = false := by
  unfold punder
  cases psplit s <;> simp
theorem name_a : nameOk ⟨#[97]⟩ = true := name_mk (l := [97]) (by decide)
theorem name_up : nameOk ⟨#[46, 46]⟩ = false := by rw [show (⟨#[46, 46]⟩ : ByteArray) = mkB [46, 46] from rfl, nameOk_mk]; decide
theorem join_ab : pjoin [⟨#[97]⟩, ⟨#[98]⟩] = ⟨#[47, 97, 47, 98]⟩ := by decide

set_option maxRecDepth 100000 in
set_option maxHeartbeats 1000000 in
theorem awake11 (w : World) (hm : MLen w) :
    Calls Tryd.prog 7 #[] w fun e w' => e = .returned (.bool true) ∧ Below w.heap.size w w' := by
  have H1 := Lib.hid (path_split ⟨#[47, 97, 47, 98]⟩ w (by decide) hm)
  have HN1 : Hid (∀ w1, Calls Tryd.prog 10 #[.string ⟨#[97]⟩] w1 fun e w' => e = .returned (.bool true) ∧ ∃ n, w' = w1.drewN n) := fun w1 => by
    have := name_any ⟨#[97]⟩ (by decide) w1; rw [name_a] at this; exact this
  have HN2 : Hid (∀ w1, Calls Tryd.prog 10 #[.string ⟨#[46, 46]⟩] w1 fun e w' => e = .returned (.bool false) ∧ ∃ n, w' = w1.drewN n) := fun w1 => by
    have := name_any ⟨#[46, 46]⟩ (by decide) w1; rw [name_up] at this; exact this
  have HU1 : Hid (∀ w1, Below w.heap.size w w1 → Calls Tryd.prog 12 #[.string ⟨#[47, 97, 47, 98]⟩, .string ⟨#[47, 97]⟩] w1 fun e w' => e = .returned (.bool true) ∧ Below w1.heap.size w1 w') := fun w1 h => by
    have := path_under ⟨#[47, 97, 47, 98]⟩ ⟨#[47, 97]⟩ w1 (by decide) (by decide) (hm.below h); rw [under_ab_a] at this; exact this
  have HU2 : Hid (∀ w1, Below w.heap.size w w1 → Calls Tryd.prog 12 #[.string ⟨#[47, 97]⟩, .string ⟨#[47, 97]⟩] w1 fun e w' => e = .returned (.bool false) ∧ Below w1.heap.size w1 w') := fun w1 h => by
    have := path_under ⟨#[47, 97]⟩ ⟨#[47, 97]⟩ w1 (by decide) (by decide) (hm.below h); rw [under_self] at this; exact this
  clear hm
  go_enter Tryd.func7, Tryd.ntmps7
  go_wp2_with fail
  refine H1.out.mono ?_
  intro e w1 hr
  obtain ⟨a1, c1, rfl, hc1, hS1, hB1⟩ := splitAns_some split_ab hr
  clear hr
  have HJ : Hid (∀ w2, Below w1.heap.size w1 w2 → Calls Tryd.prog 14 #[.slice a1 2 c1] w2 fun e w' => e = .returned (.string ⟨#[47, 97, 47, 98]⟩) ∧ Below w2.heap.size w2 w') := fun w2 h => by
    have := path_join a1 c1 [⟨#[97]⟩, ⟨#[98]⟩] w2 (hS1.below h) hc1 (by decide) (by decide); rw [join_ab] at this; exact this
  obtain ⟨b, o, rfl, cell, hbl⟩ := hS1.at_ (k := 1) (by decide)
  have cell' : w1.cell? ⟨b, o + 1, none⟩ = some (.string ⟨#[98]⟩) := cell
  clear cell hS1
  have HB1 := Lib.hid hB1
  clear hB1
  go_wp2_with fail
  refine (HN1.out _).mono ?_
  rintro e w2 ⟨rfl, n2, rfl⟩
  go_wp2_with fail
  refine (HN2.out _).mono ?_
  rintro e w3 ⟨rfl, n3, rfl⟩
  go_wp2_with fail
  refine (HJ.out _ (below_drewN' (Below.refl _ _) _)).mono ?_
  rintro e w4 ⟨rfl, hB4⟩
  have HB4 := Lib.hid (blw (below_drewN' HB1.out _) hB4)
  clear hB4
  go_wp2_with fail
  refine (HU1.out _ HB4.out).mono ?_
  rintro e w5 ⟨rfl, hB5⟩
  have HB5 := Lib.hid (blw HB4.out hB5)
  clear hB5
  go_wp2_with fail
  refine (HU2.out _ HB5.out).mono ?_
  rintro e w6 ⟨rfl, hB6⟩
  have HB6 := Lib.hid (blw HB5.out hB6)
  clear hB6
  go_wp2_with fail
  go_ret
  exact ⟨rfl, HB6.out⟩
end Go.Proofs.YtkpfppbpcdjhcaaDoor
