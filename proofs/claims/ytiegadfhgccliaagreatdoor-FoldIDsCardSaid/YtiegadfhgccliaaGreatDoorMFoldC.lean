/- Walks of package fold: Check. Printed by gen_fold.py. -/
import Derived.Test.YtiegadfhgccliaaGreatDoorMFoldW
namespace Go.Proofs.YtiegadfhgccliaaGreatDoor
open Go.RowKit Go.Lib
open Go.ChangeMaps (setBlock)

set_option maxRecDepth 100000 in
set_option maxHeartbeats 16000000 in
/-- Check. -/
theorem fold_check (e0 : Ev) (a : Option Addr) (c : Nat) (w : World) (hp : e0.path.size ≤ 100000) (hq : e0.to.size ≤ 100000) (hd : e0.data.length ≤ 1000000) {sb tb mb lb : Nat} {S : FS} (hS : FoldP w sb tb mb lb S) (hI : TInv S.t) (hm : MLen w) :
    Calls Tryz.prog 19 #[.pointer (some ⟨sb, 0, none⟩), evV e0 a c] w fun e w' => e = .returned (.int .i64 (checkS S e0)) ∧ Below w.heap.size w w' := by
  have HWr : Hid (∀ W, Below w.heap.size w W → Calls Tryz.prog 41 #[.pointer (some ⟨sb, 0, none⟩), evV e0 a c] W fun e w' => e = .returned (.int .i64 (if (fileS S.t e0.path).2 = 0 then (if 1024 < e0.data.length then 1 else if e0.off < 0 ∨ 1099511627776 - (e0.data.length : Int) < e0.off then 9 else 0) else (fileS S.t e0.path).2)) ∧ Below W.heap.size W w') := fun W h => fold_write e0 a c W hp hd (hS.below h) hI (hm.below h) rfl
  have HTr : Hid (∀ W, Below w.heap.size w W → Calls Tryz.prog 42 #[.pointer (some ⟨sb, 0, none⟩), evV e0 a c] W fun e w' => e = .returned (.int .i64 (if (fileS S.t e0.path).2 = 0 then (if e0.size < 0 ∨ 1099511627776 < e0.size then 9 else 0) else (fileS S.t e0.path).2)) ∧ Below W.heap.size W w') := fun W h => fold_trunc e0 a c W hp (hS.below h) hI (hm.below h) rfl
  have HCan : Hid (∀ W, Below w.heap.size w W → Calls Tryz.prog 40 #[.pointer (some ⟨tb, 0, none⟩), .string e0.path] W fun e w' => e = .returned (.int .i64 (canS S.t.L e0.path)) ∧ Below W.heap.size W w') := fun W h => tree_can e0.path W (by unfold maxLen; omega) (hS.t.below h) hI.rises.apart (hm.below h) (by have := hI.few; omega) rfl
  have HRen : Hid (∀ W, Below w.heap.size w W → Calls Tryz.prog 43 #[.pointer (some ⟨tb, 0, none⟩), .string e0.path, .string e0.to] W fun e w' => e = .returned (.int .i64 (canRenS S.t.L e0.path e0.to)) ∧ Below W.heap.size W w') := fun W h => tree_canren e0.path e0.to W hp hq (hS.t.below h) hI (hm.below h) rfl
  have HDr : Hid (∀ W dir, Below w.heap.size w W → Calls Tryz.prog 44 #[.pointer (some ⟨tb, 0, none⟩), .string e0.path, .bool dir] W fun e w' => e = .returned (.int .i64 (canDropS S.t.L e0.path dir)) ∧ Below W.heap.size W w') := fun W dir h => tree_candrop e0.path dir W hp (hS.t.below h) hI (hm.below h) rfl
  have HNa : Hid (∀ W, Calls Tryz.prog 45 #[.string e0.path] W fun e w' => e = .returned (.bool (nameOk e0.path)) ∧ ∃ n, w' = W.drewN n) := fun W => name_any e0.path (by unfold maxLen; omega) W
  have hltS := hS.lt.1
  obtain ⟨c0, c1⟩ := hS.cells
  obtain ⟨op, path, dst, off, size, data⟩ := e0
  dsimp only [evV] at *
  clear hS hI hm
  obtain ⟨r, hr⟩ : ∃ r, checkS S ⟨op, path, dst, off, size, data⟩ = r := ⟨_, rfl⟩
  rw [hr]
  unfold checkS at hr
  dsimp only at hr
  have hbx := heap_alloc_new w (.cells #[.int .i64 op, .string path, .string dst, .int .i64 off, .int .i64 size, .slice a data.length c] 31)
  have hB0 : Below w.heap.size w (w.alloc (.cells #[.int .i64 op, .string path, .string dst, .int .i64 off, .int .i64 size, .slice a data.length c] 31)) := (Below.refl _ _).alloc (Nat.le_refl _) _
  have hsz : (w.alloc (.cells #[.int .i64 op, .string path, .string dst, .int .i64 off, .int .i64 size, .slice a data.length c] 31)).heap.size = w.heap.size + 1 := by simp
  have g0 := (hB0.cell (p := ⟨sb, 0, none⟩) hltS).trans c0
  have g1 := (hB0.cell (p := ⟨sb, 1, none⟩) hltS).trans c1
  generalize data.length = n at *
  obtain ⟨W, hW⟩ : ∃ W, W = w.alloc (.cells #[.int .i64 op, .string path, .string dst, .int .i64 off, .int .i64 size, .slice a n c] 31) := ⟨_, rfl⟩
  rw [← hW] at hbx hB0 hsz g0 g1
  obtain ⟨e0, e1, e2, e3, e4, e5⟩ := b6_cells hbx
  have hwW : w.heap.size < W.heap.size := by omega
  have hsW : sb < W.heap.size := by omega
  by_cases h1 : op = 1
  · subst h1
    rw [if_pos (.inl rfl)] at hr
    subst hr
    go_enter Tryz.func19, Tryz.ntmps19
    go_upto_region 1 with (fail)
    rw [← hW]
    clear hW
    go_upto_region 6 with (fail)
    go_region_held3 (fun w' => w'.cell? ⟨sb, 0, none⟩ = some (.pointer (some ⟨tb, 0, none⟩)) ∧ w'.cell? ⟨w.heap.size, 0, none⟩ = some (.int .i64 1) ∧ w'.cell? ⟨w.heap.size, 1, none⟩ = some (.string path) ∧ w'.cell? ⟨w.heap.size, 2, none⟩ = some (.string dst)) (first | go_keep | exact ⟨g0, e0, e1, e2⟩ | exact ⟨(World.cell?_of_block (hBc.block sb hsW)).trans g0, (World.cell?_of_block (hBc.block w.heap.size hwW)).trans e0, (World.cell?_of_block (hBc.block w.heap.size hwW)).trans e1, (World.cell?_of_block (hBc.block w.heap.size hwW)).trans e2⟩) (first | (go_at_call 40; refine (HCan.out _ (by first | exact hB0 | exact below_drewN' hB0 1)).mono ?_; rintro e w' ⟨rfl, hBc⟩))
    all_goals
      go_wp2
      go_ret
      exact ⟨rfl, blw (by first | exact hB0 | exact below_drewN' hB0 1) hBc⟩
  by_cases h2 : op = 2
  · subst h2
    rw [if_pos (.inr rfl)] at hr
    subst hr
    go_enter Tryz.func19, Tryz.ntmps19
    go_upto_region 1 with (fail)
    rw [← hW]
    clear hW
    go_upto_region 6 with (fail)
    go_region_held3 (fun w' => w'.cell? ⟨sb, 0, none⟩ = some (.pointer (some ⟨tb, 0, none⟩)) ∧ w'.cell? ⟨w.heap.size, 0, none⟩ = some (.int .i64 2) ∧ w'.cell? ⟨w.heap.size, 1, none⟩ = some (.string path) ∧ w'.cell? ⟨w.heap.size, 2, none⟩ = some (.string dst)) (first | go_keep | exact ⟨g0, e0, e1, e2⟩ | exact ⟨(World.cell?_of_block (hBc.block sb hsW)).trans g0, (World.cell?_of_block (hBc.block w.heap.size hwW)).trans e0, (World.cell?_of_block (hBc.block w.heap.size hwW)).trans e1, (World.cell?_of_block (hBc.block w.heap.size hwW)).trans e2⟩) (first | (go_at_call 40; refine (HCan.out _ (by first | exact hB0 | exact below_drewN' hB0 1)).mono ?_; rintro e w' ⟨rfl, hBc⟩))
    all_goals
      go_wp2
      go_ret
      exact ⟨rfl, blw (by first | exact hB0 | exact below_drewN' hB0 1) hBc⟩
  rw [if_neg (by omega)] at hr
  by_cases h3 : op = 3
  · subst h3
    rw [if_pos rfl] at hr
    rw [hr] at HWr
    clear hr
    go_enter Tryz.func19, Tryz.ntmps19
    go_upto_region 1 with (fail)
    rw [← hW]
    clear hW
    go_wp2_with fail
    refine (HWr.out _ hB0).mono ?_
    rintro e w1 ⟨rfl, hB1⟩
    go_wp2
    go_ret
    exact ⟨rfl, blw hB0 hB1⟩
  rw [if_neg h3] at hr
  by_cases h4 : op = 4
  · subst h4
    rw [if_pos rfl] at hr
    rw [hr] at HTr
    clear hr
    go_enter Tryz.func19, Tryz.ntmps19
    go_upto_region 1 with (fail)
    rw [← hW]
    clear hW
    go_wp2_with fail
    refine (HTr.out _ hB0).mono ?_
    rintro e w1 ⟨rfl, hB1⟩
    go_wp2
    go_ret
    exact ⟨rfl, blw hB0 hB1⟩
  rw [if_neg h4] at hr
  by_cases h5 : op = 5
  · subst h5
    rw [if_pos rfl] at hr
    subst hr
    go_enter Tryz.func19, Tryz.ntmps19
    go_upto_region 1 with (fail)
    rw [← hW]
    clear hW
    go_upto_region 12 with (fail)
    go_region_held3 (fun w' => w'.cell? ⟨sb, 0, none⟩ = some (.pointer (some ⟨tb, 0, none⟩)) ∧ w'.cell? ⟨w.heap.size, 0, none⟩ = some (.int .i64 5) ∧ w'.cell? ⟨w.heap.size, 1, none⟩ = some (.string path) ∧ w'.cell? ⟨w.heap.size, 2, none⟩ = some (.string dst)) (first | go_keep | exact ⟨g0, e0, e1, e2⟩ | exact ⟨(World.cell?_of_block (hBc.block sb hsW)).trans g0, (World.cell?_of_block (hBc.block w.heap.size hwW)).trans e0, (World.cell?_of_block (hBc.block w.heap.size hwW)).trans e1, (World.cell?_of_block (hBc.block w.heap.size hwW)).trans e2⟩) (first | (go_at_call 43; refine (HRen.out _ (by first | exact hB0 | exact below_drewN' hB0 1)).mono ?_; rintro e w' ⟨rfl, hBc⟩))
    all_goals
      go_wp2
      go_ret
      exact ⟨rfl, blw (by first | exact hB0 | exact below_drewN' hB0 1) hBc⟩
  rw [if_neg h5] at hr
  by_cases h6 : op = 6
  · subst h6
    rw [if_pos (.inl rfl)] at hr
    subst hr
    go_enter Tryz.func19, Tryz.ntmps19
    go_upto_region 1 with (fail)
    rw [← hW]
    clear hW
    go_upto_region 15 with (fail)
    go_region_held3 (fun w' => w'.cell? ⟨sb, 0, none⟩ = some (.pointer (some ⟨tb, 0, none⟩)) ∧ w'.cell? ⟨w.heap.size, 0, none⟩ = some (.int .i64 6) ∧ w'.cell? ⟨w.heap.size, 1, none⟩ = some (.string path) ∧ w'.cell? ⟨w.heap.size, 2, none⟩ = some (.string dst)) (first | go_keep | exact ⟨g0, e0, e1, e2⟩ | exact ⟨(World.cell?_of_block (hBc.block sb hsW)).trans g0, (World.cell?_of_block (hBc.block w.heap.size hwW)).trans e0, (World.cell?_of_block (hBc.block w.heap.size hwW)).trans e1, (World.cell?_of_block (hBc.block w.heap.size hwW)).trans e2⟩) (first | (go_at_call 44; refine (HDr.out _ false (by first | exact hB0 | exact below_drewN' hB0 1)).mono ?_; rintro e w' ⟨rfl, hBc⟩))
    all_goals
      go_wp2
      go_ret
      exact ⟨rfl, blw (by first | exact hB0 | exact below_drewN' hB0 1) hBc⟩
  by_cases h7 : op = 7
  · subst h7
    rw [if_pos (.inr rfl)] at hr
    subst hr
    go_enter Tryz.func19, Tryz.ntmps19
    go_upto_region 1 with (fail)
    rw [← hW]
    clear hW
    go_upto_region 15 with (fail)
    go_region_held3 (fun w' => w'.cell? ⟨sb, 0, none⟩ = some (.pointer (some ⟨tb, 0, none⟩)) ∧ w'.cell? ⟨w.heap.size, 0, none⟩ = some (.int .i64 7) ∧ w'.cell? ⟨w.heap.size, 1, none⟩ = some (.string path) ∧ w'.cell? ⟨w.heap.size, 2, none⟩ = some (.string dst)) (first | go_keep | exact ⟨g0, e0, e1, e2⟩ | exact ⟨(World.cell?_of_block (hBc.block sb hsW)).trans g0, (World.cell?_of_block (hBc.block w.heap.size hwW)).trans e0, (World.cell?_of_block (hBc.block w.heap.size hwW)).trans e1, (World.cell?_of_block (hBc.block w.heap.size hwW)).trans e2⟩) (first | (go_at_call 44; refine (HDr.out _ true (by first | exact hB0 | exact below_drewN' hB0 1)).mono ?_; rintro e w' ⟨rfl, hBc⟩))
    all_goals
      go_wp2
      go_ret
      exact ⟨rfl, blw (by first | exact hB0 | exact below_drewN' hB0 1) hBc⟩
  rw [if_neg (by omega)] at hr
  by_cases h8 : op = 8
  · subst h8
    rw [if_pos rfl] at hr
    cases hn : nameOk path with
    | true =>
      rw [hn, if_pos rfl] at hr
      subst hr
      rw [hn] at HNa
      go_enter Tryz.func19, Tryz.ntmps19
      go_upto_region 1 with (fail)
      rw [← hW]
      clear hW
      go_wp2_with fail
      refine (HNa.out _).mono ?_
      rintro e w1 ⟨rfl, nN, rfl⟩
      go_wp2
      go_ret
      exact ⟨rfl, below_drewN hB0 nN⟩
    | false =>
      rw [hn, if_neg (by decide)] at hr
      subst hr
      rw [hn] at HNa
      go_enter Tryz.func19, Tryz.ntmps19
      go_upto_region 1 with (fail)
      rw [← hW]
      clear hW
      go_wp2_with fail
      refine (HNa.out _).mono ?_
      rintro e w1 ⟨rfl, nN, rfl⟩
      go_wp2
      go_ret
      exact ⟨rfl, below_drewN hB0 nN⟩
  rw [if_neg h8] at hr
  subst hr
  have b1 : (op == 1) = false := by rw [beq_eq_false_iff_ne]; exact h1
  have b2 : (op == 2) = false := by rw [beq_eq_false_iff_ne]; exact h2
  have b3 : (op == 3) = false := by rw [beq_eq_false_iff_ne]; exact h3
  have b4 : (op == 4) = false := by rw [beq_eq_false_iff_ne]; exact h4
  have b5 : (op == 5) = false := by rw [beq_eq_false_iff_ne]; exact h5
  have b6 : (op == 6) = false := by rw [beq_eq_false_iff_ne]; exact h6
  have b7 : (op == 7) = false := by rw [beq_eq_false_iff_ne]; exact h7
  have b8 : (op == 8) = false := by rw [beq_eq_false_iff_ne]; exact h8
  clear h1 h2 h3 h4 h5 h6 h7 h8
  go_enter Tryz.func19, Tryz.ntmps19
  go_upto_region 1 with (fail)
  rw [← hW]
  clear hW
  go_wp2
  go_ret
  exact ⟨rfl, hB0⟩
end Go.Proofs.YtiegadfhgccliaaGreatDoor
