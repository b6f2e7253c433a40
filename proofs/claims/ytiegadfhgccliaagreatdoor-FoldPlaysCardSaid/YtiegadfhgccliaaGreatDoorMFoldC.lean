/- Package body: what Write asks of slices: ContainsFunc with its own test, Clone. -/
import Derived.Test.YtiegadfhgccliaaGreatDoorMDocG
import Derived.Test.YtiegadfhgccliaaGreatDoorMBodyV
import Derived.Test.YtiegadfhgccliaaGreatDoorMStateI
namespace Go.Proofs.YtiegadfhgccliaaGreatDoor
open Go.RowKit Go.Lib
open Go.ChangeMaps (setBlock)

set_option maxRecDepth 100000 in
set_option maxHeartbeats 16000000 in
/-- Check. -/
theorem fold_check (e0 : Ev) (a : Option Addr) (c : Nat) (w : World) (hp : e0.path.size ≤ 100000) (hq : e0.to.size ≤ 100000) (hd : e0.data.length ≤ 1000000) {sb tb mb lb : Nat} {S : FS} (hS : FoldP w sb tb mb lb S) (hI : TInv S.t) (hm : MLen w) :
    Calls Tryz.prog 19 #[.pointer (some ⟨sb, 0, none⟩), evV e0 a c] w fun e w' => e = .returned (.int .i64 (checkS S e0)) ∧ Below w.heap.size w w' := by
  have HWr : Hid (∀ W, Below w.heap.size w W → Calls Tryz.prog 41 #[.pointer (some ⟨sb, 0, none⟩), evV e0 a c] W fun e w' => e = .returned (.int .i64 (if (fileS S.t e0.path).2 = 0 then (if 1024 < e0.data.length then 1 else if e0.off < 0 ∨ 1099511627776 - (e0.data.length : Int) < e0.off then 9 else 0) else (fileS S.t e0.path).2)) ∧ Below W.heap.size W w') := fun W h => fold_write e0 a c W hp hd (hS.below h) hI (hm.below h) rfl
  have HTr : Hid (∀ W, Below w.heap.size w W → Calls Tryz.prog 42 #[.pointer (some ⟨sb, 0, none⟩), evV e0 a c] W fun e w' => e = .returned (.int .i64 (if (fileS S.t e0.path).2 = 0 then (if e0.size < 0 ∨ 1099511627776 < e0.size then 9 else 0) else (fileS S.t e0.path).2)) ∧ Below W.heap.size W w') := fun W h => fold_trunc e0 a c W hp (hS.below h) hI (hm.below h) rfl
  have HCan : Hid (∀ W, Below w.heap.size w W → Calls Tryz.prog 40 #[.pointer (some ⟨tb, 0, none⟩), .string e0.path] W fun e w' => e = .returned (.int .i64 (canS S.t.L e0.path)) ∧ Below W.heap.size W w') := fun W h => tree_can e0.path W (by unfold maxLen; omega) (hS.t.below h) hI.rises.apart (hm.below h) (by have := hI.few; omega) rfl
  have HRen : Hid (∀ W, Below w.heap.size w W → Calls Tryz.prog 43 #[.pointer (some ⟨tb, 0, none⟩), .string e0.path, .string e0.to] W fun e w' => e = .returned (.int .i64 (canRenS S.t.L e0.path e0.to)) ∧ Below W.heap.size W w') := fun W h => tree_canren e0.path e0.to W hp hq (hS.t.below h) hI (hm.below h) rfl
  have HDr : Hid (∀ W dir, Below w.heap.size w W → Calls Tryz.prog 44 #[.pointer (some ⟨tb, 0, none⟩), .string e0.path, .bool dir] W fun e w' => e = .returned (.int .i64 (canDropS S.t.L e0.path dir)) ∧ Below W.heap.size W w') := fun W dir h => tree_candrop e0.path dir W hp (hS.t.below h) hI (hm.below h) rfl
  have HNa : Hid (∀ W, Calls Tryz.prog 45 #[.string e0.path] W fun e w' => e = .returned (.bool (nameOk e0.path)) ∧ ∃ n, w' = W.drewN n) := fun W => name_any e0.path (by unfold maxLen; omega) W
  have hltS := hS.lt.1
  obtain ⟨c0, c1⟩ := hS.cells
  obtain ⟨op, path, dst, off, size, data⟩ := e0
  dsimp only [evV] at *
  clear hS hI hm
  obtain ⟨r, hr⟩ : ∃ r, checkS S ⟨op, path, dst, off, size, data⟩ = r := ⟨_, rfl⟩
  rw [hr]
  unfold checkS at hr
  dsimp only at hr
  have hbx := heap_alloc_new w (.cells #[.int .i64 op, .string path, .string dst, .int .i64 off, .int .i64 size, .slice a data.length c] 31)
  have hB0 : Below w.heap.size w (w.alloc (.cells #[.int .i64 op, .string path, .string dst, .int .i64 off, .int .i64 size, .slice a data.length c] 31)) := (Below.refl _ _).alloc (Nat.le_refl _) _
  have hsz : (w.alloc (.cells #[.int .i64 op, .string path, .string dst, .int .i64 off, .int .i64 size, .slice a data.length c] 31)).heap.size = w.heap.size + 1 := by simp
  have g0 := (hB0.cell (p := ⟨sb, 0, none⟩) hltS).trans c0
  have g1 := (hB0.cell (p := ⟨sb, 1, none⟩) hltS).trans c1
  generalize data.length = n at *
  obtain ⟨W, hW⟩ : ∃ W, W = w.alloc (.cells #[.int .i64 op, .string path, .string dst, .int .i64 off, .int .i64 size, .slice a n c] 31) := ⟨_, rfl⟩
  rw [← hW] at hbx hB0 hsz g0 g1
  obtain ⟨e0, e1, e2, e3, e4, e5⟩ := b6_cells hbx
  have hwW : w.heap.size < W.heap.size := by omega
  have hsW : sb < W.heap.size := by omega
  by_cases h1 : op = 1
  · subst h1
    rw [if_pos (.inl rfl)] at hr
    subst hr
    go_enter Tryz.func19, Tryz.ntmps19
    go_upto_region 1 with (fail)
    rw [← hW]
    clear hW
    go_upto_region 6 with (fail)
    go_region_held3 (fun w' => w'.cell? ⟨sb, 0, none⟩ = some (.pointer (some ⟨tb, 0, none⟩)) ∧ w'.cell? ⟨w.heap.size, 0, none⟩ = some (.int .i64 1) ∧ w'.cell? ⟨w.heap.size, 1, none⟩ = some (.string path) ∧ w'.cell? ⟨w.heap.size, 2, none⟩ = some (.string dst)) (first | go_keep | exact ⟨g0, e0, e1, e2⟩ | exact ⟨(World.cell?_of_block (hBc.block sb hsW)).trans g0, (World.cell?_of_block (hBc.block w.heap.size hwW)).trans e0, (World.cell?_of_block (hBc.block w.heap.size hwW)).trans e1, (World.cell?_of_block (hBc.block w.heap.size hwW)).trans e2⟩) (first | (go_at_call 40; refine (HCan.out _ (by first | exact hB0 | exact below_drewN' hB0 1)).mono ?_; rintro e w' ⟨rfl, hBc⟩))
    all_goals
      go_wp2
      go_ret
      exact ⟨rfl, blw (by first | exact hB0 | exact below_drewN' hB0 1) hBc⟩
  by_cases h2 : op = 2
  · subst h2
    rw [if_pos (.inr rfl)] at hr
    subst hr
    go_enter Tryz.func19, Tryz.ntmps19
    go_upto_region 1 with (fail)
    rw [← hW]
    clear hW
    go_upto_region 6 with (fail)
    go_region_held3 (fun w' => w'.cell? ⟨sb, 0, none⟩ = some (.pointer (some ⟨tb, 0, none⟩)) ∧ w'.cell? ⟨w.heap.size, 0, none⟩ = some (.int .i64 2) ∧ w'.cell? ⟨w.heap.size, 1, none⟩ = some (.string path) ∧ w'.cell? ⟨w.heap.size, 2, none⟩ = some (.string dst)) (first | go_keep | exact ⟨g0, e0, e1, e2⟩ | exact ⟨(World.cell?_of_block (hBc.block sb hsW)).trans g0, (World.cell?_of_block (hBc.block w.heap.size hwW)).trans e0, (World.cell?_of_block (hBc.block w.heap.size hwW)).trans e1, (World.cell?_of_block (hBc.block w.heap.size hwW)).trans e2⟩) (first | (go_at_call 40; refine (HCan.out _ (by first | exact hB0 | exact below_drewN' hB0 1)).mono ?_; rintro e w' ⟨rfl, hBc⟩))
    all_goals
      go_wp2
      go_ret
      exact ⟨rfl, blw (by first | exact hB0 | exact below_drewN' hB0 1) hBc⟩
  rw [if_neg (by omega)] at hr
  by_cases h3 : op = 3
  · subst h3
    rw [if_pos rfl] at hr
    rw [hr] at HWr
    clear hr
    go_enter Tryz.func19, Tryz.ntmps19
    go_upto_region 1 with (fail)
    rw [← hW]
    clear hW
    go_wp2_with fail
    refine (HWr.out _ hB0).mono ?_
    rintro e w1 ⟨rfl, hB1⟩
    go_wp2
    go_ret
    exact ⟨rfl, blw hB0 hB1⟩
  rw [if_neg h3] at hr
  by_cases h4 : op = 4
  · subst h4
    rw [if_pos rfl] at hr
    rw [hr] at HTr
    clear hr
    go_enter Tryz.func19, Tryz.ntmps19
    go_upto_region 1 with (fail)
    rw [← hW]
    clear hW
    go_wp2_with fail
    refine (HTr.out _ hB0).mono ?_
    rintro e w1 ⟨rfl, hB1⟩
    go_wp2
    go_ret
    exact ⟨rfl, blw hB0 hB1⟩
  rw [if_neg h4] at hr
  by_cases h5 : op = 5
  · subst h5
    rw [if_pos rfl] at hr
    subst hr
    go_enter Tryz.func19, Tryz.ntmps19
    go_upto_region 1 with (fail)
    rw [← hW]
    clear hW
    go_upto_region 12 with (fail)
    go_region_held3 (fun w' => w'.cell? ⟨sb, 0, none⟩ = some (.pointer (some ⟨tb, 0, none⟩)) ∧ w'.cell? ⟨w.heap.size, 0, none⟩ = some (.int .i64 5) ∧ w'.cell? ⟨w.heap.size, 1, none⟩ = some (.string path) ∧ w'.cell? ⟨w.heap.size, 2, none⟩ = some (.string dst)) (first | go_keep | exact ⟨g0, e0, e1, e2⟩ | exact ⟨(World.cell?_of_block (hBc.block sb hsW)).trans g0, (World.cell?_of_block (hBc.block w.heap.size hwW)).trans e0, (World.cell?_of_block (hBc.block w.heap.size hwW)).trans e1, (World.cell?_of_block (hBc.block w.heap.size hwW)).trans e2⟩) (first | (go_at_call 43; refine (HRen.out _ (by first | exact hB0 | exact below_drewN' hB0 1)).mono ?_; rintro e w' ⟨rfl, hBc⟩))
    all_goals
      go_wp2
      go_ret
      exact ⟨rfl, blw (by first | exact hB0 | exact below_drewN' hB0 1) hBc⟩
  rw [if_neg h5] at hr
  by_cases h6 : op = 6
  · subst h6
    rw [if_pos (.inl rfl)] at hr
    subst hr
    go_enter Tryz.func19, Tryz.ntmps19
    go_upto_region 1 with (fail)
    rw [← hW]
    clear hW
    go_upto_region 15 with (fail)
    go_region_held3 (fun w' => w'.cell? ⟨sb, 0, none⟩ = some (.pointer (some ⟨tb, 0, none⟩)) ∧ w'.cell? ⟨w.heap.size, 0, none⟩ = some (.int .i64 6) ∧ w'.cell? ⟨w.heap.size, 1, none⟩ = some (.string path) ∧ w'.cell? ⟨w.heap.size, 2, none⟩ = some (.string dst)) (first | go_keep | exact ⟨g0, e0, e1, e2⟩ | exact ⟨(World.cell?_of_block (hBc.block sb hsW)).trans g0, (World.cell?_of_block (hBc.block w.heap.size hwW)).trans e0, (World.cell?_of_block (hBc.block w.heap.size hwW)).trans e1, (World.cell?_of_block (hBc.block w.heap.size hwW)).trans e2⟩) (first | (go_at_call 44; refine (HDr.out _ false (by first | exact hB0 | exact below_drewN' hB0 1)).mono ?_; rintro e w' ⟨rfl, hBc⟩))
    all_goals
      go_wp2
      go_ret
      exact ⟨rfl, blw (by first | exact hB0 | exact below_drewN' hB0 1) hBc⟩
  by_cases h7 : op = 7
  · subst h7
    rw [if_pos (.inr rfl)] at hr
    subst hr
    go_enter Tryz.func19, Tryz.ntmps19
    go_upto_region 1 with (fail)
    rw [← hW]
    clear hW
    go_upto_region 15 with (fail)
    go_region_held3 (fun w' => w'.cell? ⟨sb, 0, none⟩ = some (.pointer (some ⟨tb, 0, none⟩)) ∧ w'.cell? ⟨w.heap.size, 0, none⟩ = some (.int .i64 7) ∧ w'.cell? ⟨w.heap.size, 1, none⟩ = some (.string path) ∧ w'.cell? ⟨w.heap.size, 2, none⟩ = some (.string dst)) (first | go_keep | exact ⟨g0, e0, e1, e2⟩ | exact ⟨(World.cell?_of_block (hBc.block sb hsW)).trans g0, (World.cell?_of_block (hBc.block w.heap.size hwW)).trans e0, (World.cell?_of_block (hBc.block w.heap.size hwW)).trans e1, (World.cell?_of_block (hBc.block w.heap.size hwW)).trans e2⟩) (first | (go_at_call 44; refine (HDr.out _ true (by first | exact hB0 | exact below_drewN' hB0 1)).mono ?_; rintro e w' ⟨rfl, hBc⟩))
    all_goals
      go_wp2
      go_ret
      exact ⟨rfl, blw (by first | exact hB0 | exact below_drewN' hB0 1) hBc⟩
  rw [if_neg (by omega)] at hr
  by_cases h8 : op = 8
  · subst h8
    rw [if_pos rfl] at hr
    cases hn : nameOk path with
    | true =>
      rw [hn, if_pos rfl] at hr
      subst hr
      rw [hn] at HNa
      go_enter Tryz.func19, Tryz.ntmps19
      go_upto_region 1 with (fail)
      rw [← hW]
      clear hW
      go_wp2_with fail
      refine (HNa.out _).mono ?_
      rintro e w1 ⟨rfl, nN, rfl⟩
      go_wp2
      go_ret
      exact ⟨rfl, below_drewN hB0 nN⟩
    | false =>
      rw [hn, if_neg (by decide)] at hr
      subst hr
      rw [hn] at HNa
      go_enter Tryz.func19, Tryz.ntmps19
      go_upto_region 1 with (fail)
      rw [← hW]
      clear hW
      go_wp2_with fail
      refine (HNa.out _).mono ?_
      rintro e w1 ⟨rfl, nN, rfl⟩
      go_wp2
      go_ret
      exact ⟨rfl, below_drewN hB0 nN⟩
  rw [if_neg h8] at hr
  subst hr
  have b1 : (op == 1) = false := by rw [beq_eq_false_iff_ne]; exact h1
  have b2 : (op == 2) = false := by rw [beq_eq_false_iff_ne]; exact h2
  have b3 : (op == 3) = false := by rw [beq_eq_false_iff_ne]; exact h3
  have b4 : (op == 4) = false := by rw [beq_eq_false_iff_ne]; exact h4
  have b5 : (op == 5) = false := by rw [beq_eq_false_iff_ne]; exact h5
  have b6 : (op == 6) = false := by rw [beq_eq_false_iff_ne]; exact h6
  have b7 : (op == 7) = false := by rw [beq_eq_false_iff_ne]; exact h7
  have b8 : (op == 8) = false := by rw [beq_eq_false_iff_ne]; exact h8
  clear h1 h2 h3 h4 h5 h6 h7 h8
  go_enter Tryz.func19, Tryz.ntmps19
  go_upto_region 1 with (fail)
  rw [← hW]
  clear hW
  go_wp2
  go_ret
  exact ⟨rfl, hB0⟩
end Go.Proofs.YtiegadfhgccliaaGreatDoor
set_option linter.unusedVariables false
namespace Go.Proofs.YtiegadfhgccliaaGreatDoor
open Go.RowKit Go.Lib

theorem ahead_take {L : List Bp} {k : Nat} (hk : k < L.length) (q : Int) : (L.take (k + 1)).filterMap (aheadP q) = (L.take k).filterMap (aheadP q) ++ (aheadP q (L.getD k default)).toList := by
  rw [take_at hk, List.filterMap_append]
  generalize L.getD k default = x
  cases h : aheadP q x <;> simp [h]
theorem own_form {w : World} {base : Nat} {e : TypeId} {size : Nat} {v : Value} {n : Nat} {xs : List Value} (h : w.ownsRow base e size v n xs) : ∃ a c, v = .slice a n c := by
  rcases h.2 with ⟨e1, e2⟩ | ⟨g, cap, cur, e1, _⟩
  · exact ⟨none, 0, by rw [e1, e2]⟩
  · exact ⟨_, _, e1⟩
theorem encP_one (p : Bp) : ∀ u ∈ [Value.int .i64 p.off, .int .i64 p.ln, .int .i64 p.ch, .int .i64 p.at_], u.oneCell' = true := encP.one p
set_option maxRecDepth 100000 in
set_option maxHeartbeats 8000000 in
theorem trunc_yes (size q : Int) (L : List Bp) (a : Option Addr) (c : Nat) (w : World) (hS : SlPt w a L) (hc : L.length ≤ c) (hl : L.length ≤ 1000000000) (hm : mayBd ⟨size, L⟩ = true) (q1 : 0 ≤ q) (q2 : q ≤ 1099511627776) :
    Calls Tryz.prog 30 #[.agg #[.int .i64 size, .slice a L.length c], .int .i64 q] w fun e w' => ∃ v, e = .returned (.tuple #[.agg #[.int .i64 q, v], .int .i64 0]) ∧
      w'.ownsRow w.heap.size 40 4 v (L.filterMap (aheadP q)).length (encP.cells (L.filterMap (aheadP q))) ∧ Below w.heap.size w w' := by
  have hb0 := Below.heap_alloc (w.alloc (.cells #[.int .i64 size, .slice a L.length c] 47)) (.cells #[.int .i64 0, .slice none 0 0] 47) w.heap.size (by simp)
  rw [heap_alloc_new] at hb0
  have hb1 := heap_alloc_new (w.alloc (.cells #[.int .i64 size, .slice a L.length c] 47)) (.cells #[.int .i64 0, .slice none 0 0] 47)
  have hsv1 : (w.alloc (.cells #[.int .i64 size, .slice a L.length c] 47)).heap.size = w.heap.size + 1 := by simp
  rw [hsv1] at hb1
  have hBV : Below w.heap.size w ((w.alloc (.cells #[.int .i64 size, .slice a L.length c] 47)).alloc (.cells #[.int .i64 0, .slice none 0 0] 47)) := ((Below.refl _ _).alloc (Nat.le_refl _) _).alloc (by omega) _
  have hsV : ((w.alloc (.cells #[.int .i64 size, .slice a L.length c] 47)).alloc (.cells #[.int .i64 0, .slice none 0 0] 47)).heap.size = w.heap.size + 2 := by simp
  have HMy : Hid (∀ V, SlPt V a L → Calls Tryz.prog 56 #[.agg #[.int .i64 size, .slice a L.length c]] V fun e w' => e = .returned (.bool true) ∧ Below V.heap.size V w') := Lib.hid fun V h => by have := bmay_any ⟨size, L⟩ a c V h hc hl; rw [hm] at this; exact this
  have HP := Lib.hid (pin_of (mayBd_spec hm).2.1 (Int.le_refl 0) (mayBd_spec hm).2.2)
  have HS := Lib.hid hS
  obtain ⟨i0, hi, hz0, hz1, hz2⟩ := info_parts info_part
  clear hS hm
  go_enter Tryz.func30, Tryz.ntmps30
  go_upto_region 1 with (fail)
  generalize (w.alloc (.cells #[.int .i64 size, .slice a L.length c] 47)).alloc (.cells #[.int .i64 0, .slice none 0 0] 47) = V at *
  clear hsv1
  obtain ⟨e0, e1⟩ := b2_cells hb0
  go_upto_region 3 with (go_at_call 56; refine (HMy.out _ (HS.out.below hBV)).mono ?_; rintro e V1 ⟨rfl, hB1⟩)
  have k0 := (hB1.block w.heap.size (by omega)).trans hb0
  have k1 := (hB1.block (w.heap.size + 1) (by omega)).trans hb1
  have HB := Lib.hid (blw hBV hB1)
  have hs1 := hB1.size
  clear hBV hB1 hb0 hb1 e0 e1 HMy
  have hq1 : decide (q < 0) = false := by simpa using q1
  have hq2 : decide (q > 1099511627776) = false := by simpa using q2
  go_upto_region 6 with (fail)
  have ho := heap_alloc_new V1 (.cells #[.int .i64 q, .slice none 0 0] 47)
  have hBo : Below V1.heap.size V1 (V1.alloc (.cells #[.int .i64 q, .slice none 0 0] 47)) := (Below.refl _ _).alloc (Nat.le_refl _) _
  have hso : (V1.alloc (.cells #[.int .i64 q, .slice none 0 0] 47)).heap.size = V1.heap.size + 1 := by simp
  generalize V1.alloc (.cells #[.int .i64 q, .slice none 0 0] 47) = W at *
  have j0 := (hBo.block w.heap.size (by omega)).trans k0
  have HJ1 := Lib.hid ((hBo.block (w.heap.size + 1) (by omega)).trans k1)
  have HBW := Lib.hid (blw HB.out hBo)
  have hO1 : w.heap.size + 1 < V1.heap.size := by omega
  obtain ⟨m0, m1⟩ := b2_cells j0
  have HO0 := Lib.hid ho
  generalize V1.heap.size = O at *
  clear j0 k0 k1 hBo HB ho
  go_wp2
  go_loopw [29] (fun i wr => ∃ (k : Nat) (v : Value), k ≤ L.length ∧ i = .int .i64 (k : Int) ∧ Hid (wr.heap[O]? = some (.cells #[.int .i64 q, v] 47 (0, 0))) ∧ Hid (wr.heap[w.heap.size + 1]? = some (.cells #[.int .i64 0, .slice none 0 0] 47 (0, 0))) ∧ Hid (wr.ownsRow w.heap.size 40 4 v ((L.take k).filterMap (aheadP q)).length (encP.cells ((L.take k).filterMap (aheadP q)))) ∧ Hid (Below w.heap.size w wr)) (fun i _ => L.length - (intOf i).toNat)
  case atStart => exact ⟨0, .slice none 0 0, by omega, rfl, HO0, HJ1, Lib.hid (World.ownsRow_nil _ _ _ _), HBW⟩
  case round =>
    obtain ⟨k, v, hk, rfl, HO, HR, HW, HB⟩ := hrel
    have hsr := HB.out.size
    have hOr := (Array.getElem?_eq_some_iff.1 HO.out).1
    by_cases hlt : k < L.length
    · obtain ⟨bb, o, rfl, p0, p1, p2, p3, hbl⟩ := SlPt_at (HS.out.below HB.out) hlt
      have hki : (k : Int) < (L.length : Int) := by omega
      have hkc : (k : Int) < (c : Int) := by omega
      have htk := ahead_take hlt q
      have hml : ((L.take k).filterMap (aheadP q)).length ≤ k := Nat.le_trans (List.length_filterMap_le _ _) (by rw [List.length_take]; omega)
      have HTk := Lib.hid htk
      have HA : Hid (∀ V, Calls Tryz.prog 60 #[.agg #[.int .i64 (L.getD k default).off, .int .i64 (L.getD k default).ln, .int .i64 (L.getD k default).ch, .int .i64 (L.getD k default).at_], .int .i64 q] V fun e w' => e = .returned (cutV (aheadP q (L.getD k default))) ∧ Below V.heap.size V w') := Lib.hid fun V => ahead_any _ q V (HP.out _ (by simp [List.getD, hlt])) q1 (by omega)
      clear htk
      generalize (L.take k).filterMap (aheadP q) = M at *
      generalize aheadP q (L.getD k default) = r at *
      generalize L.getD k default = p at *
      obtain ⟨po, pl, pc, pa⟩ := p
      dsimp only at p0 p1 p2 p3 HA
      go_upto_region 9 with (fail)
      have hbp := heap_alloc_new wr (.cells #[.int .i64 po, .int .i64 pl, .int .i64 pc, .int .i64 pa] 40)
      have hBp : Below wr.heap.size wr (wr.alloc (.cells #[.int .i64 po, .int .i64 pl, .int .i64 pc, .int .i64 pa] 40)) := (Below.refl _ _).alloc (Nat.le_refl _) _
      generalize wr.alloc (.cells #[.int .i64 po, .int .i64 pl, .int .i64 pc, .int .i64 pa] 40) = X at *
      have HBp := Lib.hid hBp
      have hsX := hBp.size
      obtain ⟨n0, n1, n2, n3⟩ := b4_facts hbp
      clear hbp p0 p1 p2 p3 hBp
      cases r with
      | none =>
        have HTk2 : Hid ((L.take (k + 1)).filterMap (aheadP q) = M) := Lib.hid (by rw [HTk.out]; simp)
        clear HTk
        dsimp only [cutV] at HA
        go_wp2_with (go_at_call 60; refine (HA.out _).mono ?_; rintro e Y ⟨rfl, hBY⟩; have HBY : Hid (Below wr.heap.size wr (Y.alloc (.cells #[.int .i64 0, .int .i64 0, .int .i64 0, .int .i64 0] 40))) := Lib.hid ((HBp.out.trans (hBY.mono hsX)).alloc (by have := hBY.size; omega) _); clear hBY)
        exact ⟨⟨k + 1, v, by omega, by go_num, Lib.hid ((HBY.out.block O hOr).trans HO.out), Lib.hid ((HBY.out.block _ (by omega)).trans HR.out), Lib.hid (by rw [HTk2.out]; exact own_bel HW.out HBY.out), Lib.hid (blw HB.out HBY.out)⟩, by simp [intOf]; omega⟩
      | some x =>
        have HTk2 : Hid ((L.take (k + 1)).filterMap (aheadP q) = M ++ [x]) := Lib.hid (by rw [HTk.out]; rfl)
        clear HTk
        obtain ⟨xo, xl, xc, xa⟩ := x
        dsimp only [cutV] at HA
        go_upto_region 10 with (go_at_call 60; refine (HA.out _).mono ?_; rintro e Y ⟨rfl, hBY⟩)
        have hby := heap_alloc_new Y (.cells #[.int .i64 xo, .int .i64 xl, .int .i64 xc, .int .i64 xa] 40)
        have hsY := hBY.size
        have HBY : Hid (Below wr.heap.size wr (Y.alloc (.cells #[.int .i64 xo, .int .i64 xl, .int .i64 xc, .int .i64 xa] 40))) := Lib.hid ((HBp.out.trans (hBY.mono hsX)).alloc (by omega) _)
        have hsZ : Y.heap.size < (Y.alloc (.cells #[.int .i64 xo, .int .i64 xl, .int .i64 xc, .int .i64 xa] 40)).heap.size := by simp
        generalize Y.alloc (.cells #[.int .i64 xo, .int .i64 xl, .int .i64 xc, .int .i64 xa] 40) = Z at *
        have HZO := Lib.hid ((HBY.out.block O hOr).trans HO.out)
        have HZR := Lib.hid ((HBY.out.block _ (by omega : w.heap.size + 1 < wr.heap.size)).trans HR.out)
        have HZW := Lib.hid (own_bel HW.out HBY.out)
        have HZB := Lib.hid (blw HB.out HBY.out)
        obtain ⟨o0, o1⟩ := b2_cells HZO.out
        obtain ⟨y0, y1, y2, y3⟩ := b4_facts hby
        clear hBY hby n0 n1 n2 n3 HA HBp HO HR HW
        go_wp2_with (at_builtin; refine wpList_append_own _ rfl (.tmp 41) (.tmp 43) 35 rfl w.heap.size 40 i0 _ 4 32 Tryz.underlying35 hi hz0 hz1 hz2 rfl (by decide) _ _ _ rfl (own_bel HZW.out ((Below.refl _ _).alloc (Nat.le_refl _) _)) ⟨Z.heap.size, 0, none⟩ 1 1 [.int .i64 xo, .int .i64 xl, .int .i64 xc, .int .i64 xa] rfl rfl (new4 _ _ _ _ _ _ _ rfl) (encP_one ⟨xo, xl, xc, xa⟩) (by unfold maxLen; omega) (by omega) (by simp; omega) ?_; intro v' w5 hown' hgrow hnil; clear hnil; obtain ⟨a5, c5, rfl⟩ := own_form hown'; have HO5 := Lib.hid hown'; have hbZ : Below Z.heap.size Z (Z.alloc (.cells #[.int .i64 xo, .int .i64 xl, .int .i64 xc, .int .i64 xa] 40)) := (Below.refl _ _).alloc (Nat.le_refl _) _; have hn := own_bel HZW.out hbZ; have hO5 := (hgrow.block O (by simp; omega) (own_ne hn ((hbZ.block O (by omega)).trans HZO.out) (by decide))).trans ((hbZ.block O (by omega)).trans HZO.out); have hR5 := (hgrow.block (w.heap.size + 1) (by simp; omega) (own_ne hn ((hbZ.block _ (by omega)).trans HZR.out) (by decide))).trans ((hbZ.block _ (by omega)).trans HZR.out); have HB5 : Hid (Below w.heap.size w w5) := Lib.hid (grown_below (HZB.out.alloc (by omega) _) (by simp; omega) hn hgrow); obtain ⟨c0, c1⟩ := b2_cells hO5; have cf := b2_fz hO5 1; have H5 := Lib.hid hO5; have HR5 := Lib.hid hR5; clear hown' hgrow hn hO5 hR5 hbZ o0 o1 y0 y1 y2 y3)
        refine ⟨⟨k + 1, .slice a5 _ c5, by omega, by go_num, Lib.hid (heap_setCell_at H5.out 1 _), Lib.hid ((Below.heap_setCell _ _ _ _ (by show w.heap.size + 1 ≠ O; omega)).trans HR5.out), Lib.hid ?_, Lib.hid (HB5.out.setCell (p := ⟨O, 1, none⟩) (by show w.heap.size ≤ O; omega) _)⟩, by simp [intOf]; omega⟩
        have h5 := own_set_other HO5.out H5.out (by decide) 1 (.slice a5 (M.length + 1) c5)
        rw [HTk2.out, List.length_append, List.length_singleton, cellsK_snoc]
        exact h5
    · obtain rfl : k = L.length := by omega
      have hlt' : decide ((L.length : Int) < (L.length : Int)) = false := by simp
      have ht : L.take L.length = L := List.take_length
      rw [ht] at HW
      obtain ⟨av, cv, rfl⟩ := own_form HW.out
      obtain ⟨o0, o1⟩ := b2_cells HO.out
      obtain ⟨r0, r1⟩ := b2_cells HR.out
      have f0 := b2_fz HR.out 0
      obtain ⟨s0, s1⟩ := b2_sf HR.out (.int .i64 q)
      have HEnd := Lib.hid (b2_fin HR.out (.int .i64 q) (.slice av (L.filterMap (aheadP q)).length cv))
      clear hlt ht
      generalize hMM : L.filterMap (aheadP q) = M at *
      have HMM := Lib.hid hMM
      clear hMM
      go_wp2
      obtain ⟨u0, u1⟩ := b2_cells HEnd.out
      refine bodyPost_ret (v := .tuple #[.agg #[.int .i64 q, .slice av M.length cv], .int .i64 0]) (by simp [results, Tryz.f30, go_sem, u0, u1]) rfl ?_
      refine ⟨_, rfl, ?_, below_s2 HB.out (by omega) _ _⟩
      have h5 := own_set_other HW.out HR.out (by decide) 0 (.int .i64 q)
      rw [HMM.out]
      exact own_set_other h5 (heap_setCell_at HR.out 0 (.int .i64 q)) (by decide) 1 _
set_option maxRecDepth 100000 in
set_option maxHeartbeats 8000000 in
theorem trunc_no (size q : Int) (L : List Bp) (a : Option Addr) (c : Nat) (w : World) (x : Int) (hS : SlPt w a L) (hc : L.length ≤ c) (hl : L.length ≤ 1000000000) (hx : (mayBd ⟨size, L⟩ = false ∧ x = 1) ∨ (mayBd ⟨size, L⟩ = true ∧ (q < 0 ∨ q > 1099511627776) ∧ x = 9)) :
    Calls Tryz.prog 30 #[.agg #[.int .i64 size, .slice a L.length c], .int .i64 q] w fun e w' => e = .returned (.tuple #[.agg #[.int .i64 0, .slice none 0 0], .int .i64 x]) ∧ Below w.heap.size w w' := by
  have hb0 := Below.heap_alloc (w.alloc (.cells #[.int .i64 size, .slice a L.length c] 47)) (.cells #[.int .i64 0, .slice none 0 0] 47) w.heap.size (by simp)
  rw [heap_alloc_new] at hb0
  have hb1 := heap_alloc_new (w.alloc (.cells #[.int .i64 size, .slice a L.length c] 47)) (.cells #[.int .i64 0, .slice none 0 0] 47)
  have hsv1 : (w.alloc (.cells #[.int .i64 size, .slice a L.length c] 47)).heap.size = w.heap.size + 1 := by simp
  rw [hsv1] at hb1
  have hBV : Below w.heap.size w ((w.alloc (.cells #[.int .i64 size, .slice a L.length c] 47)).alloc (.cells #[.int .i64 0, .slice none 0 0] 47)) := ((Below.refl _ _).alloc (Nat.le_refl _) _).alloc (by omega) _
  have hsV : ((w.alloc (.cells #[.int .i64 size, .slice a L.length c] 47)).alloc (.cells #[.int .i64 0, .slice none 0 0] 47)).heap.size = w.heap.size + 2 := by simp
  obtain ⟨m, hm⟩ : ∃ m, mayBd ⟨size, L⟩ = m := ⟨_, rfl⟩
  rw [hm] at hx
  have HMy : Hid (∀ V, SlPt V a L → Calls Tryz.prog 56 #[.agg #[.int .i64 size, .slice a L.length c]] V fun e w' => e = .returned (.bool m) ∧ Below V.heap.size V w') := Lib.hid fun V h => by have := bmay_any ⟨size, L⟩ a c V h hc hl; rw [hm] at this; exact this
  have HS := Lib.hid hS
  clear hS hm
  go_enter Tryz.func30, Tryz.ntmps30
  go_upto_region 1 with (fail)
  generalize (w.alloc (.cells #[.int .i64 size, .slice a L.length c] 47)).alloc (.cells #[.int .i64 0, .slice none 0 0] 47) = V at *
  clear hsv1
  obtain ⟨e0, e1⟩ := b2_cells hb0
  go_wp2_with fail
  with_reducible refine Calls.mono (HMy.out _ (HS.out.below hBV)) ?_
  rintro e V1 ⟨rfl, hB1⟩
  have k1 := (hB1.block (w.heap.size + 1) (by omega)).trans hb1
  have HB := Lib.hid (blw hBV hB1)
  have hs1 := hB1.size
  clear hBV hB1 hb0 hb1 e0 e1 HMy
  obtain ⟨r0, r1⟩ := b2_cells k1
  have f0 := b2_fz k1 0
  obtain ⟨s0, s1⟩ := b2_sf k1 (.int .i64 0)
  have HEnd := Lib.hid (b2_fin k1 (.int .i64 0) (.slice none 0 0))
  clear k1
  rcases hx with ⟨rfl, rfl⟩ | ⟨rfl, hq, rfl⟩
  · go_wp2
    obtain ⟨u0, u1⟩ := b2_cells HEnd.out
    refine bodyPost_ret (v := .tuple #[.agg #[.int .i64 0, .slice none 0 0], .int .i64 1]) (by simp [results, Tryz.f30, go_sem, u0, u1]) rfl ?_
    exact ⟨rfl, below_s2 HB.out (by omega) _ _⟩
  · rcases hq with h1 | h1
    · go_wp2
      obtain ⟨u0, u1⟩ := b2_cells HEnd.out
      refine bodyPost_ret (v := .tuple #[.agg #[.int .i64 0, .slice none 0 0], .int .i64 9]) (by simp [results, Tryz.f30, go_sem, u0, u1]) rfl ?_
      exact ⟨rfl, below_s2 HB.out (by omega) _ _⟩
    · have h0 : decide (q < 0) = false := by simp; omega
      go_wp2
      obtain ⟨u0, u1⟩ := b2_cells HEnd.out
      refine bodyPost_ret (v := .tuple #[.agg #[.int .i64 0, .slice none 0 0], .int .i64 9]) (by simp [results, Tryz.f30, go_sem, u0, u1]) rfl ?_
      exact ⟨rfl, below_s2 HB.out (by omega) _ _⟩
/-- Trunc. -/
theorem btrunc_any (b : Bd) (q : Int) (a : Option Addr) (c : Nat) (w : World) (hS : SlPt w a b.parts) (hc : b.parts.length ≤ c) (hl : b.parts.length ≤ 1000000000) :
    Calls Tryz.prog 30 #[.agg #[.int .i64 b.size, .slice a b.parts.length c], .int .i64 q] w fun e w' => ∃ v, e = .returned (.tuple #[.agg #[.int .i64 (truncS b q).1.size, v], .int .i64 (truncS b q).2]) ∧
      w'.ownsRow w.heap.size 40 4 v (truncS b q).1.parts.length (encP.cells (truncS b q).1.parts) ∧ Below w.heap.size w w' := by
  obtain ⟨size, L⟩ := b
  dsimp only at hS hc hl ⊢
  unfold truncS
  cases hm : mayBd ⟨size, L⟩ with
  | false =>
    rw [if_neg (by decide)]
    refine (trunc_no size q L a c w 1 hS hc hl (.inl ⟨hm, rfl⟩)).mono ?_
    rintro e w' ⟨rfl, hB⟩
    exact ⟨_, rfl, World.ownsRow_nil _ _ _ _, hB⟩
  | true =>
    rw [if_pos rfl]
    by_cases h : q < 0 ∨ 1099511627776 < q
    · rw [if_pos h]
      refine (trunc_no size q L a c w 9 hS hc hl (.inr ⟨hm, h, rfl⟩)).mono ?_
      rintro e w' ⟨rfl, hB⟩
      exact ⟨_, rfl, World.ownsRow_nil _ _ _ _, hB⟩
    · rw [if_neg h]
      exact trunc_yes size q L a c w hS hc hl hm (by omega) (by omega)
end Go.Proofs.YtiegadfhgccliaaGreatDoor
set_option linter.unusedVariables false
namespace Go.Proofs.YtiegadfhgccliaaGreatDoor
open Go.RowKit Go.Lib

set_option maxRecDepth 100000 in
set_option maxHeartbeats 4000000 in
theorem part_not (p : Bp) (w : World) :
    Calls Tryz.prog 90 #[.agg #[.int .i64 p.off, .int .i64 p.ln, .int .i64 p.ch, .int .i64 p.at_]] w fun e w' => e = .returned (.bool (!fitsP p)) ∧ Below w.heap.size w w' := by
  have HF := Lib.hid (fun W => fits_any p W)
  have HW : Hid (Below w.heap.size w (w.alloc (.cells #[.int .i64 p.off, .int .i64 p.ln, .int .i64 p.ch, .int .i64 p.at_] 40))) := Lib.hid ((Below.refl _ _).alloc (Nat.le_refl _) _)
  obtain ⟨off, ln, ch, at0⟩ := p
  dsimp only at HF HW ⊢
  generalize fitsP ⟨off, ln, ch, at0⟩ = r at *
  go_enter Tryz.func90, Tryz.ntmps90
  go_wp2_with fail
  with_reducible refine Calls.mono (HF.out _) ?_
  rintro e V ⟨rfl, hB⟩
  go_wp2
  go_ret
  exact ⟨rfl, HW.out.trans (hB.mono HW.out.size)⟩
set_option maxRecDepth 100000 in
set_option maxHeartbeats 4000000 in
theorem index_part (L : List Bp) (a : Option Addr) (c : Nat) (w : World) (hS : SlPt w a L) (hc : L.length ≤ c) (hl : L.length ≤ 1000000000) :
    Calls Tryz.prog 107 #[.slice a L.length c, .func (.func 90) #[] #[]] w fun e w' => (∃ r : Int, e = .returned (.int .i64 r) ∧ decide (r ≥ 0) = !(L.all fitsP)) ∧ Below w.heap.size w w' := by
  have HS := Lib.hid hS
  have HN := Lib.hid (fun p W => part_not p W)
  clear hS
  go_enter Tryz.func107, Tryz.ntmps107
  go_wp2
  go_loopw [8] (fun i wr => ∃ k : Nat, k ≤ L.length ∧ i = .int .i64 (k : Int) ∧ Hid ((L.take k).all fitsP = true) ∧ Hid (Below w.heap.size w wr)) (fun i _ => L.length - (intOf i).toNat)
  case atStart => exact ⟨0, by omega, rfl, Lib.hid (by simp), Lib.hid (Below.refl _ _)⟩
  case round =>
    obtain ⟨k, hk, rfl, HA, HB⟩ := hrel
    by_cases hlt : k < L.length
    · obtain ⟨bb, o, rfl, c0, c1, c2, c3, hbl⟩ := SlPt_at (HS.out.below HB.out) hlt
      have hki : (k : Int) < (L.length : Int) := by omega
      have hkc : (k : Int) < (c : Int) := by omega
      have HT := Lib.hid (take_at hlt)
      have HM : Hid (L.getD k default ∈ L) := Lib.hid (by simp [List.getD, hlt])
      have HP := Lib.hid (HN.out (L.getD k default) wr)
      generalize L.getD k default = p at *
      obtain ⟨off, ln, ch, at0⟩ := p
      dsimp only at c0 c1 c2 c3 HP
      go_wp2_with fail
      with_reducible refine Calls.mono HP.out ?_
      rintro e V ⟨rfl, hBV⟩
      have HV := Lib.hid (blw HB.out hBV)
      clear hBV
      cases hf : fitsP ⟨off, ln, ch, at0⟩ with
      | true =>
        go_wp2
        exact ⟨⟨k + 1, by omega, by go_num, Lib.hid (by rw [HT.out, List.all_append, HA.out]; simp [hf]), HV⟩, by simp [intOf]; omega⟩
      | false =>
        have HNo : Hid (L.all fitsP = false) := Lib.hid (List.all_eq_false.2 ⟨_, HM.out, by rw [hf]; decide⟩)
        go_wp2
        go_ret
        exact ⟨⟨_, rfl, by rw [HNo.out]; simp⟩, HV.out⟩
    · obtain rfl : k = L.length := by omega
      have hlt' : decide ((L.length : Int) < (L.length : Int)) = false := by simp
      have HA2 : Hid (L.all fitsP = true) := Lib.hid (by have ha := HA.out; rw [List.take_length] at ha; exact ha)
      clear hlt
      go_wp2
      go_ret
      exact ⟨⟨_, rfl, by rw [HA2.out]; decide⟩, HB.out⟩
set_option maxRecDepth 100000 in
set_option maxHeartbeats 4000000 in
theorem contains_part (L : List Bp) (a : Option Addr) (c : Nat) (w : World) (hS : SlPt w a L) (hc : L.length ≤ c) (hl : L.length ≤ 1000000000) :
    Calls Tryz.prog 89 #[.slice a L.length c, .func (.func 90) #[] #[]] w fun e w' => e = .returned (.bool (!(L.all fitsP))) ∧ Below w.heap.size w w' := by
  have HI := Lib.hid (index_part L a c w hS hc hl)
  clear hS
  go_enter Tryz.func89, Tryz.ntmps89
  go_wp2_with fail
  with_reducible refine Calls.mono HI.out ?_
  rintro e V ⟨⟨r, rfl, hr⟩, hB⟩
  have HR := Lib.hid hr
  clear hr
  go_wp2
  go_ret
  exact ⟨by rw [← HR.out]; rfl, hB⟩
theorem own_none (w : World) (e : TypeId) (size B : Nat) (hB : w.heap.size = B) : (w.alloc (.cells #[] e)).ownsRow B e size (.slice (some ⟨B, 0, none⟩) 0 0) 0 [] := by
  subst hB
  exact ⟨by simp, .inr ⟨_, 0, #[], rfl, Nat.le_refl _, heap_alloc_new w _, Nat.le_refl _, by unfold maxLen; omega, by simp, by simp⟩⟩
theorem run_eql_nil_any {P : Program} (w : World) (t e : TypeId) (a : Option Addr) (l c : Nat) (h : P.underlying t = some (.slice e)) : (binOp .eql t (.slice a l c) (.slice none 0 0)).run P w = .ok (.bool a.isNone) w := by
  simp only [binOp]
  simp [run_equal_slice_nil w t e a l c h]
theorem slPt_news {w : World} {ad : Addr} {L : List Bp} (h : SlPt w (some ad) L) : ∀ j u, (encP.cells L)[j]? = some u → w.cell? (ad.add j) = some u := by
  intro j u hu
  obtain ⟨b, e, h2⟩ := slK_news h j u hu
  cases e
  exact h2
set_option maxRecDepth 100000 in
set_option maxHeartbeats 4000000 in
/-- Clone. -/
theorem bclone_any (L : List Bp) (a : Option Addr) (c : Nat) (w : World) (hS : SlPt w a L) (hc : L.length ≤ c) (hl : L.length ≤ 1000000000) :
    Calls Tryz.prog 39 #[.slice a L.length c] w fun e w' => ∃ v, e = .returned v ∧ w'.ownsRow w.heap.size 40 4 v L.length (encP.cells L) ∧ Below w.heap.size w w' := by
  obtain ⟨i0, hi, hz0, hz1, hz2⟩ := info_parts info_part
  have hq := run_eql_nil_any (P := Tryz.prog) w 35 _ a L.length c Tryz.underlying35
  cases a with
  | none =>
    have hL : L = [] := by
      rcases hS with h | ⟨b, o, e, _⟩
      · exact h
      · cases e
    subst hL
    have hq : (binOp .eql 35 (.slice none 0 c) (.slice none 0 0)).run Tryz.prog w = .ok (.bool true) w := hq
    clear hS
    go_enter Tryz.func39, Tryz.ntmps39
    go_wp2
    go_ret
    exact ⟨_, rfl, World.ownsRow_nil _ _ _ _, Below.refl _ _⟩
  | some ad =>
    have hq : (binOp .eql 35 (.slice (some ad) L.length c) (.slice none 0 0)).run Tryz.prog w = .ok (.bool false) w := hq
    have HNw := Lib.hid (slPt_news (hS.below ((Below.refl _ _).alloc (Nat.le_refl _) (.cells #[] 40))))
    have hlen := cellsK_len encP L
    have HOne := Lib.hid (cellsK_one encP L)
    clear hS
    go_enter Tryz.func39, Tryz.ntmps39
    go_wp2_with (at_builtin; refine wpList_append_own _ rfl (.tmp 5) (.tmp 6) 35 rfl w.heap.size 40 i0 _ 4 32 Tryz.underlying35 hi hz0 hz1 hz2 rfl (by decide) _ 0 [] rfl (own_none w _ _ _ rfl) ad L.length c (encP.cells L) rfl hlen HNw.out HOne.out (by unfold maxLen; omega) (by omega) (by simp) ?_; intro v' w3 hown' hgrow hnil; clear hnil; rw [Nat.zero_add, List.nil_append] at hown'; have HO2 := Lib.hid hown'; have HG := Lib.hid hgrow; clear hown' hgrow)
    go_ret
    exact ⟨v', rfl, HO2.out, grown_below ((Below.refl _ _).alloc (Nat.le_refl _) _) (by simp) (own_none w _ 4 _ rfl) HG.out⟩
end Go.Proofs.YtiegadfhgccliaaGreatDoor
