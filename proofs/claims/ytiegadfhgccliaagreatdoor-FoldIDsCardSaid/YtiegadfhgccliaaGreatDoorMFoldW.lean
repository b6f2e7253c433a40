/- Walks of package fold: New, Copy, file, write, trunc. -/
import Derived.Test.YtiegadfhgccliaaGreatDoorMFoldM
import Derived.Test.YtiegadfhgccliaaGreatDoorMTreeT
import Derived.Deep.RegionHeld3
namespace Go.Proofs.YtiegadfhgccliaaGreatDoor
open Go.RowKit Go.Lib
open Go.ChangeMaps (setBlock)

set_option maxRecDepth 100000 in
set_option maxHeartbeats 4000000 in
theorem fold_new (w : World) : Calls Tryz.prog 9 #[] w fun e w' => ∃ sb tb mb lb, e = .returned (.pointer (some ⟨sb, 0, none⟩)) ∧ FoldP w' sb tb mb lb ⟨⟨[], 1⟩, []⟩ ∧ w.heap.size ≤ sb ∧ w.heap.size ≤ tb ∧ w.heap.size ≤ mb ∧ w.heap.size ≤ lb ∧ Below w.heap.size w w' := by
  have hmm := @run_makeMap Tryz.prog
  have HNw := Lib.hid (tree_new w)
  go_enter Tryz.func9, Tryz.ntmps9
  go_wp2_with fail
  refine HNw.out.mono ?_
  rintro e w1 ⟨tb, mb, rfl, hT, htb, hmb, hB⟩
  have HT := Lib.hid hT
  have HB := Lib.hid hB
  have hl := hT.lt
  clear hT hB
  go_wp2
  go_ret
  have hs : (w1.alloc (.map #[] 0)).heap.size = w1.heap.size + 1 := by simp
  have hM := MapIs.new intKey w1
  have h1 := heap_alloc_new (w1.alloc (.map #[] 0)) (.cells #[.pointer (some ⟨tb, 0, none⟩), .map (some w1.heap.size)] 80)
  rw [hs] at h1
  have hBe := HB.out.size
  have hB2 : Below w1.heap.size w1 ((w1.alloc (.map #[] 0)).alloc (.cells #[.pointer (some ⟨tb, 0, none⟩), .map (some w1.heap.size)] 80)) := ((Below.refl _ _).alloc (Nat.le_refl _) _).alloc (by omega) _
  refine ⟨w1.heap.size + 1, tb, mb, w1.heap.size, rfl, ⟨h1, HT.out.below hB2, ⟨[], .refl _, hM.of_block (Below.heap_alloc _ _ _ (by omega)), by simp⟩, by omega⟩, by omega, htb, hmb, hBe, blw HB.out hB2⟩
set_option maxRecDepth 100000 in
set_option maxHeartbeats 4000000 in
theorem fold_copy (w : World) {sb tb mb lb : Nat} {S : FS} (hS : FoldP w sb tb mb lb S) :
    Calls Tryz.prog 13 #[.pointer (some ⟨sb, 0, none⟩)] w fun e w' => ∃ s2 t2 m2 l2, e = .returned (.pointer (some ⟨s2, 0, none⟩)) ∧ FoldP w' s2 t2 m2 l2 S ∧ w.heap.size ≤ s2 ∧ w.heap.size ≤ t2 ∧ w.heap.size ≤ m2 ∧ w.heap.size ≤ l2 ∧ Below w.heap.size w w' := by
  obtain ⟨c0, c1⟩ := hS.cells
  obtain ⟨F, f1, f2, f3⟩ := hS.f
  obtain ⟨es, clock, hb, hst, hM⟩ := f2
  have hlt := hS.lt
  have HC : Hid (∀ W : World, W.heap[lb]? = some (.map es clock) → Calls Tryz.prog 37 #[.map (some lb)] W fun e w' => e = .returned (.map (some W.heap.size)) ∧ w' = W.alloc (.map es clock)) := fun W h => AnyW.maps_Clone Tryz.clone37 lb es clock W h
  have HTc : Hid (∀ W : World, Below w.heap.size w W → Calls Tryz.prog 36 #[.pointer (some ⟨tb, 0, none⟩)] W fun e w' => ∃ cb cm, e = .returned (.pointer (some ⟨cb, 0, none⟩)) ∧ TreeP w' cb cm S.t ∧ W.heap.size ≤ cb ∧ W.heap.size ≤ cm ∧ Below W.heap.size W w') := fun W h => tree_copy W (hS.t.below h)
  have HBk := Lib.hid hb
  have HP := Lib.hid f1
  have HSt := Lib.hid hst
  have HM := Lib.hid hM
  have HF := Lib.hid f3
  clear hb f1 hst hM f3 hS
  go_enter Tryz.func13, Tryz.ntmps13
  go_upto_region 3 with (fail)
  go_region_held3 (fun w' => w'.cell? ⟨sb, 0, none⟩ = some (.pointer (some ⟨tb, 0, none⟩)) ∧ w'.cell? ⟨sb, 1, none⟩ = some (.map (some lb))) (first | go_keep | exact ⟨c0, c1⟩ | exact ⟨(World.cell?_of_block (hB.block sb hlt.1)).trans c0, (World.cell?_of_block (hB.block sb hlt.1)).trans c1⟩) (first | (go_at_call 36; refine (HTc.out _ (by first | exact below_drewN' (Below.refl _ _) 1 | exact Below.refl _ _ | exact (below_drewN' (Below.refl _ _) 1).alloc (Nat.le_refl _) _ | exact (Below.refl _ _).alloc (Nat.le_refl _) _)).mono ?_; rintro e w' ⟨cb, cm, rfl, hT, hcb, hcm, hB⟩) | (go_at_call 37; refine (HC.out _ (by first | exact HBk.out | exact (hB.block lb (by first | exact hlt.2.2.2 | (simp; omega))).trans HBk.out)).mono ?_; rintro e w' ⟨rfl, rfl⟩))
  all_goals
    go_wp2
    go_ret
    have HBw : Below w.heap.size w w' := (show Below w.heap.size w w.drew from below_drewN' (Below.refl _ _) 1).trans hB
    have hsw := HBw.size
    have hsz : (w'.alloc (.map es clock)).heap.size = w'.heap.size + 1 := by simp
    have h1 := heap_alloc_new (w'.alloc (.map es clock)) (.cells #[.pointer (some ⟨cb, 0, none⟩), .map (some w'.heap.size)] 80)
    rw [hsz] at h1
    have hB2 : Below w'.heap.size w' ((w'.alloc (.map es clock)).alloc (.cells #[.pointer (some ⟨cb, 0, none⟩), .map (some w'.heap.size)] 80)) := ((Below.refl _ _).alloc (Nat.le_refl _) _).alloc (by omega) _
    have h2 := (((Below.refl (w'.alloc (.map es clock)).heap.size _).alloc (Nat.le_refl _) (.cells #[.pointer (some ⟨cb, 0, none⟩), .map (some w'.heap.size)] 80)).block w'.heap.size (by omega)).trans (heap_alloc_new w' (.map es clock))
    have hBw2 := blw HBw hB2
    have hcl := hT.lt
    exact ⟨w'.heap.size + 1, cb, cm, w'.heap.size, rfl, ⟨h1, hT.below hB2, ⟨F, HP.out, ⟨es, clock, h2, HSt.out, HM.out⟩, fun f hf => ⟨(HF.out f hf).1.below hBw2, (HF.out f hf).2⟩⟩, by omega⟩, by omega, hcb, hcm, hsw, hBw2⟩
set_option maxRecDepth 100000 in
set_option maxHeartbeats 4000000 in
/-- file. -/
theorem fold_file (p : ByteArray) (w : World) (hp : p.size ≤ 100000) {sb tb mb lb : Nat} {S : FS} (hS : FoldP w sb tb mb lb S) (hI : TInv S.t) (hm : MLen w) {i x : Int} (hx : fileS S.t p = (i, x)) :
    Calls Tryz.prog 29 #[.pointer (some ⟨sb, 0, none⟩), .string p] w fun e w' => e = .returned (.tuple #[.int .i64 i, .int .i64 x]) ∧ Below w.heap.size w w' := by
  obtain ⟨i0, d0, x0, hl⟩ : ∃ i d x, lookS (fnd · S.t.L) p = (i, d, x) := ⟨_, _, _, rfl⟩
  have HLk := Lib.hid (tree_look p w (by unfold maxLen; omega) hS.t hI.rises.apart hm hl)
  obtain ⟨c0, c1⟩ := hS.cells
  unfold fileS at hx
  rw [hl] at hx
  dsimp only at hx
  clear hS hI hm hl
  by_cases h0 : x0 = 0
  · subst h0
    cases d0 with
    | true =>
      rw [if_pos ⟨rfl, rfl⟩] at hx
      cases hx
      go_enter Tryz.func29, Tryz.ntmps29
      go_wp2_with fail
      refine HLk.out.mono ?_
      rintro e w1 ⟨rfl, hB1⟩
      go_wp2
      go_ret2
      exact ⟨rfl, hB1⟩
    | false =>
      rw [if_neg (by simp)] at hx
      cases hx
      go_enter Tryz.func29, Tryz.ntmps29
      go_wp2_with fail
      refine HLk.out.mono ?_
      rintro e w1 ⟨rfl, hB1⟩
      go_wp2
      go_ret2
      exact ⟨rfl, hB1⟩
  · rw [if_neg (fun h => h0 h.1)] at hx
    injection hx with hi hx'
    subst hi
    subst hx'
    have h1 : (x0 == 0) = false := by rw [beq_eq_false_iff_ne]; exact h0
    clear h0
    go_enter Tryz.func29, Tryz.ntmps29
    go_wp2_with fail
    refine HLk.out.mono ?_
    rintro e w1 ⟨rfl, hB1⟩
    go_wp2
    go_ret2
    exact ⟨rfl, hB1⟩
/-- An event as a value. -/
abbrev evV (e : Ev) (a : Option Addr) (c : Nat) : Value := .agg #[.int .i64 e.op, .string e.path, .string e.to, .int .i64 e.off, .int .i64 e.size, .slice a e.data.length c]
theorem b6_cells {w : World} {B : Nat} {a b c d e f : Value} {t : TypeId} (h : w.heap[B]? = some (.cells #[a, b, c, d, e, f] t (0, 0))) : w.cell? ⟨B, 0, none⟩ = some a ∧ w.cell? ⟨B, 1, none⟩ = some b ∧ w.cell? ⟨B, 2, none⟩ = some c ∧ w.cell? ⟨B, 3, none⟩ = some d ∧ w.cell? ⟨B, 4, none⟩ = some e ∧ w.cell? ⟨B, 5, none⟩ = some f := by
  unfold World.cell?
  rw [h]
  exact ⟨rfl, rfl, rfl, rfl, rfl, rfl⟩
set_option maxRecDepth 100000 in
set_option maxHeartbeats 4000000 in
/-- write. -/
theorem fold_write (e0 : Ev) (a : Option Addr) (c : Nat) (w : World) (hp : e0.path.size ≤ 100000) (hd : e0.data.length ≤ 1000000) {sb tb mb lb : Nat} {S : FS} (hS : FoldP w sb tb mb lb S) (hI : TInv S.t) (hm : MLen w) {x : Int}
    (hx : (if (fileS S.t e0.path).2 = 0 then (if 1024 < e0.data.length then 1 else if e0.off < 0 ∨ 1099511627776 - (e0.data.length : Int) < e0.off then 9 else 0) else (fileS S.t e0.path).2) = x) :
    Calls Tryz.prog 41 #[.pointer (some ⟨sb, 0, none⟩), evV e0 a c] w fun e w' => e = .returned (.int .i64 x) ∧ Below w.heap.size w w' := by
  obtain ⟨i0, x0, hf⟩ : ∃ i x, fileS S.t e0.path = (i, x) := ⟨_, _, rfl⟩
  have HF : Hid (∀ W, Below w.heap.size w W → Calls Tryz.prog 29 #[.pointer (some ⟨sb, 0, none⟩), .string e0.path] W fun e w' => e = .returned (.tuple #[.int .i64 i0, .int .i64 x0]) ∧ Below W.heap.size W w') := fun W h => fold_file e0.path W hp (hS.below h) hI (hm.below h) hf
  rw [hf] at hx
  dsimp only at hx
  obtain ⟨op, path, dst, off, size, data⟩ := e0
  dsimp only [evV] at hx HF hd ⊢
  clear hS hI hm hf
  have hbx := heap_alloc_new w (.cells #[.int .i64 op, .string path, .string dst, .int .i64 off, .int .i64 size, .slice a data.length c] 31)
  have hB0 : Below w.heap.size w (w.alloc (.cells #[.int .i64 op, .string path, .string dst, .int .i64 off, .int .i64 size, .slice a data.length c] 31)) := (Below.refl _ _).alloc (Nat.le_refl _) _
  have hsz : (w.alloc (.cells #[.int .i64 op, .string path, .string dst, .int .i64 off, .int .i64 size, .slice a data.length c] 31)).heap.size = w.heap.size + 1 := by simp
  generalize data.length = n at *
  have HX := Lib.hid hx
  clear hx
  go_enter Tryz.func41, Tryz.ntmps41
  go_upto_region 1 with (fail)
  generalize w.alloc (.cells #[.int .i64 op, .string path, .string dst, .int .i64 off, .int .i64 size, .slice a n c] 31) = W at *
  obtain ⟨e0, e1, e2, e3, e4, e5⟩ := b6_cells hbx
  go_wp2_with fail
  refine (HF.out _ hB0).mono ?_
  rintro e w1 ⟨rfl, hB1⟩
  have hbx1 := (hB1.block w.heap.size (by omega)).trans hbx
  have hBw := Lib.hid (blw hB0 hB1)
  clear e0 e1 e2 e3 e4 e5 hbx hB1 hB0
  obtain ⟨e0, e1, e2, e3, e4, e5⟩ := b6_cells hbx1
  clear hbx1
  by_cases h0 : x0 = 0
  · subst h0
    by_cases h1 : ((n : Nat) : Int) > 1024
    · go_wp2
      go_ret
      have := HX.out
      rw [if_pos trivial, if_pos (by omega)] at this
      subst this
      exact ⟨rfl, hBw.out⟩
    · by_cases h2 : off < 0
      · go_wp2
        go_ret
        have := HX.out
        rw [if_pos trivial, if_neg (by omega), if_pos (.inl h2)] at this
        subst this
        exact ⟨rfl, hBw.out⟩
      · by_cases h3 : off > 1099511627776 - (n : Int)
        · go_wp2
          go_ret
          have := HX.out
          rw [if_pos trivial, if_neg (by omega), if_pos (.inr (by omega))] at this
          subst this
          exact ⟨rfl, hBw.out⟩
        · go_wp2
          go_ret
          have := HX.out
          rw [if_pos trivial, if_neg (by omega), if_neg (by omega)] at this
          subst this
          exact ⟨rfl, hBw.out⟩
  · have h1 : (x0 == 0) = false := by rw [beq_eq_false_iff_ne]; exact h0
    have h2 : (x0 != 0) = true := by simp [h0]
    have HX0 : Hid (x0 = x) := Lib.hid (by have := HX.out; rw [if_neg h0] at this; exact this)
    clear h0
    go_wp2
    go_ret
    exact ⟨by rw [← HX0.out]; rfl, hBw.out⟩
set_option maxRecDepth 100000 in
set_option maxHeartbeats 4000000 in
/-- trunc. -/
theorem fold_trunc (e0 : Ev) (a : Option Addr) (c : Nat) (w : World) (hp : e0.path.size ≤ 100000) {sb tb mb lb : Nat} {S : FS} (hS : FoldP w sb tb mb lb S) (hI : TInv S.t) (hm : MLen w) {x : Int}
    (hx : (if (fileS S.t e0.path).2 = 0 then (if e0.size < 0 ∨ 1099511627776 < e0.size then 9 else 0) else (fileS S.t e0.path).2) = x) :
    Calls Tryz.prog 42 #[.pointer (some ⟨sb, 0, none⟩), evV e0 a c] w fun e w' => e = .returned (.int .i64 x) ∧ Below w.heap.size w w' := by
  obtain ⟨i0, x0, hf⟩ : ∃ i x, fileS S.t e0.path = (i, x) := ⟨_, _, rfl⟩
  have HF : Hid (∀ W, Below w.heap.size w W → Calls Tryz.prog 29 #[.pointer (some ⟨sb, 0, none⟩), .string e0.path] W fun e w' => e = .returned (.tuple #[.int .i64 i0, .int .i64 x0]) ∧ Below W.heap.size W w') := fun W h => fold_file e0.path W hp (hS.below h) hI (hm.below h) hf
  rw [hf] at hx
  dsimp only at hx
  obtain ⟨op, path, dst, off, size, data⟩ := e0
  dsimp only [evV] at hx HF ⊢
  clear hS hI hm hf
  have hbx := heap_alloc_new w (.cells #[.int .i64 op, .string path, .string dst, .int .i64 off, .int .i64 size, .slice a data.length c] 31)
  have hB0 : Below w.heap.size w (w.alloc (.cells #[.int .i64 op, .string path, .string dst, .int .i64 off, .int .i64 size, .slice a data.length c] 31)) := (Below.refl _ _).alloc (Nat.le_refl _) _
  have hsz : (w.alloc (.cells #[.int .i64 op, .string path, .string dst, .int .i64 off, .int .i64 size, .slice a data.length c] 31)).heap.size = w.heap.size + 1 := by simp
  generalize data.length = n at *
  have HX := Lib.hid hx
  clear hx
  go_enter Tryz.func42, Tryz.ntmps42
  go_upto_region 1 with (fail)
  generalize w.alloc (.cells #[.int .i64 op, .string path, .string dst, .int .i64 off, .int .i64 size, .slice a n c] 31) = W at *
  obtain ⟨e0, e1, e2, e3, e4, e5⟩ := b6_cells hbx
  go_wp2_with fail
  refine (HF.out _ hB0).mono ?_
  rintro e w1 ⟨rfl, hB1⟩
  have hbx1 := (hB1.block w.heap.size (by omega)).trans hbx
  have hBw := Lib.hid (blw hB0 hB1)
  clear e0 e1 e2 e3 e4 e5 hbx hB1 hB0
  obtain ⟨e0, e1, e2, e3, e4, e5⟩ := b6_cells hbx1
  clear hbx1
  by_cases h0 : x0 = 0
  · subst h0
    by_cases h2 : size < 0
    · go_wp2
      go_ret
      have := HX.out
      rw [if_pos trivial, if_pos (.inl h2)] at this
      subst this
      exact ⟨rfl, hBw.out⟩
    · by_cases h3 : size > 1099511627776
      · go_wp2
        go_ret
        have := HX.out
        rw [if_pos trivial, if_pos (.inr (by omega))] at this
        subst this
        exact ⟨rfl, hBw.out⟩
      · go_wp2
        go_ret
        have := HX.out
        rw [if_pos trivial, if_neg (by omega)] at this
        subst this
        exact ⟨rfl, hBw.out⟩
  · have h1 : (x0 == 0) = false := by rw [beq_eq_false_iff_ne]; exact h0
    have HX0 : Hid (x0 = x) := Lib.hid (by have := HX.out; rw [if_neg h0] at this; exact this)
    clear h0
    go_wp2
    go_ret
    exact ⟨by rw [← HX0.out]; rfl, hBw.out⟩
end Go.Proofs.YtiegadfhgccliaaGreatDoor
