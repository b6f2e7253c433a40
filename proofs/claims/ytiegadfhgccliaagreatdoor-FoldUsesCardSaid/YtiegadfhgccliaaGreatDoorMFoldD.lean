/- Walks of package fold: Body, Stat. -/
import Derived.Test.YtiegadfhgccliaaGreatDoorMFoldB
namespace Go.Proofs.YtiegadfhgccliaaGreatDoor
open Go.RowKit Go.Lib Go.Maps
open Go.ChangeMaps (setBlock)

/-- What Body answers. -/
def bodyA (S : FS) (id : Int) : Bd := (bodyOf S.fs id).getD default
/-- What Stat answers: number, directory, size, error. -/
def statS (S : FS) (p : ByteArray) : Int × Bool × Int × Int :=
  if (lookS (fnd · S.t.L) p).2.2 = 0 then ((lookS (fnd · S.t.L) p).1, (lookS (fnd · S.t.L) p).2.1, (bodyA S (lookS (fnd · S.t.L) p).1).size, 0) else (0, false, 0, (lookS (fnd · S.t.L) p).2.2)
theorem run_field_bd (w : World) (size : Int) (a : Option Addr) (n c : Nat) : (Instr.field 47 (.agg #[.int .i64 size, .slice a n c]) 0).run Tryz.prog w = .ok (.int .i64 size) w := by kernel_rfl
theorem b3_froz {W : World} {B : Nat} {a b c : Value} {t : TypeId} (h : W.heap[B]? = some (.cells #[a, b, c] t (0, 0))) (x y : Value) : (W.cell? ⟨B, 0, none⟩ = some a ∧ W.frozen? ⟨B, 0, none⟩ = false) ∧ ((W.setCell ⟨B, 0, none⟩ x).cell? ⟨B, 1, none⟩ = some b ∧ (W.setCell ⟨B, 0, none⟩ x).frozen? ⟨B, 1, none⟩ = false) ∧ (((W.setCell ⟨B, 0, none⟩ x).setCell ⟨B, 1, none⟩ y).cell? ⟨B, 2, none⟩ = some c ∧ ((W.setCell ⟨B, 0, none⟩ x).setCell ⟨B, 1, none⟩ y).frozen? ⟨B, 2, none⟩ = false) := b3_facts h x y
set_option maxRecDepth 100000 in
set_option maxHeartbeats 8000000 in
/-- Stat. -/
theorem fold_stat (p : ByteArray) (w : World) (hp : p.size ≤ 100000) {sb tb mb lb : Nat} {S : FS} (hS : FoldP w sb tb mb lb S) (hI : TInv S.t) (ho : S.fs.Pairwise fun a b => a.1 ≠ b.1) (hm : MLen w) :
    Calls Tryz.prog 25 #[.pointer (some ⟨sb, 0, none⟩), .string p] w fun e w' => e = .returned (.tuple #[.agg #[.int .i64 (statS S p).1, .bool (statS S p).2.1, .int .i64 (statS S p).2.2.1], .int .i64 (statS S p).2.2.2]) ∧ Below w.heap.size w w' := by
  obtain ⟨i0, d0, x0, hl⟩ : ∃ i d x, lookS (fnd · S.t.L) p = (i, d, x) := ⟨_, _, _, rfl⟩
  have hB0 : Below w.heap.size w (w.alloc (.cells #[.int .i64 0, .bool false, .int .i64 0] 75)) := (Below.refl _ _).alloc (Nat.le_refl _) _
  have HLk := Lib.hid (tree_look p (w.alloc (.cells #[.int .i64 0, .bool false, .int .i64 0] 75)) (by unfold maxLen; omega) (hS.t.below hB0) hI.rises.apart (hm.below hB0) hl)
  obtain ⟨l1, l2, l3, l4⟩ := hS.lt
  obtain ⟨g0, g1⟩ := hS.cells
  obtain ⟨a, c, hSl, hc, hlk, _⟩ := hS.look ho i0
  have HLu : Hid (∀ W, Below w.heap.size w W → W.cell? ⟨sb, 1, none⟩ = some (.map (some lb)) ∧ (Instr.lookup 78 (.map (some lb)) (.int .i64 i0) false).run Tryz.prog W = .ok (.agg #[.int .i64 (bodyA S i0).size, .slice a (bodyA S i0).parts.length c]) W) := Lib.hid fun W h => ⟨(h.cell (p := ⟨sb, 1, none⟩) l1).trans g1, hlk W (h.block lb l4)⟩
  have hst : statS S p = if x0 = 0 then (i0, d0, (bodyA S i0).size, 0) else (0, false, 0, x0) := by unfold statS; rw [hl]
  rw [hst]
  have hbr := heap_alloc_new w (.cells #[.int .i64 0, .bool false, .int .i64 0] 75)
  have hs1 : (w.alloc (.cells #[.int .i64 0, .bool false, .int .i64 0] 75)).heap.size = w.heap.size + 1 := by simp
  have hk0 : (w.alloc (.cells #[.int .i64 0, .bool false, .int .i64 0] 75)).cell? ⟨sb, 0, none⟩ = some (.pointer (some ⟨tb, 0, none⟩)) := (World.cell?_of_block (Below.heap_alloc _ _ _ l1)).trans g0
  clear hS hI ho hm hl hlk hSl hst
  generalize (bodyA S i0).size = bz at *
  generalize (bodyA S i0).parts.length = bn at *
  by_cases h0 : x0 = 0
  · subst h0
    rw [if_pos rfl]
    go_enter Tryz.func25, Tryz.ntmps25
    go_upto_region 3 with (fail)
    go_wp2_with fail
    refine HLk.out.mono ?_
    rintro e V ⟨rfl, hBV⟩
    have hbV := (hBV.block w.heap.size (by omega)).trans hbr
    have hBw := blw hB0 hBV
    obtain ⟨m1, m2⟩ := HLu.out V hBw
    have hfd := run_field_bd V bz a bn c
    have HBw := Lib.hid hBw
    obtain ⟨⟨a0, f0⟩, ⟨a1, f1⟩, a2, f2⟩ := b3_froz hbV (.int .i64 i0) (.bool d0)
    have HEnd := Lib.hid (b3_end hbV (.int .i64 i0) (.bool d0) (.int .i64 bz))
    clear hbV hBV hBw hbr hB0 HLk HLu
    go_wp2
    obtain ⟨u0, u1, u2, _⟩ := b3_cells HEnd.out
    refine bodyPost_ret (v := .tuple #[.agg #[.int .i64 i0, .bool d0, .int .i64 bz], .int .i64 0]) (by simp [results, Tryz.f25, go_sem, u0, u1, u2]) rfl ⟨rfl, b3_below (Nat.le_refl _) HBw.out _ _ _⟩
  · rw [if_neg h0]
    have h1 : (x0 == 0) = false := by rw [beq_eq_false_iff_ne]; exact h0
    have h2 : (x0 != 0) = true := by simp [h0]
    clear h0
    go_enter Tryz.func25, Tryz.ntmps25
    go_upto_region 3 with (fail)
    go_wp2_with fail
    refine HLk.out.mono ?_
    rintro e V ⟨rfl, hBV⟩
    have hbV := (hBV.block w.heap.size (by omega)).trans hbr
    have HBw := Lib.hid (blw hB0 hBV)
    obtain ⟨⟨a0, f0⟩, ⟨a1, f1⟩, a2, f2⟩ := b3_froz hbV (.int .i64 0) (.bool false)
    have HEnd := Lib.hid (b3_end hbV (.int .i64 0) (.bool false) (.int .i64 0))
    clear hbV hBV hbr hB0 HLk HLu
    go_wp2
    obtain ⟨u0, u1, u2, _⟩ := b3_cells HEnd.out
    refine bodyPost_ret (v := .tuple #[.agg #[.int .i64 0, .bool false, .int .i64 0], .int .i64 x0]) (by simp [results, Tryz.f25, go_sem, u0, u1, u2]) rfl ⟨rfl, b3_below (Nat.le_refl _) HBw.out _ _ _⟩
end Go.Proofs.YtiegadfhgccliaaGreatDoor
