/- Walks of package fold: Body, Stat. -/
import Derived.Test.YtiegadfhgccliaaGreatDoorMFoldB
namespace Go.Proofs.YtiegadfhgccliaaGreatDoor
open Go.RowKit Go.Lib Go.Maps
open Go.ChangeMaps (setBlock)

/-- What Body answers. -/
def bodyA (S : FS) (id : Int) : Bd := (bodyOf S.fs id).getD default
set_option maxRecDepth 100000 in
set_option maxHeartbeats 8000000 in
/-- Body. -/
theorem fold_body (id : Int) (w : World) {sb tb mb lb : Nat} {S : FS} (hS : FoldP w sb tb mb lb S) (ho : S.fs.Pairwise fun a b => a.1 ≠ b.1) {N : Nat} (hN : FewP N S) (hN2 : N ≤ 1000000000) :
    Calls Tryz.prog 16 #[.pointer (some ⟨sb, 0, none⟩), .int .i64 id] w fun e w' => ∃ a c, e = .returned (.tuple #[.agg #[.int .i64 (bodyA S id).size, .slice a (bodyA S id).parts.length c], .bool (bodyOf S.fs id).isSome]) ∧ (bodyA S id).parts.length ≤ c ∧ SlPt w' a (bodyA S id).parts ∧ Below w.heap.size w w' := by
  obtain ⟨a, c, hSl, hc, _, hlk⟩ := hS.look ho id
  obtain ⟨l1, l2, l3, l4⟩ := hS.lt
  obtain ⟨g0, g1⟩ := hS.cells
  have hbl := getD_few hN id
  unfold bodyA
  generalize (bodyOf S.fs id).getD default = B at *
  generalize (bodyOf S.fs id).isSome = r at *
  obtain ⟨size, L⟩ := B
  dsimp only at *
  have hg1 := (Below.heap_alloc w (.cells #[.int .i64 0, .slice none 0 0] 47) sb l1)
  have hk1 : (w.alloc (.cells #[.int .i64 0, .slice none 0 0] 47)).cell? ⟨sb, 1, none⟩ = some (.map (some lb)) := (World.cell?_of_block hg1).trans g1
  have hlk1 := hlk (w.alloc (.cells #[.int .i64 0, .slice none 0 0] 47)) (Below.heap_alloc _ _ _ l4)
  have HCl : Hid (∀ W, Below w.heap.size w W → Calls Tryz.prog 39 #[.slice a L.length c] W fun e w' => ∃ a3 c3, e = .returned (.slice a3 L.length c3) ∧ L.length ≤ c3 ∧ SlPt w' a3 L ∧ Below W.heap.size W w') := Lib.hid fun W h => by
    refine (bclone_any L a c W (hSl.below h) hc (by omega)).mono ?_
    rintro e w' ⟨v, rfl, hO, hB⟩
    obtain ⟨a3, c3, rfl, hc3, hS3, _⟩ := SlK.own (E := encP) hO
    exact ⟨a3, c3, rfl, hc3, hS3, hB⟩
  clear hlk hSl hS ho hN
  have hbr := heap_alloc_new w (.cells #[.int .i64 0, .slice none 0 0] 47)
  have hs1 : (w.alloc (.cells #[.int .i64 0, .slice none 0 0] 47)).heap.size = w.heap.size + 1 := by simp
  have hbb := heap_alloc_new (w.alloc (.cells #[.int .i64 0, .slice none 0 0] 47)) (.cells #[.int .i64 size, .slice a L.length c] 47)
  rw [hs1] at hbb
  have hbr2 := (Below.heap_alloc (w.alloc (.cells #[.int .i64 0, .slice none 0 0] 47)) (.cells #[.int .i64 size, .slice a L.length c] 47) w.heap.size (by omega)).trans hbr
  have hB2 : Below w.heap.size w ((w.alloc (.cells #[.int .i64 0, .slice none 0 0] 47)).alloc (.cells #[.int .i64 size, .slice a L.length c] 47)) := ((Below.refl _ _).alloc (Nat.le_refl _) _).alloc (by omega) _
  have hs2 : ((w.alloc (.cells #[.int .i64 0, .slice none 0 0] 47)).alloc (.cells #[.int .i64 size, .slice a L.length c] 47)).heap.size = w.heap.size + 2 := by simp
  clear hbr hg1
  go_enter Tryz.func16, Tryz.ntmps16
  go_upto_region 4 with (fail)
  generalize (w.alloc (.cells #[.int .i64 0, .slice none 0 0] 47)).alloc (.cells #[.int .i64 size, .slice a L.length c] 47) = U at *
  clear hk1 hlk1 hs1
  obtain ⟨q0, q1⟩ := b2_facts hbb
  go_wp2_with fail
  refine (HCl.out _ hB2).mono ?_
  rintro e V ⟨a3, c3, rfl, hc3, hS3, hB3⟩
  have hbbV := (hB3.block (w.heap.size + 1) (by omega)).trans hbb
  have hbrV := (hB3.block w.heap.size (by omega)).trans hbr2
  have hsV := hB3.size
  have hBV := blw hB2 hB3
  clear q0 q1 hbb hbr2 hB2 hB3 HCl
  -- the stores
  have f1 : V.frozen? ⟨w.heap.size + 1, 1, none⟩ = false := by unfold World.frozen?; rw [hbbV]; rfl
  have k1 := (b2_facts hbbV).2
  have hX := heap_setCell_at hbbV 1 (.slice a3 L.length c3)
  have hXr : (V.setCell ⟨w.heap.size + 1, 1, none⟩ (.slice a3 L.length c3)).heap[w.heap.size]? = some (.cells #[.int .i64 0, .slice none 0 0] 47 (0, 0)) := (Below.heap_setCell _ _ _ _ (by show w.heap.size ≠ w.heap.size + 1; omega)).trans hbrV
  have ht0 := (Turn.refl [w.heap.size, w.heap.size + 1] V).setCell (p := ⟨w.heap.size + 1, 1, none⟩) (.inl (by simp)) (.slice a3 L.length c3)
  obtain ⟨x0, x1⟩ := b2_facts (a := .int .i64 size) (b := .slice a3 L.length c3) hX
  obtain ⟨y0, y1⟩ := b2_facts hXr
  obtain ⟨z0, z1⟩ := b2_froz hXr
  obtain ⟨z2, z3⟩ := z1 (.int .i64 size)
  have HEnd := Lib.hid (b2_end hXr (.int .i64 size) (.slice a3 L.length c3))
  have ht1 := (ht0.setCell (p := ⟨w.heap.size, 0, none⟩) (.inl (by simp)) (.int .i64 size)).setCell (p := ⟨w.heap.size, 1, none⟩) (.inl (by simp)) (.slice a3 L.length c3)
  have HTu := Lib.hid ht1
  have HBV := Lib.hid hBV
  have HS3 := Lib.hid hS3
  have HN : Hid (∀ b ∈ [w.heap.size, w.heap.size + 1], NoInt3 V b) := Lib.hid fun b hb => by
    simp only [List.mem_cons, List.not_mem_nil, or_false] at hb
    rcases hb with rfl | rfl
    · exact .of_two hbrV (by simp)
    · exact .of_two hbbV (by simp)
  clear hX hXr hbbV hbrV ht0 ht1 hS3 hBV z1
  go_wp2
  obtain ⟨u0, u1⟩ := b2_facts HEnd.out
  refine bodyPost_ret (v := .tuple #[.agg #[.int .i64 size, .slice a3 L.length c3], .bool r]) (by simp [results, Tryz.f16, go_sem, u0, u1]) rfl ⟨a3, c3, rfl, hc3, ?_, ?_⟩
  · exact SlPt.turnP HS3.out HTu.out HN.out
  · exact HTu.out.below HBV.out (by intro x hx; simp at hx; omega)
/-- What Stat answers: number, directory, size, error. -/
def statS (S : FS) (p : ByteArray) : Int × Bool × Int × Int :=
  if (lookS (fnd · S.t.L) p).2.2 = 0 then ((lookS (fnd · S.t.L) p).1, (lookS (fnd · S.t.L) p).2.1, (bodyA S (lookS (fnd · S.t.L) p).1).size, 0) else (0, false, 0, (lookS (fnd · S.t.L) p).2.2)
theorem run_field_bd (w : World) (size : Int) (a : Option Addr) (n c : Nat) : (Instr.field 47 (.agg #[.int .i64 size, .slice a n c]) 0).run Tryz.prog w = .ok (.int .i64 size) w := by kernel_rfl
theorem b3_froz {W : World} {B : Nat} {a b c : Value} {t : TypeId} (h : W.heap[B]? = some (.cells #[a, b, c] t (0, 0))) (x y : Value) : (W.cell? ⟨B, 0, none⟩ = some a ∧ W.frozen? ⟨B, 0, none⟩ = false) ∧ ((W.setCell ⟨B, 0, none⟩ x).cell? ⟨B, 1, none⟩ = some b ∧ (W.setCell ⟨B, 0, none⟩ x).frozen? ⟨B, 1, none⟩ = false) ∧ (((W.setCell ⟨B, 0, none⟩ x).setCell ⟨B, 1, none⟩ y).cell? ⟨B, 2, none⟩ = some c ∧ ((W.setCell ⟨B, 0, none⟩ x).setCell ⟨B, 1, none⟩ y).frozen? ⟨B, 2, none⟩ = false) := b3_facts h x y
set_option maxRecDepth 100000 in
set_option maxHeartbeats 8000000 in
/-- Stat. -/
theorem fold_stat (p : ByteArray) (w : World) (hp : p.size ≤ 100000) {sb tb mb lb : Nat} {S : FS} (hS : FoldP w sb tb mb lb S) (hI : TInv S.t) (ho : S.fs.Pairwise fun a b => a.1 ≠ b.1) (hm : MLen w) :
    Calls Tryz.prog 25 #[.pointer (some ⟨sb, 0, none⟩), .string p] w fun e w' => e = .returned (.tuple #[.agg #[.int .i64 (statS S p).1, .bool (statS S p).2.1, .int .i64 (statS S p).2.2.1], .int .i64 (statS S p).2.2.2]) ∧ Below w.heap.size w w' := by
  obtain ⟨i0, d0, x0, hl⟩ : ∃ i d x, lookS (fnd · S.t.L) p = (i, d, x) := ⟨_, _, _, rfl⟩
  have hB0 : Below w.heap.size w (w.alloc (.cells #[.int .i64 0, .bool false, .int .i64 0] 75)) := (Below.refl _ _).alloc (Nat.le_refl _) _
  have HLk := Lib.hid (tree_look p (w.alloc (.cells #[.int .i64 0, .bool false, .int .i64 0] 75)) (by unfold maxLen; omega) (hS.t.below hB0) hI.rises.apart (hm.below hB0) hl)
  obtain ⟨l1, l2, l3, l4⟩ := hS.lt
  obtain ⟨g0, g1⟩ := hS.cells
  obtain ⟨a, c, hSl, hc, hlk, _⟩ := hS.look ho i0
  have HLu : Hid (∀ W, Below w.heap.size w W → W.cell? ⟨sb, 1, none⟩ = some (.map (some lb)) ∧ (Instr.lookup 78 (.map (some lb)) (.int .i64 i0) false).run Tryz.prog W = .ok (.agg #[.int .i64 (bodyA S i0).size, .slice a (bodyA S i0).parts.length c]) W) := Lib.hid fun W h => ⟨(h.cell (p := ⟨sb, 1, none⟩) l1).trans g1, hlk W (h.block lb l4)⟩
  have hst : statS S p = if x0 = 0 then (i0, d0, (bodyA S i0).size, 0) else (0, false, 0, x0) := by unfold statS; rw [hl]
  rw [hst]
  have hbr := heap_alloc_new w (.cells #[.int .i64 0, .bool false, .int .i64 0] 75)
  have hs1 : (w.alloc (.cells #[.int .i64 0, .bool false, .int .i64 0] 75)).heap.size = w.heap.size + 1 := by simp
  have hk0 : (w.alloc (.cells #[.int .i64 0, .bool false, .int .i64 0] 75)).cell? ⟨sb, 0, none⟩ = some (.pointer (some ⟨tb, 0, none⟩)) := (World.cell?_of_block (Below.heap_alloc _ _ _ l1)).trans g0
  clear hS hI ho hm hl hlk hSl hst
  generalize (bodyA S i0).size = bz at *
  generalize (bodyA S i0).parts.length = bn at *
  by_cases h0 : x0 = 0
  · subst h0
    rw [if_pos rfl]
    go_enter Tryz.func25, Tryz.ntmps25
    go_upto_region 3 with (fail)
    go_wp2_with fail
    refine HLk.out.mono ?_
    rintro e V ⟨rfl, hBV⟩
    have hbV := (hBV.block w.heap.size (by omega)).trans hbr
    have hBw := blw hB0 hBV
    obtain ⟨m1, m2⟩ := HLu.out V hBw
    have hfd := run_field_bd V bz a bn c
    have HBw := Lib.hid hBw
    obtain ⟨⟨a0, f0⟩, ⟨a1, f1⟩, a2, f2⟩ := b3_froz hbV (.int .i64 i0) (.bool d0)
    have HEnd := Lib.hid (b3_end hbV (.int .i64 i0) (.bool d0) (.int .i64 bz))
    clear hbV hBV hBw hbr hB0 HLk HLu
    go_wp2
    obtain ⟨u0, u1, u2, _⟩ := b3_cells HEnd.out
    refine bodyPost_ret (v := .tuple #[.agg #[.int .i64 i0, .bool d0, .int .i64 bz], .int .i64 0]) (by simp [results, Tryz.f25, go_sem, u0, u1, u2]) rfl ⟨rfl, b3_below (Nat.le_refl _) HBw.out _ _ _⟩
  · rw [if_neg h0]
    have h1 : (x0 == 0) = false := by rw [beq_eq_false_iff_ne]; exact h0
    have h2 : (x0 != 0) = true := by simp [h0]
    clear h0
    go_enter Tryz.func25, Tryz.ntmps25
    go_upto_region 3 with (fail)
    go_wp2_with fail
    refine HLk.out.mono ?_
    rintro e V ⟨rfl, hBV⟩
    have hbV := (hBV.block w.heap.size (by omega)).trans hbr
    have HBw := Lib.hid (blw hB0 hBV)
    obtain ⟨⟨a0, f0⟩, ⟨a1, f1⟩, a2, f2⟩ := b3_froz hbV (.int .i64 0) (.bool false)
    have HEnd := Lib.hid (b3_end hbV (.int .i64 0) (.bool false) (.int .i64 0))
    clear hbV hBV hbr hB0 HLk HLu
    go_wp2
    obtain ⟨u0, u1, u2, _⟩ := b3_cells HEnd.out
    refine bodyPost_ret (v := .tuple #[.agg #[.int .i64 0, .bool false, .int .i64 0], .int .i64 x0]) (by simp [results, Tryz.f25, go_sem, u0, u1, u2]) rfl ⟨rfl, b3_below (Nat.le_refl _) HBw.out _ _ _⟩
end Go.Proofs.YtiegadfhgccliaaGreatDoor
