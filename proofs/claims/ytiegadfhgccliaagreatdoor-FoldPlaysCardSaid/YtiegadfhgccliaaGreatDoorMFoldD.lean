/- Walks of the document's state: Insert. Printed by gen_insert.py. -/
import Derived.Test.YtiegadfhgccliaaGreatDoorMFoldA
import Derived.Test.YtiegadfhgccliaaGreatDoorMStateI
import Derived.Test.YtiegadfhgccliaaGreatDoorMTreeN
import Derived.Test.YtiegadfhgccliaaGreatDoorMDocCk
import Derived.Test.YtiegadfhgccliaaGreatDoorMDocD
import Derived.Test.YtiegadfhgccliaaGreatDoorMIterI
import Derived.Test.YtiegadfhgccliaaGreatDoorMBodyV
import Derived.BigQuiet
namespace Go.Proofs.YtiegadfhgccliaaGreatDoor
open Go.RowKit Go.Lib Go.Maps
open Go.ChangeMaps (setBlock)

/-- What Body answers. -/
def bodyA (S : FS) (id : Int) : Bd := (bodyOf S.fs id).getD default
set_option maxRecDepth 100000 in
set_option maxHeartbeats 8000000 in
/-- Body. -/
theorem fold_body (id : Int) (w : World) {sb tb mb lb : Nat} {S : FS} (hS : FoldP w sb tb mb lb S) (ho : S.fs.Pairwise fun a b => a.1 ≠ b.1) {N : Nat} (hN : FewP N S) (hN2 : N ≤ 1000000000) :
    Calls Tryz.prog 16 #[.pointer (some ⟨sb, 0, none⟩), .int .i64 id] w fun e w' => ∃ a c, e = .returned (.tuple #[.agg #[.int .i64 (bodyA S id).size, .slice a (bodyA S id).parts.length c], .bool (bodyOf S.fs id).isSome]) ∧ (bodyA S id).parts.length ≤ c ∧ SlPt w' a (bodyA S id).parts ∧ Below w.heap.size w w' := by
  obtain ⟨a, c, hSl, hc, _, hlk⟩ := hS.look ho id
  obtain ⟨l1, l2, l3, l4⟩ := hS.lt
  obtain ⟨g0, g1⟩ := hS.cells
  have hbl := getD_few hN id
  unfold bodyA
  generalize (bodyOf S.fs id).getD default = B at *
  generalize (bodyOf S.fs id).isSome = r at *
  obtain ⟨size, L⟩ := B
  dsimp only at *
  have hg1 := (Below.heap_alloc w (.cells #[.int .i64 0, .slice none 0 0] 47) sb l1)
  have hk1 : (w.alloc (.cells #[.int .i64 0, .slice none 0 0] 47)).cell? ⟨sb, 1, none⟩ = some (.map (some lb)) := (World.cell?_of_block hg1).trans g1
  have hlk1 := hlk (w.alloc (.cells #[.int .i64 0, .slice none 0 0] 47)) (Below.heap_alloc _ _ _ l4)
  have HCl : Hid (∀ W, Below w.heap.size w W → Calls Tryz.prog 39 #[.slice a L.length c] W fun e w' => ∃ a3 c3, e = .returned (.slice a3 L.length c3) ∧ L.length ≤ c3 ∧ SlPt w' a3 L ∧ Below W.heap.size W w') := Lib.hid fun W h => by
    refine (bclone_any L a c W (hSl.below h) hc (by omega)).mono ?_
    rintro e w' ⟨v, rfl, hO, hB⟩
    obtain ⟨a3, c3, rfl, hc3, hS3, _⟩ := SlK.own (E := encP) hO
    exact ⟨a3, c3, rfl, hc3, hS3, hB⟩
  clear hlk hSl hS ho hN
  have hbr := heap_alloc_new w (.cells #[.int .i64 0, .slice none 0 0] 47)
  have hs1 : (w.alloc (.cells #[.int .i64 0, .slice none 0 0] 47)).heap.size = w.heap.size + 1 := by simp
  have hbb := heap_alloc_new (w.alloc (.cells #[.int .i64 0, .slice none 0 0] 47)) (.cells #[.int .i64 size, .slice a L.length c] 47)
  rw [hs1] at hbb
  have hbr2 := (Below.heap_alloc (w.alloc (.cells #[.int .i64 0, .slice none 0 0] 47)) (.cells #[.int .i64 size, .slice a L.length c] 47) w.heap.size (by omega)).trans hbr
  have hB2 : Below w.heap.size w ((w.alloc (.cells #[.int .i64 0, .slice none 0 0] 47)).alloc (.cells #[.int .i64 size, .slice a L.length c] 47)) := ((Below.refl _ _).alloc (Nat.le_refl _) _).alloc (by omega) _
  have hs2 : ((w.alloc (.cells #[.int .i64 0, .slice none 0 0] 47)).alloc (.cells #[.int .i64 size, .slice a L.length c] 47)).heap.size = w.heap.size + 2 := by simp
  clear hbr hg1
  go_enter Tryz.func16, Tryz.ntmps16
  go_upto_region 4 with (fail)
  generalize (w.alloc (.cells #[.int .i64 0, .slice none 0 0] 47)).alloc (.cells #[.int .i64 size, .slice a L.length c] 47) = U at *
  clear hk1 hlk1 hs1
  obtain ⟨q0, q1⟩ := b2_facts hbb
  go_wp2_with fail
  refine (HCl.out _ hB2).mono ?_
  rintro e V ⟨a3, c3, rfl, hc3, hS3, hB3⟩
  have hbbV := (hB3.block (w.heap.size + 1) (by omega)).trans hbb
  have hbrV := (hB3.block w.heap.size (by omega)).trans hbr2
  have hsV := hB3.size
  have hBV := blw hB2 hB3
  clear q0 q1 hbb hbr2 hB2 hB3 HCl
  -- the stores
  have f1 : V.frozen? ⟨w.heap.size + 1, 1, none⟩ = false := by unfold World.frozen?; rw [hbbV]; rfl
  have k1 := (b2_facts hbbV).2
  have hX := heap_setCell_at hbbV 1 (.slice a3 L.length c3)
  have hXr : (V.setCell ⟨w.heap.size + 1, 1, none⟩ (.slice a3 L.length c3)).heap[w.heap.size]? = some (.cells #[.int .i64 0, .slice none 0 0] 47 (0, 0)) := (Below.heap_setCell _ _ _ _ (by show w.heap.size ≠ w.heap.size + 1; omega)).trans hbrV
  have ht0 := (Turn.refl [w.heap.size, w.heap.size + 1] V).setCell (p := ⟨w.heap.size + 1, 1, none⟩) (.inl (by simp)) (.slice a3 L.length c3)
  obtain ⟨x0, x1⟩ := b2_facts (a := .int .i64 size) (b := .slice a3 L.length c3) hX
  obtain ⟨y0, y1⟩ := b2_facts hXr
  obtain ⟨z0, z1⟩ := b2_froz hXr
  obtain ⟨z2, z3⟩ := z1 (.int .i64 size)
  have HEnd := Lib.hid (b2_end hXr (.int .i64 size) (.slice a3 L.length c3))
  have ht1 := (ht0.setCell (p := ⟨w.heap.size, 0, none⟩) (.inl (by simp)) (.int .i64 size)).setCell (p := ⟨w.heap.size, 1, none⟩) (.inl (by simp)) (.slice a3 L.length c3)
  have HTu := Lib.hid ht1
  have HBV := Lib.hid hBV
  have HS3 := Lib.hid hS3
  have HN : Hid (∀ b ∈ [w.heap.size, w.heap.size + 1], NoInt3 V b) := Lib.hid fun b hb => by
    simp only [List.mem_cons, List.not_mem_nil, or_false] at hb
    rcases hb with rfl | rfl
    · exact .of_two hbrV (by simp)
    · exact .of_two hbbV (by simp)
  clear hX hXr hbbV hbrV ht0 ht1 hS3 hBV z1
  go_wp2
  obtain ⟨u0, u1⟩ := b2_facts HEnd.out
  refine bodyPost_ret (v := .tuple #[.agg #[.int .i64 size, .slice a3 L.length c3], .bool r]) (by simp [results, Tryz.f16, go_sem, u0, u1]) rfl ⟨a3, c3, rfl, hc3, ?_, ?_⟩
  · exact SlPt.turnP HS3.out HTu.out HN.out
  · exact HTu.out.below HBV.out (by intro x hx; simp at hx; omega)
/-- What Stat answers: number, directory, size, error. -/
def statS (S : FS) (p : ByteArray) : Int × Bool × Int × Int :=
  if (lookS (fnd · S.t.L) p).2.2 = 0 then ((lookS (fnd · S.t.L) p).1, (lookS (fnd · S.t.L) p).2.1, (bodyA S (lookS (fnd · S.t.L) p).1).size, 0) else (0, false, 0, (lookS (fnd · S.t.L) p).2.2)
theorem run_field_bd (w : World) (size : Int) (a : Option Addr) (n c : Nat) : (Instr.field 47 (.agg #[.int .i64 size, .slice a n c]) 0).run Tryz.prog w = .ok (.int .i64 size) w := by kernel_rfl
theorem b3_froz {W : World} {B : Nat} {a b c : Value} {t : TypeId} (h : W.heap[B]? = some (.cells #[a, b, c] t (0, 0))) (x y : Value) : (W.cell? ⟨B, 0, none⟩ = some a ∧ W.frozen? ⟨B, 0, none⟩ = false) ∧ ((W.setCell ⟨B, 0, none⟩ x).cell? ⟨B, 1, none⟩ = some b ∧ (W.setCell ⟨B, 0, none⟩ x).frozen? ⟨B, 1, none⟩ = false) ∧ (((W.setCell ⟨B, 0, none⟩ x).setCell ⟨B, 1, none⟩ y).cell? ⟨B, 2, none⟩ = some c ∧ ((W.setCell ⟨B, 0, none⟩ x).setCell ⟨B, 1, none⟩ y).frozen? ⟨B, 2, none⟩ = false) := b3_facts h x y
set_option maxRecDepth 100000 in
set_option maxHeartbeats 8000000 in
/-- Stat. -/
theorem fold_stat (p : ByteArray) (w : World) (hp : p.size ≤ 100000) {sb tb mb lb : Nat} {S : FS} (hS : FoldP w sb tb mb lb S) (hI : TInv S.t) (ho : S.fs.Pairwise fun a b => a.1 ≠ b.1) (hm : MLen w) :
    Calls Tryz.prog 25 #[.pointer (some ⟨sb, 0, none⟩), .string p] w fun e w' => e = .returned (.tuple #[.agg #[.int .i64 (statS S p).1, .bool (statS S p).2.1, .int .i64 (statS S p).2.2.1], .int .i64 (statS S p).2.2.2]) ∧ Below w.heap.size w w' := by
  obtain ⟨i0, d0, x0, hl⟩ : ∃ i d x, lookS (fnd · S.t.L) p = (i, d, x) := ⟨_, _, _, rfl⟩
  have hB0 : Below w.heap.size w (w.alloc (.cells #[.int .i64 0, .bool false, .int .i64 0] 75)) := (Below.refl _ _).alloc (Nat.le_refl _) _
  have HLk := Lib.hid (tree_look p (w.alloc (.cells #[.int .i64 0, .bool false, .int .i64 0] 75)) (by unfold maxLen; omega) (hS.t.below hB0) hI.rises.apart (hm.below hB0) hl)
  obtain ⟨l1, l2, l3, l4⟩ := hS.lt
  obtain ⟨g0, g1⟩ := hS.cells
  obtain ⟨a, c, hSl, hc, hlk, _⟩ := hS.look ho i0
  have HLu : Hid (∀ W, Below w.heap.size w W → W.cell? ⟨sb, 1, none⟩ = some (.map (some lb)) ∧ (Instr.lookup 78 (.map (some lb)) (.int .i64 i0) false).run Tryz.prog W = .ok (.agg #[.int .i64 (bodyA S i0).size, .slice a (bodyA S i0).parts.length c]) W) := Lib.hid fun W h => ⟨(h.cell (p := ⟨sb, 1, none⟩) l1).trans g1, hlk W (h.block lb l4)⟩
  have hst : statS S p = if x0 = 0 then (i0, d0, (bodyA S i0).size, 0) else (0, false, 0, x0) := by unfold statS; rw [hl]
  rw [hst]
  have hbr := heap_alloc_new w (.cells #[.int .i64 0, .bool false, .int .i64 0] 75)
  have hs1 : (w.alloc (.cells #[.int .i64 0, .bool false, .int .i64 0] 75)).heap.size = w.heap.size + 1 := by simp
  have hk0 : (w.alloc (.cells #[.int .i64 0, .bool false, .int .i64 0] 75)).cell? ⟨sb, 0, none⟩ = some (.pointer (some ⟨tb, 0, none⟩)) := (World.cell?_of_block (Below.heap_alloc _ _ _ l1)).trans g0
  clear hS hI ho hm hl hlk hSl hst
  generalize (bodyA S i0).size = bz at *
  generalize (bodyA S i0).parts.length = bn at *
  by_cases h0 : x0 = 0
  · subst h0
    rw [if_pos rfl]
    go_enter Tryz.func25, Tryz.ntmps25
    go_upto_region 3 with (fail)
    go_wp2_with fail
    refine HLk.out.mono ?_
    rintro e V ⟨rfl, hBV⟩
    have hbV := (hBV.block w.heap.size (by omega)).trans hbr
    have hBw := blw hB0 hBV
    obtain ⟨m1, m2⟩ := HLu.out V hBw
    have hfd := run_field_bd V bz a bn c
    have HBw := Lib.hid hBw
    obtain ⟨⟨a0, f0⟩, ⟨a1, f1⟩, a2, f2⟩ := b3_froz hbV (.int .i64 i0) (.bool d0)
    have HEnd := Lib.hid (b3_end hbV (.int .i64 i0) (.bool d0) (.int .i64 bz))
    clear hbV hBV hBw hbr hB0 HLk HLu
    go_wp2
    obtain ⟨u0, u1, u2, _⟩ := b3_cells HEnd.out
    refine bodyPost_ret (v := .tuple #[.agg #[.int .i64 i0, .bool d0, .int .i64 bz], .int .i64 0]) (by simp [results, Tryz.f25, go_sem, u0, u1, u2]) rfl ⟨rfl, b3_below (Nat.le_refl _) HBw.out _ _ _⟩
  · rw [if_neg h0]
    have h1 : (x0 == 0) = false := by rw [beq_eq_false_iff_ne]; exact h0
    have h2 : (x0 != 0) = true := by simp [h0]
    clear h0
    go_enter Tryz.func25, Tryz.ntmps25
    go_upto_region 3 with (fail)
    go_wp2_with fail
    refine HLk.out.mono ?_
    rintro e V ⟨rfl, hBV⟩
    have hbV := (hBV.block w.heap.size (by omega)).trans hbr
    have HBw := Lib.hid (blw hB0 hBV)
    obtain ⟨⟨a0, f0⟩, ⟨a1, f1⟩, a2, f2⟩ := b3_froz hbV (.int .i64 0) (.bool false)
    have HEnd := Lib.hid (b3_end hbV (.int .i64 0) (.bool false) (.int .i64 0))
    clear hbV hBV hbr hB0 HLk HLu
    go_wp2
    obtain ⟨u0, u1, u2, _⟩ := b3_cells HEnd.out
    refine bodyPost_ret (v := .tuple #[.agg #[.int .i64 0, .bool false, .int .i64 0], .int .i64 x0]) (by simp [results, Tryz.f25, go_sem, u0, u1, u2]) rfl ⟨rfl, b3_below (Nat.le_refl _) HBw.out _ _ _⟩
end Go.Proofs.YtiegadfhgccliaaGreatDoor
namespace Go.Proofs.YtiegadfhgccliaaGreatDoor
open Go.Lib

theorem apply_no {S S' : FS} {e : Ev} {l : List Bp} {x : Int} (h : applyS S e l = (S', x)) (hx : x ≠ 0) : S' = S := by
  unfold applyS at h
  split at h
  · split at h
    · injection h with _ h2; exact absurd h2.symm hx
    · split at h
      · injection h with _ h2; exact absurd h2.symm hx
      · split at h
        · unfold putS at h
          split at h
          · injection h with h1 _; exact h1.symm
          · split at h
            · injection h with _ h2; exact absurd h2.symm hx
            · injection h with h1 _; exact h1.symm
        · split at h
          · injection h with _ h2; exact absurd h2.symm hx
          · split at h
            · injection h with _ h2; exact absurd h2.symm hx
            · split at h
              · injection h with _ h2; exact absurd h2.symm hx
              · injection h with h1 _; exact h1.symm
  · injection h with h1 _; exact h1.symm
/-- What was there before has the same kind; and, where names alone are changed, the same body. -/
structure Kept (S S' : FS) (op : Int) : Prop where
  node : ∀ n ∈ S'.t.L, n.id < S.t.nx → ∃ m ∈ S.t.L, m.id = n.id ∧ m.dir = n.dir
  body : op ≠ 3 → op ≠ 4 → ∀ f ∈ S'.fs, f.1 < S.t.nx → f ∈ S.fs
theorem Kept.refl (S : FS) (op : Int) : Kept S S op := ⟨fun n hn _ => ⟨n, hn, rfl, rfl⟩, fun _ _ _ hf _ => hf⟩
/-- Is there a body? Just of files. -/
theorem FInv.isSome {S : FS} (h : FInv S) {n : Nd} (hn : n ∈ S.t.L) : (bodyOf S.fs n.id).isSome = !n.dir := by
  cases hd : n.dir with
  | false =>
    obtain ⟨b, hb⟩ := h.has n hn hd
    rw [bodyOf_mem h.once hb]; rfl
  | true =>
    cases hb : bodyOf S.fs n.id with
    | none => rfl
    | some b =>
      obtain ⟨m, hm, e1, e2⟩ := h.only _ (bodyOf_some hb)
      have := h.t.uniq m hm n hn e1
      rw [this, hd] at e2
      cases e2
/-- Each number is the one ahead, or one more. -/
def StepsI (l : List Int) : Prop := ∀ i, i + 1 < l.length → l.getD i 0 ≤ l.getD (i + 1) 0 ∧ l.getD (i + 1) 0 ≤ l.getD i 0 + 1
end Go.Proofs.YtiegadfhgccliaaGreatDoor
set_option linter.unusedVariables false
namespace Go.Proofs.YtiegadfhgccliaaGreatDoor
open Go.RowKit Go.Lib
open Go.ChangeMaps (setBlock)

theorem body_zero {S : FS} (h : FInv S) : bodyOf S.fs 0 = none := by
  cases hb : bodyOf S.fs 0 with
  | none => rfl
  | some b =>
    obtain ⟨m, hm, e1, _⟩ := h.only _ (bodyOf_some hb)
    have := (h.t.ids m hm).1
    dsimp only at e1
    omega
/-- What is found: the root, or a node. -/
theorem look_kind {S : FS} (h : FInv S) {p : ByteArray} {i : Int} {d : Bool} (hl : lookS (fnd · S.t.L) p = (i, d, 0)) : (bodyOf S.fs i).isSome = !d := by
  obtain ⟨P, hP, hor⟩ := lookS_ok hl
  rcases hor with ⟨h0, h1, h2⟩ | ⟨_, n0, hf, hi, hd⟩
  · subst h1
    subst h2
    rw [body_zero h]; rfl
  · subst hi
    subst hd
    exact h.isSome (fnd_some hf).1
set_option maxRecDepth 100000 in
set_option maxHeartbeats 8000000 in
theorem doc_stat (p : ByteArray) (w : World) (hp : p.size ≤ 100000) {base sd : Nat} {fa : Option Addr} {S : FS} (hS : DocS w base sd fa S) (hI : FInv S) (hl : S.fs.length ≤ 1000000) :
    Calls Tryz.prog 53 #[.pointer (some ⟨sd, 0, none⟩), .string p] w fun e w' => e = .returned (.tuple #[.agg #[.int .i64 (statS S p).1, .bool (statS S p).2.1, .int .i64 (statS S p).2.2.1], .int .i64 (statS S p).2.2.2]) ∧ Below w.heap.size w w' := by
  obtain ⟨i0, d0, x0, hlk⟩ : ∃ i d x, lookS (fnd · S.t.L) p = (i, d, x) := ⟨_, _, _, rfl⟩
  have hst : statS S p = if x0 = 0 then (i0, d0, (bodyA S i0).size, 0) else (0, false, 0, x0) := by unfold statS; rw [hlk]
  have hfew := hI.t.few
  have HKd := Lib.hid (fun h : x0 = 0 => look_kind (S := S) (p := p) (i := i0) (d := d0) hI (by rw [hlk, h]))
  obtain ⟨dx, hD, -⟩ := hS.tree
  have hB0 : Below w.heap.size w (w.alloc (.cells #[.int .i64 0, .bool false, .int .i64 0] 75)) := (Below.refl _ _).alloc (Nat.le_refl _) _
  have HLk := Lib.hid (doc_look p (w.alloc (.cells #[.int .i64 0, .bool false, .int .i64 0] 75)) (by unfold maxLen; omega) (hD.below hB0) (by omega) hlk)
  have hbr := heap_alloc_new w (.cells #[.int .i64 0, .bool false, .int .i64 0] 75)
  have hs1 : (w.alloc (.cells #[.int .i64 0, .bool false, .int .i64 0] 75)).heap.size = w.heap.size + 1 := by simp
  have HS := Lib.hid hS
  have HOn := Lib.hid hI.once
  rw [hst]
  clear hD hS hI hlk hst
  by_cases h0 : x0 = 0
  · subst h0
    rw [if_pos rfl]
    have hk := HKd.out rfl
    cases d0 with
    | true =>
      have hsz : (bodyA S i0).size = 0 := by
        unfold bodyA
        cases hb : bodyOf S.fs i0 with
        | none => rfl
        | some b => rw [hb] at hk; cases hk
      rw [hsz]
      clear hk hsz HKd
      go_enter Tryz.func53, Tryz.ntmps53
      go_upto_region 1 with (fail)
      go_wp2_with fail
      refine HLk.out.mono ?_
      rintro e V ⟨rfl, hBV⟩
      have hbV := (hBV.block w.heap.size (by omega)).trans hbr
      have HBw := Lib.hid (blw hB0 hBV)
      obtain ⟨⟨a0, f0⟩, ⟨a1, f1⟩, a2, f2⟩ := b3_froz hbV (.int .i64 i0) (.bool true)
      have HEnd := Lib.hid (b3_end hbV (.int .i64 i0) (.bool true) (.int .i64 0))
      clear hbV hBV hbr hB0 HLk
      go_wp2
      obtain ⟨u0, u1, u2, _⟩ := b3_cells HEnd.out
      refine bodyPost_ret (v := .tuple #[.agg #[.int .i64 i0, .bool true, .int .i64 0], .int .i64 0]) (by simp [results, Tryz.f53, go_sem, u0, u1, u2]) rfl ⟨rfl, b3_below (Nat.le_refl _) HBw.out _ _ _⟩
    | false =>
      obtain ⟨bb, hbo⟩ := Option.isSome_iff_exists.1 hk
      have hsz : (bodyA S i0).size = bb.size := by unfold bodyA; rw [hbo]; rfl
      rw [hsz]
      have HMem := Lib.hid (bodyOf_some hbo)
      have HBo := Lib.hid hbo
      clear hk hsz HKd hbo
      go_enter Tryz.func53, Tryz.ntmps53
      go_upto_region 1 with (fail)
      go_wp2_with fail
      refine HLk.out.mono ?_
      rintro e V ⟨rfl, hBV⟩
      have hbV := (hBV.block w.heap.size (by omega)).trans hbr
      have HBw := Lib.hid (blw hB0 hBV)
      have HSV := Lib.hid (HS.out.below (blw hB0 hBV))
      obtain ⟨G, cG, f1, f2, f3, f4⟩ := HSV.out.ex
      have hGl : G.length ≤ 1000000 := by have := congrArg List.length f1; rw [List.length_map] at this; omega
      have HBd := Lib.hid (doc_body i0 V f2 f3 hGl)
      have HF1 := Lib.hid f1
      have HF3 := Lib.hid f3
      clear f1 f2 f3 f4 hBV hbr hB0 HLk
      go_wp2_with fail
      with_reducible refine Calls.mono HBd.out ?_
      rintro e V ⟨rfl, hor⟩
      rcases hor with ⟨hno, _⟩ | ⟨k, g, hk, hid, _, rfl, rfl⟩
      · exfalso
        have hmem := HMem.out
        rw [← HF1.out] at hmem
        obtain ⟨f, hf, e⟩ := List.mem_map.1 hmem
        exact hno f hf (congrArg Prod.fst e)
      obtain ⟨g', eg, p0, p1, p2, hgl, hcc⟩ := rowF_at HF3.out hk
      obtain rfl : g = g' := by injection eg with e; injection e
      have hbk : (G.getD k default).bd = bb := by
        have h1 : (i0, (G.getD k default).bd) ∈ S.fs := by rw [← HF1.out]; exact List.mem_map.2 ⟨_, (by simp [List.getD, hk] : G.getD k default ∈ G), by show (_, _) = _; rw [hid]⟩
        have h2 := bodyOf_mem HOn.out h1
        rw [HBo.out] at h2
        exact (Option.some.inj h2).symm
      rw [hbk] at p1
      obtain ⟨⟨a0, f0⟩, ⟨a1, f1⟩, a2, f2⟩ := b3_froz hbV (.int .i64 i0) (.bool false)
      have HEnd := Lib.hid (b3_end hbV (.int .i64 i0) (.bool false) (.int .i64 bb.size))
      clear hbV p0 p2 eg hid hbk HBd
      go_wp2
      obtain ⟨u0, u1, u2, _⟩ := b3_cells HEnd.out
      refine bodyPost_ret (v := .tuple #[.agg #[.int .i64 i0, .bool false, .int .i64 bb.size], .int .i64 0]) (by simp [results, Tryz.f53, go_sem, u0, u1, u2]) rfl ⟨rfl, b3_below (Nat.le_refl _) HBw.out _ _ _⟩
  · rw [if_neg h0]
    have h2 : (x0 != 0) = true := by simp [h0]
    clear h0 HKd
    go_enter Tryz.func53, Tryz.ntmps53
    go_upto_region 1 with (fail)
    go_wp2_with fail
    refine HLk.out.mono ?_
    rintro e V ⟨rfl, hBV⟩
    have hbV := (hBV.block w.heap.size (by omega)).trans hbr
    have HBw := Lib.hid (blw hB0 hBV)
    obtain ⟨⟨a0, f0⟩, ⟨a1, f1⟩, a2, f2⟩ := b3_froz hbV (.int .i64 0) (.bool false)
    have HEnd := Lib.hid (b3_end hbV (.int .i64 0) (.bool false) (.int .i64 0))
    clear hbV hBV hbr hB0 HLk
    go_wp2
    obtain ⟨u0, u1, u2, _⟩ := b3_cells HEnd.out
    refine bodyPost_ret (v := .tuple #[.agg #[.int .i64 0, .bool false, .int .i64 0], .int .i64 x0]) (by simp [results, Tryz.f53, go_sem, u0, u1, u2]) rfl ⟨rfl, b3_below (Nat.le_refl _) HBw.out _ _ _⟩
end Go.Proofs.YtiegadfhgccliaaGreatDoor
set_option linter.unusedVariables false
namespace Go.Proofs.YtiegadfhgccliaaGreatDoor
open Go.RowKit Go.Lib
open Go.ChangeMaps (setBlock)

theorem info_intD : (Tryz.prog.info? 3).map (fun i => (i.zero, i.size, i.bytes)) = some (some (.int .i64 0), 1, 8) := by kernel_rfl
theorem slK_take_news {α : Type} [Inhabited α] {E : EncK α} {w : World} {a : Option Addr} {L : List α} (h : SlK E w a L) (p : Nat) : ∀ j u, (E.cells (L.take p))[j]? = some u → ∃ b, a = some b ∧ w.cell? (b.add j) = some u := by
  rcases h with rfl | ⟨b, o, e, hr⟩
  · intro j u hu; simp [EncK.cells] at hu
  · exact slK_news (.inr ⟨b, o, e, hr.take p⟩)
theorem slI_drop_news {w : World} {b o : Nat} {L : List Int} (h : SlI w (some ⟨b, o, none⟩) L) {p c : Nat} (hc : L.length ≤ c) : ∀ j u, (encI.cells (L.drop p))[j]? = some u → ∃ q, (if c = p then some (⟨b, o, none⟩ : Addr) else some ⟨b, o + p, none⟩) = some q ∧ w.cell? (q.add j) = some u := by
  intro j u hu
  have hp : p < L.length := by
    rcases Nat.lt_or_ge p L.length with h | h
    · exact h
    · rw [List.drop_eq_nil_of_le h] at hu; simp [EncK.cells] at hu
  rcases h with rfl | ⟨b', o', e, hr⟩
  · simp at hp
  · cases e
    rw [if_neg (by omega)]
    have hd := hr.drop p
    have h2 := slK_news (.inr ⟨b, o + p * encI.K, rfl, hd⟩) j u hu
    obtain ⟨q, hq, hcell⟩ := h2
    injection hq with hq
    subst hq
    refine ⟨_, rfl, ?_⟩
    have e : (⟨b, o + p * encI.K, none⟩ : Addr) = ⟨b, o + p, none⟩ := by
      show (⟨b, o + p * 1, none⟩ : Addr) = _
      rw [Nat.mul_one]
    rw [e] at hcell
    exact hcell
theorem ins_at (n : Int) : ∀ (U : List Int) (k : Nat), (∀ j, j < k → U.getD j 0 < n) → (k < U.length → n < U.getD k 0) → k ≤ U.length → insI n U = U.take k ++ [n] ++ U.drop k
  | [], k, _, _, hk => by simp at hk; subst hk; rfl
  | m :: r, 0, _, h, _ => by
    have := h (by simp)
    simp at this
    unfold insI
    rw [if_neg (by omega), if_neg (by omega)]
    rfl
  | m :: r, k + 1, h1, h2, hk => by
    have h0 := h1 0 (by omega)
    simp at h0
    unfold insI
    rw [if_pos h0, ins_at n r k (fun j hj => by have := h1 (j + 1) (by omega); simpa using this) (fun hl => by have := h2 (by simpa using hl); simpa using this) (by simpa using hk)]
    rfl
theorem ins_same (n : Int) : ∀ (U : List Int) (k : Nat), (∀ j, j < k → U.getD j 0 < n) → k < U.length → U.getD k 0 = n → insI n U = U
  | [], k, _, hk, _ => by simp at hk
  | m :: r, 0, _, _, h => by
    simp at h
    unfold insI
    rw [if_neg (by omega), if_pos h]
  | m :: r, k + 1, h1, hk, h => by
    have h0 := h1 0 (by omega)
    simp at h0
    unfold insI
    rw [if_pos h0, ins_same n r k (fun j hj => by have := h1 (j + 1) (by omega); simpa using this) (by simpa using hk) (by simpa using h)]
set_option maxRecDepth 100000 in
set_option maxHeartbeats 8000000 in
theorem doc_insert (U : List Int) (n : Int) (a : Option Addr) (c : Nat) (w : World) (hS : SlI w a U) (hc : U.length ≤ c) (hl : U.length ≤ 100000000) :
    Calls Tryz.prog 85 #[.slice a U.length c, .int .i64 n] w fun e w' => ∃ a2 c2, e = .returned (.slice a2 (insI n U).length c2) ∧ (insI n U).length ≤ c2 ∧ SlI w' a2 (insI n U) ∧ Below w.heap.size w w' := by
  have HS := Lib.hid hS
  obtain ⟨i0, hi, hz0, hz1, hz2⟩ := info_parts info_intD
  obtain ⟨Z, hZ⟩ : ∃ Z, insI n U = Z := ⟨_, rfl⟩
  rw [hZ]
  have HZ := Lib.hid hZ
  clear hS hZ
  go_enter Tryz.func85, Tryz.ntmps85
  go_wp2
  go_loopw [5] (fun i wr => ∃ k : Nat, k ≤ U.length ∧ i = .int .i64 (k : Int) ∧ Hid (Below w.heap.size w wr) ∧ Hid (∀ j, j < k → U.getD j 0 < n)) (fun i _ => U.length - (intOf i).toNat)
  case atStart => exact ⟨0, by omega, rfl, Lib.hid (Below.refl _ _), Lib.hid fun j hj => by omega⟩
  case round =>
    obtain ⟨k, hk, rfl, HB, HJ⟩ := hrel
    have HSr := Lib.hid (HS.out.below HB.out)
    by_cases hlt : k < U.length
    · obtain ⟨b, o, rfl, p0, _⟩ := SlI_at HSr.out hlt
      rw [show (default : Int) = 0 from rfl] at p0
      have hki : (k : Int) < (U.length : Int) := by omega
      have hkc : (k : Int) < (c : Int) := by omega
      generalize hx : U.getD k 0 = x at *
      have HX := Lib.hid hx
      clear hx
      by_cases h1 : x < n
      · have HJ2 : Hid (∀ j, j < k + 1 → U.getD j 0 < n) := Lib.hid fun j hj => by
          by_cases e : j = k
          · subst e; rw [HX.out]; exact h1
          · exact HJ.out j (by omega)
        clear HJ
        go_wp2
        exact ⟨⟨k + 1, by omega, by go_num, HB, HJ2⟩, by simp [intOf]; omega⟩
      · have h1' : decide (x < n) = false := by simpa using h1
        by_cases h2 : x = n
        · have HR : Hid (Z = U) := Lib.hid (by rw [← HZ.out]; exact ins_same n U k HJ.out hlt (by rw [HX.out]; exact h2))
          have h2' : (x == n) = true := by simpa using h2
          clear h1 h2 HJ
          go_wp2
          go_ret
          have e := HR.out
          subst e
          exact ⟨_, _, rfl, hc, HSr.out, HB.out⟩
        · have HR : Hid (Z = U.take k ++ [n] ++ U.drop k) := Lib.hid (by rw [← HZ.out]; exact ins_at n U k HJ.out (fun _ => by rw [HX.out]; omega) hk)
          have h2' : (x == n) = false := by simpa using h2
          clear h1 h2 HJ
          have hp1 : ((k : Nat) : Int) ≤ (c : Int) := by omega
          have hp2 : ((k : Nat) : Int) ≤ (U.length : Int) := by omega
          have hp0 : (0 : Int) ≤ ((k : Nat) : Int) := Int.natCast_nonneg _
          have hpN : k ≤ U.length := by omega
          have HL1 : Hid ((encI.cells (U.take (k))).length = (k) * 1) := Lib.hid (by rw [cellsK_len, List.length_take, Nat.min_eq_left hpN]; rfl)
          have HL3 : Hid ((encI.cells (U.drop (k))).length = (U.length - (k)) * 1) := Lib.hid (by rw [cellsK_len, List.length_drop]; rfl)
          go_upto_region 6 with (fail)
          go_region_law (first | (refine step_append_any (by rfl) _ _ _ (by rfl) (wr.heap.size) 3 i0 _ 1 8 Tryz.underlying37 hi hz0 hz1 hz2 rfl (by omega) v2 (k + 1) (encI.cells (U.take (k)) ++ [.int .i64 n]) (by rfl) (HO2.out) _ (U.length - k) (c - k) (encI.cells (U.drop (k))) (by rfl) (HL3.out) (by first | exact slI_drop_news (HSr.out.below HB2.out) hc | (intro j u hu; simp [EncK.cells] at hu; done)) (cellsK_one encI _) (by unfold maxLen; omega) (by omega) (by first | exact Nat.le_refl _ | omega | (simp; done) | (simp; omega)) ?_; intro v3 w3 ho3 hg3 hat3; obtain ⟨g3, cap3, rfl, hg3b, hg3l⟩ := ho3.form (by omega); have HO3 := Lib.hid ho3; have HB3 : Hid (Below wr.heap.size wr w3) := Lib.hid (grown_below (B := wr.heap.size) (w := wr) HB2.out (by omega) HO2.out hg3); clear ho3 hg3 hat3) | (refine step_append_any (by rfl) _ _ _ (by rfl) (wr.heap.size) 3 i0 _ 1 8 Tryz.underlying37 hi hz0 hz1 hz2 rfl (by omega) v1 (k) (encI.cells (U.take (k))) (by rfl) (HO1.out.alloc _) (some ⟨w1.heap.size, 0, none⟩) (1) (1) ([.int .i64 n]) (by rfl) (rfl) (by exact news_some (World.news_of_block (cs := #[.int .i64 n]) (t := 3) (fr := (0, 0)) (heap_alloc_new w1 _))) (by intro u hu; simp at hu; subst hu; rfl) (by unfold maxLen; omega) (by omega) (by first | exact Nat.le_refl _ | omega | (simp; done) | (simp; omega)) ?_; intro v2 w2 ho2 hg2 hat2; have HO2 := Lib.hid ho2; have HB2 : Hid (Below wr.heap.size wr w2) := Lib.hid (grown_below (B := wr.heap.size) (w := wr) (HB1.out.alloc HB1.out.size _) (by simp; omega) (HO1.out.alloc _) hg2); have hs2 := HB2.out.size; clear ho2 hg2 hat2) | (refine step_append_any (by rfl) _ _ _ (by rfl) (wr.heap.size) 3 i0 _ 1 8 Tryz.underlying37 hi hz0 hz1 hz2 rfl (by omega) v1 (k) (encI.cells (U.take (k))) (by rfl) (HO1.out) (some ⟨wr.heap.size, 0, none⟩) (1) (1) ([.int .i64 n]) (by rfl) (rfl) (by exact news_some (World.news_of_block (cs := #[.int .i64 n]) (t := 3) (fr := (0, 0)) ((HG1.out.block wr.heap.size (by simp) (by simp [Value.ownBlock])).trans (heap_alloc_new wr _)))) (by intro u hu; simp at hu; subst hu; rfl) (by unfold maxLen; omega) (by omega) (by first | exact Nat.le_refl _ | omega | (simp; done) | (simp; omega)) ?_; intro v2 w2 ho2 hg2 hat2; have HO2 := Lib.hid ho2; have HB2 : Hid (Below wr.heap.size wr w2) := Lib.hid (grown_below (B := wr.heap.size) (w := wr) HB1.out (by omega) HO1.out hg2); have hs2 := HB2.out.size; clear ho2 hg2 hat2) | (refine step_append_any (by rfl) _ _ _ (by rfl) (wr.heap.size) 3 i0 _ 1 8 Tryz.underlying37 hi hz0 hz1 hz2 rfl (by omega) (.slice none 0 0) (0) ([]) (by rfl) (World.ownsRow_nil _ _ _ _) (some ⟨b, o, none⟩) (k) (c) (encI.cells (U.take (k))) (by rfl) (HL1.out) (by first | exact slK_take_news HSr.out _ | exact slK_take_news (HSr.out.below ((Below.refl _ _).alloc (Nat.le_refl _) _)) _ | exact slK_take_news (HSr.out.below (by first | exact Below.refl _ _ | exact below_drewN' (Below.refl _ _) 1 | exact (Below.refl _ _).alloc (Nat.le_refl _) _ | exact (below_drewN' (Below.refl _ _) 1).alloc (Nat.le_refl _) _)) _) (cellsK_one encI _) (by unfold maxLen; omega) (by omega) (by first | exact Nat.le_refl _ | omega | (simp; done) | (simp; omega)) ?_; intro v1 w1 ho1 hg1 hat1; rw [Nat.zero_add, List.nil_append] at ho1; have HO1 := Lib.hid ho1; have HG1 := Lib.hid hg1; have HB1 : Hid (Below wr.heap.size wr w1) := Lib.hid (grown_below (B := wr.heap.size) (w := wr) (by first | exact Below.refl _ _ | exact below_drewN' (Below.refl _ _) 1 | exact (Below.refl _ _).alloc (Nat.le_refl _) _ | exact (below_drewN' (Below.refl _ _) 1).alloc (Nat.le_refl _) _) (by first | exact Nat.le_refl _ | (simp; done)) (World.ownsRow_nil _ _ 3 1) hg1); have hs1 := HB1.out.size; clear ho1 hg1 hat1))
          all_goals
            have HFin := Lib.hid (HB.out.trans (HB3.out.mono HB.out.size))
            go_wp2
            all_goals
              go_ret
              have e := HR.out
              have hcs : encI.cells (U.take (k)) ++ [.int .i64 n] ++ encI.cells (U.drop (k)) = encI.cells Z := by rw [e, cellsK_append, cellsK_append]; rfl
              have hlz : k + 1 + (U.length - k) = Z.length := by rw [e]; simp; omega
              have hO := HO3.out
              rw [hcs, hlz] at hO
              obtain ⟨a4, c4, hv, hc4, hS4, _⟩ := SlK.own (E := encI) hO
              obtain ⟨ea, _, eb⟩ := Value.slice.inj hv
              subst ea
              subst eb
              exact ⟨some ⟨g3, 0, none⟩, cap3, congrArg (fun m => Ending.returned (Value.slice (some ⟨g3, 0, none⟩) m cap3)) hlz, hc4, hS4, HFin.out⟩
    · obtain rfl : k = U.length := by omega
      have hlt' : decide ((U.length : Int) < (U.length : Int)) = false := by simp
      have HR : Hid (Z = U.take U.length ++ [n] ++ U.drop U.length) := Lib.hid (by rw [← HZ.out]; exact ins_at n U _ HJ.out (fun h => absurd h (Nat.lt_irrefl _)) (Nat.le_refl _))
      clear HJ hlt
      have hp1 : ((U.length : Nat) : Int) ≤ (c : Int) := by omega
      have hp2 : ((U.length : Nat) : Int) ≤ (U.length : Int) := by omega
      have hp0 : (0 : Int) ≤ ((U.length : Nat) : Int) := Int.natCast_nonneg _
      have hpN : U.length ≤ U.length := by omega
      have HL1 : Hid ((encI.cells (U.take (U.length))).length = (U.length) * 1) := Lib.hid (by rw [cellsK_len, List.length_take, Nat.min_eq_left hpN]; rfl)
      have HL3 : Hid ((encI.cells (U.drop (U.length))).length = (U.length - (U.length)) * 1) := Lib.hid (by rw [cellsK_len, List.length_drop]; rfl)
      go_upto_region 6 with (fail)
      go_region_law (first | (refine step_append_any (by rfl) _ _ _ (by rfl) (wr.heap.size) 3 i0 _ 1 8 Tryz.underlying37 hi hz0 hz1 hz2 rfl (by omega) v2 (U.length + 1) (encI.cells (U.take (U.length)) ++ [.int .i64 n]) (by rfl) (HO2.out) _ (0) (_) ([]) (by rfl) (by simp) (by (intro j u hu; simp at hu)) (by intro u hu; simp at hu) (by unfold maxLen; omega) (by omega) (by first | exact Nat.le_refl _ | omega | (simp; done) | (simp; omega)) ?_; intro v3 w3 ho3 hg3 hat3; obtain ⟨g3, cap3, rfl, hg3b, hg3l⟩ := ho3.form (by omega); have HO3 := Lib.hid ho3; have HB3 : Hid (Below wr.heap.size wr w3) := Lib.hid (grown_below (B := wr.heap.size) (w := wr) HB2.out (by omega) HO2.out hg3); clear ho3 hg3 hat3) | (refine step_append_any (by rfl) _ _ _ (by rfl) (wr.heap.size) 3 i0 _ 1 8 Tryz.underlying37 hi hz0 hz1 hz2 rfl (by omega) v1 (U.length) (encI.cells (U.take (U.length))) (by rfl) (HO1.out.alloc _) (some ⟨w1.heap.size, 0, none⟩) (1) (1) ([.int .i64 n]) (by rfl) (rfl) (by exact news_some (World.news_of_block (cs := #[.int .i64 n]) (t := 3) (fr := (0, 0)) (heap_alloc_new w1 _))) (by intro u hu; simp at hu; subst hu; rfl) (by unfold maxLen; omega) (by omega) (by first | exact Nat.le_refl _ | omega | (simp; done) | (simp; omega)) ?_; intro v2 w2 ho2 hg2 hat2; have HO2 := Lib.hid ho2; have HB2 : Hid (Below wr.heap.size wr w2) := Lib.hid (grown_below (B := wr.heap.size) (w := wr) (HB1.out.alloc HB1.out.size _) (by simp; omega) (HO1.out.alloc _) hg2); have hs2 := HB2.out.size; clear ho2 hg2 hat2) | (refine step_append_any (by rfl) _ _ _ (by rfl) (wr.heap.size) 3 i0 _ 1 8 Tryz.underlying37 hi hz0 hz1 hz2 rfl (by omega) v1 (U.length) (encI.cells (U.take (U.length))) (by rfl) (HO1.out) (some ⟨wr.heap.size, 0, none⟩) (1) (1) ([.int .i64 n]) (by rfl) (rfl) (by exact news_some (World.news_of_block (cs := #[.int .i64 n]) (t := 3) (fr := (0, 0)) ((HG1.out.block wr.heap.size (by simp) (by simp [Value.ownBlock])).trans (heap_alloc_new wr _)))) (by intro u hu; simp at hu; subst hu; rfl) (by unfold maxLen; omega) (by omega) (by first | exact Nat.le_refl _ | omega | (simp; done) | (simp; omega)) ?_; intro v2 w2 ho2 hg2 hat2; have HO2 := Lib.hid ho2; have HB2 : Hid (Below wr.heap.size wr w2) := Lib.hid (grown_below (B := wr.heap.size) (w := wr) HB1.out (by omega) HO1.out hg2); have hs2 := HB2.out.size; clear ho2 hg2 hat2) | (refine step_append_any (by rfl) _ _ _ (by rfl) (wr.heap.size) 3 i0 _ 1 8 Tryz.underlying37 hi hz0 hz1 hz2 rfl (by omega) (.slice none 0 0) (0) ([]) (by rfl) (World.ownsRow_nil _ _ _ _) a (U.length) (c) (encI.cells (U.take (U.length))) (by rfl) (HL1.out) (by first | exact slK_take_news HSr.out _ | exact slK_take_news (HSr.out.below ((Below.refl _ _).alloc (Nat.le_refl _) _)) _ | exact slK_take_news (HSr.out.below (by first | exact Below.refl _ _ | exact below_drewN' (Below.refl _ _) 1 | exact (Below.refl _ _).alloc (Nat.le_refl _) _ | exact (below_drewN' (Below.refl _ _) 1).alloc (Nat.le_refl _) _)) _) (cellsK_one encI _) (by unfold maxLen; omega) (by omega) (by first | exact Nat.le_refl _ | omega | (simp; done) | (simp; omega)) ?_; intro v1 w1 ho1 hg1 hat1; rw [Nat.zero_add, List.nil_append] at ho1; have HO1 := Lib.hid ho1; have HG1 := Lib.hid hg1; have HB1 : Hid (Below wr.heap.size wr w1) := Lib.hid (grown_below (B := wr.heap.size) (w := wr) (by first | exact Below.refl _ _ | exact below_drewN' (Below.refl _ _) 1 | exact (Below.refl _ _).alloc (Nat.le_refl _) _ | exact (below_drewN' (Below.refl _ _) 1).alloc (Nat.le_refl _) _) (by first | exact Nat.le_refl _ | (simp; done)) (World.ownsRow_nil _ _ 3 1) hg1); have hs1 := HB1.out.size; clear ho1 hg1 hat1))
      all_goals
        have HFin := Lib.hid (HB.out.trans (HB3.out.mono HB.out.size))
        go_wp2
        all_goals
          go_ret
          have e := HR.out
          have hcs : encI.cells (U.take (U.length)) ++ [.int .i64 n] ++ [] = encI.cells Z := by rw [e, List.drop_length, List.append_nil, List.append_nil, cellsK_append]; rfl
          have hlz : U.length + 1 + 0 = Z.length := by rw [e]; simp
          have hO := HO3.out
          rw [hcs, hlz] at hO
          obtain ⟨a4, c4, hv, hc4, hS4, _⟩ := SlK.own (E := encI) hO
          obtain ⟨ea, _, eb⟩ := Value.slice.inj hv
          subst ea
          subst eb
          exact ⟨some ⟨g3, 0, none⟩, cap3, congrArg (fun m => Ending.returned (Value.slice (some ⟨g3, 0, none⟩) m cap3)) hlz, hc4, hS4, HFin.out⟩
end Go.Proofs.YtiegadfhgccliaaGreatDoor
