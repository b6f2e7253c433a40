/- Walks of package fold: New, Copy, file, write, trunc. -/
import Derived.Test.YtiegadfhgccliaaGreatDoorMTreeN
import Derived.Shelf.SlMaps.Clone
import Derived.Ground.SlmcProg
import Derived.Test.YtiegadfhgccliaaGreatDoorProg
import Derived.Deep.RegionHeld3
import Derived.Test.YtiegadfhgccliaaGreatDoorMFoldM
namespace Go.Proofs.YtiegadfhgccliaaGreatDoor
open Go.RowKit Go.Lib
open Go.ChangeMaps (setBlock)

theorem sln_news {w : World} {a : Option Addr} {L : List Nd} (h : SlN w a L) : ∀ j u, (cellsN L)[j]? = some u → ∃ b, a = some b ∧ w.cell? (b.add j) = some u := by
  have := sln_take_news h L.length
  rwa [List.take_length] at this
set_option maxRecDepth 100000 in
set_option maxHeartbeats 8000000 in
/-- Copy. -/
theorem doc_copy (w : World) {base sd : Nat} {fa : Option Addr} {S : FS} (hS : DocS w base sd fa S) (hl : S.fs.length ≤ 1000000) (hn : S.t.L.length ≤ 1000000) :
    Calls Tryz.prog 47 #[.pointer (some ⟨sd, 0, none⟩)] w fun e w' => ∃ sd2, e = .returned (.pointer (some ⟨sd2, 0, none⟩)) ∧ (∃ fa2, DocS w' w.heap.size sd2 fa2 S) ∧ Below w.heap.size w w' := by
  obtain ⟨F, cf, f1, f2, f3, f4⟩ := hS.ex
  have hsd := f2.lt
  obtain ⟨c1, _⟩ := f2.cell1
  obtain ⟨c2, _⟩ := f2.cell2
  obtain ⟨a, c, h1, h2, h3⟩ := f2.ex
  have hFl : F.length ≤ 1000000 := by rw [← f1, List.length_map] at hl; exact hl
  have c0 : w.cell? ⟨sd, 0, none⟩ = some (.slice a S.t.L.length c) := by unfold World.cell?; rw [h1]; rfl
  obtain ⟨_, _, hv, hcf, hSF, _⟩ := SlK.own (E := encF) f3
  obtain ⟨e1, _, e2⟩ := Value.slice.inj hv
  subst e1
  subst e2
  have HS := Lib.hid h3
  have HSF := Lib.hid hSF
  have HF4 := Lib.hid f4
  have HE := Lib.hid f1
  obtain ⟨i0, hi, hz0, hz1, hz2⟩ := info_parts info_rnd
  obtain ⟨i1, ki, kz0, kz1, kz2⟩ := info_parts info_fl
  obtain ⟨⟨L, nx⟩, fs⟩ := S
  dsimp only at *
  have HKeep : Hid (∀ X, Below w.heap.size w X → X.cell? ⟨sd, 0, none⟩ = some (.slice a L.length c) ∧ X.cell? ⟨sd, 1, none⟩ = some (.int .i64 nx) ∧ X.cell? ⟨sd, 2, none⟩ = some (.slice fa F.length cf)) := Lib.hid fun X h => ⟨(h.cell (p := ⟨sd, 0, none⟩) hsd).trans c0, (h.cell (p := ⟨sd, 1, none⟩) hsd).trans c1, (h.cell (p := ⟨sd, 2, none⟩) hsd).trans c2⟩
  clear hS f1 f2 f3 f4 h1 h3 hSF hv hl
  go_enter Tryz.func47, Tryz.ntmps47
  go_upto_region 1 with (fail)
  go_region_law (first | (refine step_append_any (by rfl) _ _ _ (by rfl) (w.heap.size) 114 i0 _ 3 32 Tryz.underlying61 hi hz0 hz1 hz2 rfl (by omega) (.slice none 0 0) 0 [] (by rfl) (World.ownsRow_nil _ _ _ _) a L.length c (cellsN L) (by rfl) (cellsN_len L) (sln_news (HS.out.below HBf.out)) (cellsN_one L) (by unfold maxLen; omega) (by omega) (by first | exact Nat.le_refl _ | (simp; done) | omega | (simp; omega)) ?_; intro v1 wz ho1 hg1 _; rw [Nat.zero_add, List.nil_append] at ho1; obtain ⟨a1, k1, rfl, hk1, hS1⟩ := SlN.own ho1; have HBn : Hid (Below w.heap.size w wz) := Lib.hid (grown_below (B := w.heap.size) (w := w) HBf.out hsz1 (World.ownsRow_nil _ _ 114 3) hg1); have HSn := Lib.hid hS1; obtain ⟨d0, d1, d2⟩ := HKeep.out wz HBn.out; have hsz1 := HBn.out.size; have HOv : Hid (Below wy.heap.size wy wz) := Lib.hid (grown_below (B := wy.heap.size) (w := wy) (Below.refl _ _) (Nat.le_refl _) (World.ownsRow_nil _ _ 114 3) hg1); have HOz := Lib.hid (own_below_any HOf.out HOv.out); have HSz := HSn; have HBz := HBn; clear ho1 hg1 hS1) | (refine step_append_any (by rfl) _ _ _ (by rfl) (w.heap.size) 70 i1 _ 3 40 Tryz.underlying64 ki kz0 kz1 kz2 rfl (by omega) (.slice none 0 0) 0 [] (by rfl) (World.ownsRow_nil _ _ _ _) fa F.length cf (encF.cells F) (by rfl) (cellsK_len encF F) (slK_news (HSF.out.below HBn.out)) (cellsK_one encF F) (by unfold maxLen; omega) (by omega) (by first | exact Nat.le_refl _ | (simp; done) | omega | (simp; omega)) ?_; intro v2 wz ho2 hg2 _; rw [Nat.zero_add, List.nil_append] at ho2; obtain ⟨a2, k2, rfl, hk2, _, _⟩ := SlK.own (E := encF) ho2; have HBf : Hid (Below w.heap.size w wz) := Lib.hid (grown_below (B := w.heap.size) (w := w) HBn.out hsz1 (World.ownsRow_nil _ _ 70 3) hg2); have HOf := Lib.hid ho2; obtain ⟨d0, d1, d2⟩ := HKeep.out wz HBf.out; have hsz1 := HBf.out.size; have HOv : Hid (Below wy.heap.size wy wz) := Lib.hid (grown_below (B := wy.heap.size) (w := wy) (Below.refl _ _) (Nat.le_refl _) (World.ownsRow_nil _ _ 70 3) hg2); have HOz := HOf; have HSz := Lib.hid (HSn.out.below HOv.out); have HBz := HBf; clear ho2 hg2) | (refine step_append_any (by rfl) _ _ _ (by rfl) (w.heap.size) 114 i0 _ 3 32 Tryz.underlying61 hi hz0 hz1 hz2 rfl (by omega) (.slice none 0 0) 0 [] (by rfl) (World.ownsRow_nil _ _ _ _) a L.length c (cellsN L) (by rfl) (cellsN_len L) (by first | exact sln_news HS.out | exact sln_news (HS.out.below (below_drewN' (Below.refl _ _) 1))) (cellsN_one L) (by unfold maxLen; omega) (by omega) (by first | exact Nat.le_refl _ | (simp; done) | omega | (simp; omega)) ?_; intro v1 wy ho1 hg1 _; rw [Nat.zero_add, List.nil_append] at ho1; obtain ⟨a1, k1, rfl, hk1, hS1⟩ := SlN.own ho1; have HBn : Hid (Below w.heap.size w wy) := Lib.hid (grown_below (B := w.heap.size) (w := w) (by first | exact Below.refl _ _ | exact below_drewN' (Below.refl _ _) 1) (by first | exact Nat.le_refl _ | (simp; done) | omega | (simp; omega)) (World.ownsRow_nil _ _ 114 3) hg1); have HSn := Lib.hid hS1; obtain ⟨d0, d1, d2⟩ := HKeep.out wy HBn.out; have hsz1 := HBn.out.size; clear ho1 hg1 hS1) | (refine step_append_any (by rfl) _ _ _ (by rfl) (w.heap.size) 70 i1 _ 3 40 Tryz.underlying64 ki kz0 kz1 kz2 rfl (by omega) (.slice none 0 0) 0 [] (by rfl) (World.ownsRow_nil _ _ _ _) fa F.length cf (encF.cells F) (by rfl) (cellsK_len encF F) (by first | exact slK_news HSF.out | exact slK_news (HSF.out.below (below_drewN' (Below.refl _ _) 1))) (cellsK_one encF F) (by unfold maxLen; omega) (by omega) (by first | exact Nat.le_refl _ | (simp; done) | omega | (simp; omega)) ?_; intro v2 wy ho2 hg2 _; rw [Nat.zero_add, List.nil_append] at ho2; obtain ⟨a2, k2, rfl, hk2, _, _⟩ := SlK.own (E := encF) ho2; have HBf : Hid (Below w.heap.size w wy) := Lib.hid (grown_below (B := w.heap.size) (w := w) (by first | exact Below.refl _ _ | exact below_drewN' (Below.refl _ _) 1) (by first | exact Nat.le_refl _ | (simp; done) | omega | (simp; omega)) (World.ownsRow_nil _ _ 70 3) hg2); have HOf := Lib.hid ho2; obtain ⟨d0, d1, d2⟩ := HKeep.out wy HBf.out; have hsz1 := HBf.out.size; clear ho2 hg2))
  all_goals
    go_wp2
    go_ret
    have hB := bal HBz.out (.cells #[.slice a1 L.length k1, .int .i64 nx, .slice a2 F.length k2] 66)
    have hO : Below wz.heap.size wz (wz.alloc (.cells #[.slice a1 L.length k1, .int .i64 nx, .slice a2 F.length k2] 66)) := (Below.refl _ _).alloc (Nat.le_refl _) _
    exact ⟨wz.heap.size, rfl, ⟨a2, ⟨F, k2, HE.out, ⟨⟨a1, k1, heap_alloc_new wz _, hk1, HSz.out.below hO⟩⟩, HOz.out.alloc _, fun f hf => ⟨((HF4.out f hf).1).below hB, (HF4.out f hf).2⟩⟩, HBz.out.size⟩, hB⟩
end Go.Proofs.YtiegadfhgccliaaGreatDoor
namespace Go.Proofs
open Go.Shelf
def Tryz.clone65_ren : Go.Shelf.Ren := ⟨fun | 5 => 65 | 7 => 66 | n => n, fun | 23 => 97 | 25 => 9 | 3 => 51 | 4 => 4 | 20 => 20 | n => n, fun | n => n⟩
theorem Tryz.clone65 : Go.Proofs.SlLaysW.n5 Tryz.prog Tryz.clone65_ren := {
  mixed := by kernel_rfl
  f5 := ⟨Tryz.f65.name, by decide, Tryz.func65.trans (congrArg some (by kernel_rfl))⟩
  f7 := Tryz.func66.trans (congrArg some (by kernel_rfl))
  t4 := Tryz.underlying4
  a4 := Tryz.isAgg4
  z4 := Tryz.sizeOf4
  v4 := Tryz.zeroValue4
  t20 := Tryz.underlying20
  a20 := Tryz.isAgg20
  z20 := Tryz.sizeOf20
  v20 := Tryz.zeroValue20
  t23 := Tryz.underlying97
  a23 := Tryz.isAgg97
  z23 := Tryz.sizeOf97
  v23 := Tryz.zeroValue97 }
end Go.Proofs
namespace Go.Proofs.YtiegadfhgccliaaGreatDoor
open Go.RowKit Go.Lib
open Go.ChangeMaps (setBlock)

set_option maxRecDepth 100000 in
set_option maxHeartbeats 4000000 in
/-- Copy. -/
theorem tree_copy (w : World) {tb mb : Nat} {T : TS} (hT : TreeP w tb mb T) :
    Calls Tryz.prog 36 #[.pointer (some ⟨tb, 0, none⟩)] w fun e w' => ∃ cb cm, e = .returned (.pointer (some ⟨cb, 0, none⟩)) ∧ TreeP w' cb cm T ∧ w.heap.size ≤ cb ∧ w.heap.size ≤ cm ∧ Below w.heap.size w w' := by
  obtain ⟨L, hp, hA⟩ := hT
  obtain ⟨es, clock, hb, hst, hM⟩ := hA.map
  have hc0 := hA.c0
  have hc1 := hA.c1
  have htb := hA.lt
  have HC : Hid (∀ W : World, W.heap[mb]? = some (.map es clock) → Calls Tryz.prog 65 #[.map (some mb)] W fun e w' => e = .returned (.map (some W.heap.size)) ∧ w' = W.alloc (.map es clock)) := fun W h => AnyW.maps_Clone Tryz.clone65 mb es clock W h
  have HBk := Lib.hid hb
  have HP := Lib.hid hp
  have HSt := Lib.hid hst
  have HM := Lib.hid hM
  clear hb hp hst hM hA
  go_enter Tryz.func36, Tryz.ntmps36
  go_upto_region 3 with (fail)
  go_region_held3 (fun w' => w'.cell? ⟨tb, 0, none⟩ = some (.map (some mb)) ∧ w'.cell? ⟨tb, 1, none⟩ = some (.int .i64 T.nx)) (first | go_keep | (go_split_ands; exact ⟨hc0, hc1⟩)) (first | (go_at_call 65; refine (HC.out _ (by exact HBk.out)).mono ?_; rintro e w' ⟨rfl, rfl⟩))
  all_goals
    go_wp2
    go_ret
    have hsz : (w.alloc (.map es clock)).heap.size = w.heap.size + 1 := by simp
    have h1 := heap_alloc_new (w.alloc (.map es clock)) (.cells #[.map (some w.heap.size), .int .i64 T.nx] 99)
    rw [hsz] at h1
    have h2 := (((Below.refl (w.alloc (.map es clock)).heap.size _).alloc (Nat.le_refl _) (.cells #[.map (some w.heap.size), .int .i64 T.nx] 99)).block w.heap.size (by omega)).trans (heap_alloc_new w (.map es clock))
    have hB := ((Below.refl w.heap.size w).alloc (Nat.le_refl _) (.map es clock)).alloc (by omega) (.cells #[.map (some w.heap.size), .int .i64 T.nx] 99)
    exact ⟨w.heap.size + 1, w.heap.size, rfl, ⟨L, HP.out, ⟨h1, ⟨es, clock, h2, HSt.out, HM.out⟩⟩⟩, by omega, Nat.le_refl _, below_drewN' hB 1⟩
end Go.Proofs.YtiegadfhgccliaaGreatDoor
namespace Go.Proofs
open Go.Shelf
def Tryz.clone37_ren : Go.Shelf.Ren := ⟨fun | 5 => 37 | 7 => 66 | n => n, fun | 23 => 78 | 25 => 3 | 3 => 47 | 4 => 4 | 20 => 20 | n => n, fun | n => n⟩
theorem Tryz.clone37 : Go.Proofs.SlLaysW.n5 Tryz.prog Tryz.clone37_ren := {
  mixed := by kernel_rfl
  f5 := ⟨Tryz.f37.name, by decide, Tryz.func37.trans (congrArg some (by kernel_rfl))⟩
  f7 := Tryz.func66.trans (congrArg some (by kernel_rfl))
  t4 := Tryz.underlying4
  a4 := Tryz.isAgg4
  z4 := Tryz.sizeOf4
  v4 := Tryz.zeroValue4
  t20 := Tryz.underlying20
  a20 := Tryz.isAgg20
  z20 := Tryz.sizeOf20
  v20 := Tryz.zeroValue20
  t23 := Tryz.underlying78
  a23 := Tryz.isAgg78
  z23 := Tryz.sizeOf78
  v23 := Tryz.zeroValue78 }
end Go.Proofs
namespace Go.Proofs.YtiegadfhgccliaaGreatDoor
open Go.RowKit Go.Lib
open Go.ChangeMaps (setBlock)

set_option maxRecDepth 100000 in
set_option maxHeartbeats 4000000 in
theorem fold_new (w : World) : Calls Tryz.prog 9 #[] w fun e w' => ∃ sb tb mb lb, e = .returned (.pointer (some ⟨sb, 0, none⟩)) ∧ FoldP w' sb tb mb lb ⟨⟨[], 1⟩, []⟩ ∧ w.heap.size ≤ sb ∧ w.heap.size ≤ tb ∧ w.heap.size ≤ mb ∧ w.heap.size ≤ lb ∧ Below w.heap.size w w' := by
  have hmm := @run_makeMap Tryz.prog
  have HNw := Lib.hid (tree_new w)
  go_enter Tryz.func9, Tryz.ntmps9
  go_wp2_with fail
  refine HNw.out.mono ?_
  rintro e w1 ⟨tb, mb, rfl, hT, htb, hmb, hB⟩
  have HT := Lib.hid hT
  have HB := Lib.hid hB
  have hl := hT.lt
  clear hT hB
  go_wp2
  go_ret
  have hs : (w1.alloc (.map #[] 0)).heap.size = w1.heap.size + 1 := by simp
  have hM := MapIs.new intKey w1
  have h1 := heap_alloc_new (w1.alloc (.map #[] 0)) (.cells #[.pointer (some ⟨tb, 0, none⟩), .map (some w1.heap.size)] 80)
  rw [hs] at h1
  have hBe := HB.out.size
  have hB2 : Below w1.heap.size w1 ((w1.alloc (.map #[] 0)).alloc (.cells #[.pointer (some ⟨tb, 0, none⟩), .map (some w1.heap.size)] 80)) := ((Below.refl _ _).alloc (Nat.le_refl _) _).alloc (by omega) _
  refine ⟨w1.heap.size + 1, tb, mb, w1.heap.size, rfl, ⟨h1, HT.out.below hB2, ⟨[], .refl _, hM.of_block (Below.heap_alloc _ _ _ (by omega)), by simp⟩, by omega⟩, by omega, htb, hmb, hBe, blw HB.out hB2⟩
set_option maxRecDepth 100000 in
set_option maxHeartbeats 4000000 in
theorem fold_copy (w : World) {sb tb mb lb : Nat} {S : FS} (hS : FoldP w sb tb mb lb S) :
    Calls Tryz.prog 13 #[.pointer (some ⟨sb, 0, none⟩)] w fun e w' => ∃ s2 t2 m2 l2, e = .returned (.pointer (some ⟨s2, 0, none⟩)) ∧ FoldP w' s2 t2 m2 l2 S ∧ w.heap.size ≤ s2 ∧ w.heap.size ≤ t2 ∧ w.heap.size ≤ m2 ∧ w.heap.size ≤ l2 ∧ Below w.heap.size w w' := by
  obtain ⟨c0, c1⟩ := hS.cells
  obtain ⟨F, f1, f2, f3⟩ := hS.f
  obtain ⟨es, clock, hb, hst, hM⟩ := f2
  have hlt := hS.lt
  have HC : Hid (∀ W : World, W.heap[lb]? = some (.map es clock) → Calls Tryz.prog 37 #[.map (some lb)] W fun e w' => e = .returned (.map (some W.heap.size)) ∧ w' = W.alloc (.map es clock)) := fun W h => AnyW.maps_Clone Tryz.clone37 lb es clock W h
  have HTc : Hid (∀ W : World, Below w.heap.size w W → Calls Tryz.prog 36 #[.pointer (some ⟨tb, 0, none⟩)] W fun e w' => ∃ cb cm, e = .returned (.pointer (some ⟨cb, 0, none⟩)) ∧ TreeP w' cb cm S.t ∧ W.heap.size ≤ cb ∧ W.heap.size ≤ cm ∧ Below W.heap.size W w') := fun W h => tree_copy W (hS.t.below h)
  have HBk := Lib.hid hb
  have HP := Lib.hid f1
  have HSt := Lib.hid hst
  have HM := Lib.hid hM
  have HF := Lib.hid f3
  clear hb f1 hst hM f3 hS
  go_enter Tryz.func13, Tryz.ntmps13
  go_upto_region 3 with (fail)
  go_region_held3 (fun w' => w'.cell? ⟨sb, 0, none⟩ = some (.pointer (some ⟨tb, 0, none⟩)) ∧ w'.cell? ⟨sb, 1, none⟩ = some (.map (some lb))) (first | go_keep | exact ⟨c0, c1⟩ | exact ⟨(World.cell?_of_block (hB.block sb hlt.1)).trans c0, (World.cell?_of_block (hB.block sb hlt.1)).trans c1⟩) (first | (go_at_call 36; refine (HTc.out _ (by first | exact below_drewN' (Below.refl _ _) 1 | exact Below.refl _ _ | exact (below_drewN' (Below.refl _ _) 1).alloc (Nat.le_refl _) _ | exact (Below.refl _ _).alloc (Nat.le_refl _) _)).mono ?_; rintro e w' ⟨cb, cm, rfl, hT, hcb, hcm, hB⟩) | (go_at_call 37; refine (HC.out _ (by first | exact HBk.out | exact (hB.block lb (by first | exact hlt.2.2.2 | (simp; omega))).trans HBk.out)).mono ?_; rintro e w' ⟨rfl, rfl⟩))
  all_goals
    go_wp2
    go_ret
    have HBw : Below w.heap.size w w' := (show Below w.heap.size w w.drew from below_drewN' (Below.refl _ _) 1).trans hB
    have hsw := HBw.size
    have hsz : (w'.alloc (.map es clock)).heap.size = w'.heap.size + 1 := by simp
    have h1 := heap_alloc_new (w'.alloc (.map es clock)) (.cells #[.pointer (some ⟨cb, 0, none⟩), .map (some w'.heap.size)] 80)
    rw [hsz] at h1
    have hB2 : Below w'.heap.size w' ((w'.alloc (.map es clock)).alloc (.cells #[.pointer (some ⟨cb, 0, none⟩), .map (some w'.heap.size)] 80)) := ((Below.refl _ _).alloc (Nat.le_refl _) _).alloc (by omega) _
    have h2 := (((Below.refl (w'.alloc (.map es clock)).heap.size _).alloc (Nat.le_refl _) (.cells #[.pointer (some ⟨cb, 0, none⟩), .map (some w'.heap.size)] 80)).block w'.heap.size (by omega)).trans (heap_alloc_new w' (.map es clock))
    have hBw2 := blw HBw hB2
    have hcl := hT.lt
    exact ⟨w'.heap.size + 1, cb, cm, w'.heap.size, rfl, ⟨h1, hT.below hB2, ⟨F, HP.out, ⟨es, clock, h2, HSt.out, HM.out⟩, fun f hf => ⟨(HF.out f hf).1.below hBw2, (HF.out f hf).2⟩⟩, by omega⟩, by omega, hcb, hcm, hsw, hBw2⟩
set_option maxRecDepth 100000 in
set_option maxHeartbeats 4000000 in
/-- file. -/
theorem fold_file (p : ByteArray) (w : World) (hp : p.size ≤ 100000) {sb tb mb lb : Nat} {S : FS} (hS : FoldP w sb tb mb lb S) (hI : TInv S.t) (hm : MLen w) {i x : Int} (hx : fileS S.t p = (i, x)) :
    Calls Tryz.prog 29 #[.pointer (some ⟨sb, 0, none⟩), .string p] w fun e w' => e = .returned (.tuple #[.int .i64 i, .int .i64 x]) ∧ Below w.heap.size w w' := by
  obtain ⟨i0, d0, x0, hl⟩ : ∃ i d x, lookS (fnd · S.t.L) p = (i, d, x) := ⟨_, _, _, rfl⟩
  have HLk := Lib.hid (tree_look p w (by unfold maxLen; omega) hS.t hI.rises.apart hm hl)
  obtain ⟨c0, c1⟩ := hS.cells
  unfold fileS at hx
  rw [hl] at hx
  dsimp only at hx
  clear hS hI hm hl
  by_cases h0 : x0 = 0
  · subst h0
    cases d0 with
    | true =>
      rw [if_pos ⟨rfl, rfl⟩] at hx
      cases hx
      go_enter Tryz.func29, Tryz.ntmps29
      go_wp2_with fail
      refine HLk.out.mono ?_
      rintro e w1 ⟨rfl, hB1⟩
      go_wp2
      go_ret2
      exact ⟨rfl, hB1⟩
    | false =>
      rw [if_neg (by simp)] at hx
      cases hx
      go_enter Tryz.func29, Tryz.ntmps29
      go_wp2_with fail
      refine HLk.out.mono ?_
      rintro e w1 ⟨rfl, hB1⟩
      go_wp2
      go_ret2
      exact ⟨rfl, hB1⟩
  · rw [if_neg (fun h => h0 h.1)] at hx
    injection hx with hi hx'
    subst hi
    subst hx'
    have h1 : (x0 == 0) = false := by rw [beq_eq_false_iff_ne]; exact h0
    clear h0
    go_enter Tryz.func29, Tryz.ntmps29
    go_wp2_with fail
    refine HLk.out.mono ?_
    rintro e w1 ⟨rfl, hB1⟩
    go_wp2
    go_ret2
    exact ⟨rfl, hB1⟩
/-- An event as a value. -/
abbrev evV (e : Ev) (a : Option Addr) (c : Nat) : Value := .agg #[.int .i64 e.op, .string e.path, .string e.to, .int .i64 e.off, .int .i64 e.size, .slice a e.data.length c]
theorem b6_cells {w : World} {B : Nat} {a b c d e f : Value} {t : TypeId} (h : w.heap[B]? = some (.cells #[a, b, c, d, e, f] t (0, 0))) : w.cell? ⟨B, 0, none⟩ = some a ∧ w.cell? ⟨B, 1, none⟩ = some b ∧ w.cell? ⟨B, 2, none⟩ = some c ∧ w.cell? ⟨B, 3, none⟩ = some d ∧ w.cell? ⟨B, 4, none⟩ = some e ∧ w.cell? ⟨B, 5, none⟩ = some f := by
  unfold World.cell?
  rw [h]
  exact ⟨rfl, rfl, rfl, rfl, rfl, rfl⟩
set_option maxRecDepth 100000 in
set_option maxHeartbeats 4000000 in
/-- write. -/
theorem fold_write (e0 : Ev) (a : Option Addr) (c : Nat) (w : World) (hp : e0.path.size ≤ 100000) (hd : e0.data.length ≤ 1000000) {sb tb mb lb : Nat} {S : FS} (hS : FoldP w sb tb mb lb S) (hI : TInv S.t) (hm : MLen w) {x : Int}
    (hx : (if (fileS S.t e0.path).2 = 0 then (if 1024 < e0.data.length then 1 else if e0.off < 0 ∨ 1099511627776 - (e0.data.length : Int) < e0.off then 9 else 0) else (fileS S.t e0.path).2) = x) :
    Calls Tryz.prog 41 #[.pointer (some ⟨sb, 0, none⟩), evV e0 a c] w fun e w' => e = .returned (.int .i64 x) ∧ Below w.heap.size w w' := by
  obtain ⟨i0, x0, hf⟩ : ∃ i x, fileS S.t e0.path = (i, x) := ⟨_, _, rfl⟩
  have HF : Hid (∀ W, Below w.heap.size w W → Calls Tryz.prog 29 #[.pointer (some ⟨sb, 0, none⟩), .string e0.path] W fun e w' => e = .returned (.tuple #[.int .i64 i0, .int .i64 x0]) ∧ Below W.heap.size W w') := fun W h => fold_file e0.path W hp (hS.below h) hI (hm.below h) hf
  rw [hf] at hx
  dsimp only at hx
  obtain ⟨op, path, dst, off, size, data⟩ := e0
  dsimp only [evV] at hx HF hd ⊢
  clear hS hI hm hf
  have hbx := heap_alloc_new w (.cells #[.int .i64 op, .string path, .string dst, .int .i64 off, .int .i64 size, .slice a data.length c] 31)
  have hB0 : Below w.heap.size w (w.alloc (.cells #[.int .i64 op, .string path, .string dst, .int .i64 off, .int .i64 size, .slice a data.length c] 31)) := (Below.refl _ _).alloc (Nat.le_refl _) _
  have hsz : (w.alloc (.cells #[.int .i64 op, .string path, .string dst, .int .i64 off, .int .i64 size, .slice a data.length c] 31)).heap.size = w.heap.size + 1 := by simp
  generalize data.length = n at *
  have HX := Lib.hid hx
  clear hx
  go_enter Tryz.func41, Tryz.ntmps41
  go_upto_region 1 with (fail)
  generalize w.alloc (.cells #[.int .i64 op, .string path, .string dst, .int .i64 off, .int .i64 size, .slice a n c] 31) = W at *
  obtain ⟨e0, e1, e2, e3, e4, e5⟩ := b6_cells hbx
  go_wp2_with fail
  refine (HF.out _ hB0).mono ?_
  rintro e w1 ⟨rfl, hB1⟩
  have hbx1 := (hB1.block w.heap.size (by omega)).trans hbx
  have hBw := Lib.hid (blw hB0 hB1)
  clear e0 e1 e2 e3 e4 e5 hbx hB1 hB0
  obtain ⟨e0, e1, e2, e3, e4, e5⟩ := b6_cells hbx1
  clear hbx1
  by_cases h0 : x0 = 0
  · subst h0
    by_cases h1 : ((n : Nat) : Int) > 1024
    · go_wp2
      go_ret
      have := HX.out
      rw [if_pos trivial, if_pos (by omega)] at this
      subst this
      exact ⟨rfl, hBw.out⟩
    · by_cases h2 : off < 0
      · go_wp2
        go_ret
        have := HX.out
        rw [if_pos trivial, if_neg (by omega), if_pos (.inl h2)] at this
        subst this
        exact ⟨rfl, hBw.out⟩
      · by_cases h3 : off > 1099511627776 - (n : Int)
        · go_wp2
          go_ret
          have := HX.out
          rw [if_pos trivial, if_neg (by omega), if_pos (.inr (by omega))] at this
          subst this
          exact ⟨rfl, hBw.out⟩
        · go_wp2
          go_ret
          have := HX.out
          rw [if_pos trivial, if_neg (by omega), if_neg (by omega)] at this
          subst this
          exact ⟨rfl, hBw.out⟩
  · have h1 : (x0 == 0) = false := by rw [beq_eq_false_iff_ne]; exact h0
    have h2 : (x0 != 0) = true := by simp [h0]
    have HX0 : Hid (x0 = x) := Lib.hid (by have := HX.out; rw [if_neg h0] at this; exact this)
    clear h0
    go_wp2
    go_ret
    exact ⟨by rw [← HX0.out]; rfl, hBw.out⟩
set_option maxRecDepth 100000 in
set_option maxHeartbeats 4000000 in
/-- trunc. -/
theorem fold_trunc (e0 : Ev) (a : Option Addr) (c : Nat) (w : World) (hp : e0.path.size ≤ 100000) {sb tb mb lb : Nat} {S : FS} (hS : FoldP w sb tb mb lb S) (hI : TInv S.t) (hm : MLen w) {x : Int}
    (hx : (if (fileS S.t e0.path).2 = 0 then (if e0.size < 0 ∨ 1099511627776 < e0.size then 9 else 0) else (fileS S.t e0.path).2) = x) :
    Calls Tryz.prog 42 #[.pointer (some ⟨sb, 0, none⟩), evV e0 a c] w fun e w' => e = .returned (.int .i64 x) ∧ Below w.heap.size w w' := by
  obtain ⟨i0, x0, hf⟩ : ∃ i x, fileS S.t e0.path = (i, x) := ⟨_, _, rfl⟩
  have HF : Hid (∀ W, Below w.heap.size w W → Calls Tryz.prog 29 #[.pointer (some ⟨sb, 0, none⟩), .string e0.path] W fun e w' => e = .returned (.tuple #[.int .i64 i0, .int .i64 x0]) ∧ Below W.heap.size W w') := fun W h => fold_file e0.path W hp (hS.below h) hI (hm.below h) hf
  rw [hf] at hx
  dsimp only at hx
  obtain ⟨op, path, dst, off, size, data⟩ := e0
  dsimp only [evV] at hx HF ⊢
  clear hS hI hm hf
  have hbx := heap_alloc_new w (.cells #[.int .i64 op, .string path, .string dst, .int .i64 off, .int .i64 size, .slice a data.length c] 31)
  have hB0 : Below w.heap.size w (w.alloc (.cells #[.int .i64 op, .string path, .string dst, .int .i64 off, .int .i64 size, .slice a data.length c] 31)) := (Below.refl _ _).alloc (Nat.le_refl _) _
  have hsz : (w.alloc (.cells #[.int .i64 op, .string path, .string dst, .int .i64 off, .int .i64 size, .slice a data.length c] 31)).heap.size = w.heap.size + 1 := by simp
  generalize data.length = n at *
  have HX := Lib.hid hx
  clear hx
  go_enter Tryz.func42, Tryz.ntmps42
  go_upto_region 1 with (fail)
  generalize w.alloc (.cells #[.int .i64 op, .string path, .string dst, .int .i64 off, .int .i64 size, .slice a n c] 31) = W at *
  obtain ⟨e0, e1, e2, e3, e4, e5⟩ := b6_cells hbx
  go_wp2_with fail
  refine (HF.out _ hB0).mono ?_
  rintro e w1 ⟨rfl, hB1⟩
  have hbx1 := (hB1.block w.heap.size (by omega)).trans hbx
  have hBw := Lib.hid (blw hB0 hB1)
  clear e0 e1 e2 e3 e4 e5 hbx hB1 hB0
  obtain ⟨e0, e1, e2, e3, e4, e5⟩ := b6_cells hbx1
  clear hbx1
  by_cases h0 : x0 = 0
  · subst h0
    by_cases h2 : size < 0
    · go_wp2
      go_ret
      have := HX.out
      rw [if_pos trivial, if_pos (.inl h2)] at this
      subst this
      exact ⟨rfl, hBw.out⟩
    · by_cases h3 : size > 1099511627776
      · go_wp2
        go_ret
        have := HX.out
        rw [if_pos trivial, if_pos (.inr (by omega))] at this
        subst this
        exact ⟨rfl, hBw.out⟩
      · go_wp2
        go_ret
        have := HX.out
        rw [if_pos trivial, if_neg (by omega)] at this
        subst this
        exact ⟨rfl, hBw.out⟩
  · have h1 : (x0 == 0) = false := by rw [beq_eq_false_iff_ne]; exact h0
    have HX0 : Hid (x0 = x) := Lib.hid (by have := HX.out; rw [if_neg h0] at this; exact this)
    clear h0
    go_wp2
    go_ret
    exact ⟨by rw [← HX0.out]; rfl, hBw.out⟩
end Go.Proofs.YtiegadfhgccliaaGreatDoor
