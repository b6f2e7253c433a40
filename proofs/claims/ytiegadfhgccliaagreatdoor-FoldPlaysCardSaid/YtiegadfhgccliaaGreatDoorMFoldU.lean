/- Walks of the document's bodies: PartMay, BodyMay, without. -/
import Derived.Test.YtiegadfhgccliaaGreatDoorMFoldC
import Derived.Test.YtiegadfhgccliaaGreatDoorMBodyZ
import Derived.Test.YtiegadfhgccliaaGreatDoorMTreeN
import Derived.Test.YtiegadfhgccliaaGreatDoorMBodyV
namespace Go.Proofs.YtiegadfhgccliaaGreatDoor
open Go.RowKit Go.Lib
open Go.ChangeMaps (setBlock)

theorem file_has {S : FS} (h : FInv S) {p : ByteArray} (hf : (fileS S.t p).2 = 0) : ∃ b, ((fileS S.t p).1, b) ∈ S.fs := by
  unfold fileS at hf ⊢
  obtain ⟨i0, d0, x0, hl⟩ : ∃ i d x, lookS (fnd · S.t.L) p = (i, d, x) := ⟨_, _, _, rfl⟩
  rw [hl] at hf ⊢
  dsimp only at hf ⊢
  by_cases h0 : x0 = 0 ∧ d0 = true
  · rw [if_pos h0] at hf; cases hf
  · rw [if_neg h0] at hf ⊢
    have hf : x0 = 0 := hf
    subst hf
    obtain ⟨P, hP, hor⟩ := lookS_ok hl
    rcases hor with ⟨_, _, hd⟩ | ⟨_, n, hn, hid, hd⟩
    · exact absurd ⟨rfl, hd⟩ h0
    · obtain ⟨hm, _⟩ := fnd_some hn
      have hd0 : n.dir = false := by
        cases hdd : n.dir with
        | false => rfl
        | true => exact absurd ⟨rfl, by rw [hd, hdd]⟩ h0
      obtain ⟨b, hb⟩ := h.has n hm hd0
      exact ⟨b, by rw [hid]; exact hb⟩
theorem writeS_bad {b : Bd} {off : Int} {l : List Bp} (h : l.all fitsP = false) : writeS b off l = (⟨0, []⟩, 1) := by
  unfold writeS
  rw [if_neg (by rw [h]; simp)]
theorem putS_bad {S : FS} {e : Ev} {l : List Bp} (h : l.all fitsP = false) : putS S e l = (S, 1) := by
  unfold putS
  split
  · rfl
  · rw [writeS_bad h, if_neg (by decide)]
theorem putS_go {S : FS} {e : Ev} {l : List Bp} (h : l.all fitsP = true → ¬ (0 < e.data.length ∧ sumP l ≠ (e.data.length : Int))) :
    putS S e l = (if (writeS ((bodyOf S.fs (fileS S.t e.path).1).getD default) e.off l).2 = 0 then (⟨S.t, setF S.fs (fileS S.t e.path).1 (writeS ((bodyOf S.fs (fileS S.t e.path).1).getD default) e.off l).1⟩, 0) else (S, (writeS ((bodyOf S.fs (fileS S.t e.path).1).getD default) e.off l).2)) := by
  cases hf : l.all fitsP with
  | true => unfold putS; rw [if_neg (h hf)]
  | false => rw [putS_bad hf, writeS_bad hf, if_neg (by decide)]
theorem putS_no {S : FS} {e : Ev} {l : List Bp} {r : Int} (hr : l.all fitsP = true → r = sumP l) (h0 : 0 < e.data.length) (h : r ≠ (e.data.length : Int)) : putS S e l = (S, 1) := by
  cases hf : l.all fitsP with
  | true => unfold putS; rw [if_pos ⟨h0, by rw [← hr hf]; exact h⟩]
  | false => exact putS_bad hf
theorem b2_facts {W : World} {B : Nat} {a b : Value} {t : TypeId} (h : W.heap[B]? = some (.cells #[a, b] t (0, 0))) : W.cell? ⟨B, 0, none⟩ = some a ∧ W.cell? ⟨B, 1, none⟩ = some b := by
  unfold World.cell?
  rw [h]
  exact ⟨rfl, rfl⟩
theorem b2_end {W : World} {B : Nat} {a b : Value} {t : TypeId} (h : W.heap[B]? = some (.cells #[a, b] t (0, 0))) (x y : Value) : ((W.setCell ⟨B, 0, none⟩ x).setCell ⟨B, 1, none⟩ y).heap[B]? = some (.cells #[x, y] t (0, 0)) := heap_setCell_at (heap_setCell_at h 0 x) 1 y
theorem b2_froz {W : World} {B : Nat} {a b : Value} {t : TypeId} (h : W.heap[B]? = some (.cells #[a, b] t (0, 0))) : W.frozen? ⟨B, 0, none⟩ = false ∧ ∀ v, (W.setCell ⟨B, 0, none⟩ v).cell? ⟨B, 1, none⟩ = some b ∧ (W.setCell ⟨B, 0, none⟩ v).frozen? ⟨B, 1, none⟩ = false := by
  refine ⟨by unfold World.frozen?; rw [h]; simp, fun v => ?_⟩
  have h1 := heap_setCell_at h 0 v
  constructor
  · unfold World.cell?; rw [h1]; rfl
  · unfold World.frozen?; rw [h1]; simp
set_option maxRecDepth 100000 in
set_option maxHeartbeats 16000000 in
/-- put. -/
theorem fold_put (e0 : Ev) (l : List Bp) (a a2 : Option Addr) (c c2 : Nat) (w : World) (hp : e0.path.size ≤ 100000) (hd : e0.data.length ≤ 1000000) {sb tb mb lb : Nat} {S : FS} (hS : FoldP w sb tb mb lb S) (hI : FInv S) (hm : MLen w)
    (hf : (fileS S.t e0.path).2 = 0) {N : Nat} (hN : FewP N S) (hN2 : N ≤ 1000000000) (hS2 : SlPt w a2 l) (hc2 : l.length ≤ c2) (hl : l.length ≤ 1000000) :
    Calls Tryz.prog 28 #[.pointer (some ⟨sb, 0, none⟩), evV e0 a c, .slice a2 l.length c2] w fun e w' => e = .returned (.int .i64 (putS S e0 l).2) ∧ FoldP w' sb tb mb lb (putS S e0 l).1 ∧ Turn [lb] w w' := by
  obtain ⟨r, hrs, hlong⟩ := long_any l hl
  have hno : 0 < e0.data.length → r ≠ (e0.data.length : Int) → putS S e0 l = (S, 1) := fun h1 h2 => putS_no hrs h1 h2
  have hgo : (e0.data.length = 0 ∨ r = (e0.data.length : Int)) → putS S e0 l = _ := fun h => putS_go (S := S) (e := e0) (l := l) fun hf hx => by
    rcases h with h | h
    · omega
    · exact hx.2 (by rw [← hrs hf]; exact h)
  obtain ⟨i0, x0, hfi⟩ : ∃ i x, fileS S.t e0.path = (i, x) := ⟨_, _, rfl⟩
  have HF : Hid (∀ W, Below w.heap.size w W → Calls Tryz.prog 29 #[.pointer (some ⟨sb, 0, none⟩), .string e0.path] W fun e w' => e = .returned (.tuple #[.int .i64 i0, .int .i64 x0]) ∧ Below W.heap.size W w') := fun W h => fold_file e0.path W hp (hS.below h) hI.t (hm.below h) hfi
  obtain ⟨b0, hb0⟩ := file_has hI hf
  rw [hfi] at hf hb0 hgo
  dsimp only at hf hb0 hgo
  subst hf
  have HLo : Hid (∀ W, Below w.heap.size w W → Calls Tryz.prog 58 #[.slice a2 l.length c2] W fun e w' => e = .returned (.int .i64 r) ∧ Below W.heap.size W w') := fun W h => hlong a2 c2 W (hS2.below h) hc2
  obtain ⟨ba, bc, hbS, hbc, hlk, _⟩ := hS.look hI.once i0
  have hbl := getD_few hN i0
  have HWr : Hid (∀ W, Below w.heap.size w W → Calls Tryz.prog 59 #[.agg #[.int .i64 ((bodyOf S.fs i0).getD default).size, .slice ba ((bodyOf S.fs i0).getD default).parts.length bc], .int .i64 e0.off, .slice a2 l.length c2] W fun e w' => ∃ a3 c3, e = .returned (.tuple #[.agg #[.int .i64 (writeS ((bodyOf S.fs i0).getD default) e0.off l).1.size, .slice a3 (writeS ((bodyOf S.fs i0).getD default) e0.off l).1.parts.length c3], .int .i64 (writeS ((bodyOf S.fs i0).getD default) e0.off l).2]) ∧
      (writeS ((bodyOf S.fs i0).getD default) e0.off l).1.parts.length ≤ c3 ∧ SlPo w' a3 (writeS ((bodyOf S.fs i0).getD default) e0.off l).1.parts ∧ Below W.heap.size W w') := Lib.hid fun W h => by
    refine (bwrite_any ((bodyOf S.fs i0).getD default) e0.off l ba a2 bc c2 W (hbS.below h) hbc (by omega) (hS2.below h) hc2 hl).mono ?_
    rintro e w' ⟨v, rfl, hO, hB⟩
    obtain ⟨a3, c3, rfl, hc3, hS3, _⟩ := SlPo.own hO (.inl rfl)
    exact ⟨a3, c3, rfl, hc3, hS3, hB⟩
  obtain ⟨l1, l2, l3, l4⟩ := hS.lt
  obtain ⟨g0, g1⟩ := hS.cells
  have HLk : Hid (∀ W, Below w.heap.size w W → W.cell? ⟨sb, 1, none⟩ = some (.map (some lb)) ∧ (Instr.lookup 78 (.map (some lb)) (.int .i64 i0) false).run Tryz.prog W = .ok (.agg #[.int .i64 ((bodyOf S.fs i0).getD default).size, .slice ba ((bodyOf S.fs i0).getD default).parts.length bc]) W) := fun W h => ⟨(h.cell (p := ⟨sb, 1, none⟩) l1).trans g1, hlk W (h.block lb l4)⟩
  have HS := Lib.hid hS
  have HHas := Lib.hid hb0
  generalize hBB : (bodyOf S.fs i0).getD default = BB at *
  obtain ⟨op, path, dst, off, size, data⟩ := e0
  dsimp only [evV] at *
  clear hS hI hm hN hS2 hlk hbS hb0 hlong hrs
  obtain ⟨R, hR⟩ : ∃ R, writeS BB off l = R := ⟨_, rfl⟩
  rw [hR] at HWr hgo
  obtain ⟨⟨rs, rp⟩, rc⟩ := R
  dsimp only at HWr hgo
  have hbx := heap_alloc_new w (.cells #[.int .i64 op, .string path, .string dst, .int .i64 off, .int .i64 size, .slice a data.length c] 31)
  have hB0 : Below w.heap.size w (w.alloc (.cells #[.int .i64 op, .string path, .string dst, .int .i64 off, .int .i64 size, .slice a data.length c] 31)) := (Below.refl _ _).alloc (Nat.le_refl _) _
  have hsz : (w.alloc (.cells #[.int .i64 op, .string path, .string dst, .int .i64 off, .int .i64 size, .slice a data.length c] 31)).heap.size = w.heap.size + 1 := by simp
  generalize hn : data.length = n at *
  obtain ⟨W, hW⟩ : ∃ W, W = w.alloc (.cells #[.int .i64 op, .string path, .string dst, .int .i64 off, .int .i64 size, .slice a n c] 31) := ⟨_, rfl⟩
  rw [← hW] at hbx hB0 hsz
  have hwW : w.heap.size < W.heap.size := by omega
  clear hn hR hBB hbl hbc
  by_cases hn0 : n = 0
  · have hgo := hgo (.inl hn0)
    rw [hgo]
    subst hn0
    clear hgo hno
    have HRf := Lib.hid (Below.refl W.heap.size W)
    obtain ⟨e0, e1, e2, e3, e4, e5⟩ := b6_cells hbx
    go_enter Tryz.func28, Tryz.ntmps28
    go_upto_region 1 with (fail)
    rw [← hW]
    clear hW
    go_quiet (fail)
    have HRq : Hid (Below W.heap.size W (W.drewN nq)) := Lib.hid (below_drewN HRf.out _)
    clear e0 e1 e2 e3 e4 e5
    generalize W.drewN nq = V at *
    have hbV := (HRq.out.block w.heap.size hwW).trans hbx
    obtain ⟨e0, e1, e2, e3, e4, e5⟩ := b6_cells hbV
    have hBwV := Lib.hid (blw hB0 HRq.out)
    have hsV := HRq.out.size
    go_wp2_with fail
    refine (HF.out _ hBwV.out).mono ?_
    rintro e V1 ⟨rfl, hB1⟩
    have hbV1 := (hB1.block w.heap.size (by omega)).trans hbV
    have HBw1 := Lib.hid (blw hBwV.out hB1)
    have hs1 := hB1.size
    clear e0 e1 e2 e3 e4 e5 hbV hB1
    obtain ⟨e0, e1, e2, e3, e4, e5⟩ := b6_cells hbV1
    have HBx := Lib.hid hbV1
    have HK : Hid (∀ X, Below V1.heap.size V1 X → X.cell? ⟨sb, 1, none⟩ = some (.map (some lb)) ∧ X.cell? ⟨w.heap.size, 3, none⟩ = some (.int .i64 off) ∧ (Instr.lookup 78 (.map (some lb)) (.int .i64 i0) false).run Tryz.prog X = .ok (.agg #[.int .i64 BB.size, .slice ba BB.parts.length bc]) X) := Lib.hid fun X h => ⟨(HLk.out X (blw HBw1.out h)).1, (h.cell (p := ⟨w.heap.size, 3, none⟩) (by show w.heap.size < _; omega)).trans e3, (HLk.out X (blw HBw1.out h)).2⟩
    have HKw : Hid (∀ X, Below V1.heap.size V1 X → Below w.heap.size w X) := Lib.hid fun X h => blw HBw1.out h
    clear hbV1 e0 e1 e2 e3 e4 e5 g0 g1
    go_upto_region 4 with (fail)
    go_cut [9, 10] from 4 to 4 (fun v9 v10 wx => ∃ (g : Nat) (a3 : Option Addr) (c3 : Nat), v9 = .pointer (some ⟨g, 0, none⟩) ∧ v10 = .int .i64 rc ∧ Hid (wx.heap[g]? = some (.cells #[.int .i64 rs, .slice a3 rp.length c3] 47 (0, 0))) ∧ Hid (SlPo wx a3 rp) ∧ rp.length ≤ c3 ∧ Hid (Below V1.heap.size V1 wx) ∧ V1.heap.size ≤ g)
    case first =>
      go_region_held3 (fun w' => w'.cell? ⟨sb, 1, none⟩ = some (.map (some lb)) ∧ w'.cell? ⟨w.heap.size, 3, none⟩ = some (.int .i64 off) ∧ (Instr.lookup 78 (.map (some lb)) (.int .i64 i0) false).run Tryz.prog w' = .ok (.agg #[.int .i64 BB.size, .slice ba BB.parts.length bc]) w') (first | exact HK.out _ (Below.refl _ _) | exact HK.out _ (below_drewN' (Below.refl _ _) 1) | exact HK.out _ ((Below.refl _ _).alloc (Nat.le_refl _) _) | exact HK.out _ (below_drewN' ((Below.refl _ _).alloc (Nat.le_refl _) _) 1) | exact HK.out _ HBc.out | exact HK.out _ (HBc.out.alloc HBc.out.size _) | exact HK.out _ ((HBc.out.setCell (p := ⟨V1.heap.size, 0, none⟩) (Nat.le_refl _) _).setCell (p := ⟨V1.heap.size, 1, none⟩) (Nat.le_refl _) _)) (first
        | (go_at_call 59; refine (HWr.out _ (HKw.out _ (by first | exact Below.refl _ _ | exact below_drewN' (Below.refl _ _) 1))).mono ?_; rintro e w' ⟨a3, c3, rfl, hc3, hS3, hBc⟩; have HS3 := Lib.hid hS3; have HBc : Hid (Below V1.heap.size V1 w') := Lib.hid (blw (by first | exact Below.refl _ _ | exact below_drewN' (Below.refl _ _) 1) hBc); clear hS3 hBc)
        | (go_at_call 59; refine (HWr.out _ (HKw.out _ (by first | exact (Below.refl _ _).alloc (Nat.le_refl _) _ | exact below_drewN' ((Below.refl _ _).alloc (Nat.le_refl _) _) 1))).mono ?_; rintro e w' ⟨a3, c3, rfl, hc3, hS3, hBc⟩; have HS3 := Lib.hid hS3; have HBc : Hid (Below V1.heap.size V1 w') := Lib.hid (blw (by first | exact (Below.refl _ _).alloc (Nat.le_refl _) _ | exact below_drewN' ((Below.refl _ _).alloc (Nat.le_refl _) _) 1) hBc); have hblk := (hBc.block V1.heap.size (by first | (simp; done) | (show V1.heap.size < (V1.alloc _).heap.size; simp))).trans (heap_alloc_new V1 _); obtain ⟨z0, z1⟩ := b2_facts hblk; obtain ⟨f0, f1⟩ := b2_froz hblk; have HZ := Lib.hid hblk; clear hS3 hBc hblk))
      all_goals
        go_wp2
        go_meet
        case rel => first
          | exact ⟨w'.heap.size, a3, c3, rfl, rfl, Lib.hid (heap_alloc_new w' _), Lib.hid (HS3.out.below ((Below.refl _ _).alloc (Nat.le_refl _) _)), hc3, Lib.hid (HBc.out.alloc HBc.out.size _), HBc.out.size⟩
          | exact ⟨V1.heap.size, a3, c3, rfl, rfl, Lib.hid (b2_end HZ.out _ _), Lib.hid (HS3.out.turnP (bs := [V1.heap.size]) (((Turn.refl _ _).setCell (p := ⟨V1.heap.size, 0, none⟩) (.inl (by simp)) _).setCell (p := ⟨V1.heap.size, 1, none⟩) (.inl (by simp)) _) (by simpa using NoPt.of_cells HZ.out (by decide) (by decide))), hc3, Lib.hid ((HBc.out.setCell (p := ⟨V1.heap.size, 0, none⟩) (Nat.le_refl _) _).setCell (p := ⟨V1.heap.size, 1, none⟩) (Nat.le_refl _) _), Nat.le_refl _⟩
    case rest =>
      obtain ⟨g, a3, c3, rfl, rfl, HG, HS3, hc3, HBc, hgV⟩ := hcut
      generalize wc = X at *
      have hbw := blw HBw1.out HBc.out
      have hSX := HS.out.below hbw
      have hTu := Turn.of_below (bs := [lb]) hbw
      have HSX := Lib.hid hSX
      have HTu := Lib.hid hTu
      by_cases hrc : rc = 0
      · subst hrc
        obtain ⟨ob, hput⟩ := hSX.put i0 ⟨rs, rp⟩ HS3.out hc3
        obtain ⟨p1, p2⟩ := hput X.drew rfl
        obtain ⟨p3, p4⟩ := hput X rfl
        rw [putF_has HHas.out] at p2 p4
        dsimp only at p1 p3
        have HP2 := Lib.hid p2
        have HP4 := Lib.hid p4
        obtain ⟨q0, q1⟩ := b2_facts HG.out
        have hk1 := (HLk.out X hbw).1
        clear hput p2 p4 hSX hTu hbw HK HKw HWr HF HLo
        go_wp2
        go_region
        all_goals
          go_wp2
          go_ret
          try rw [if_pos rfl]
          exact ⟨rfl, by first | exact HP2.out | exact HP4.out, by first | exact (HTu.out.drewN 1).setBlock (.inl (by simp)) ob | exact HTu.out.setBlock (.inl (by simp)) ob⟩
      · have HNr := Lib.hid hrc
        have hrc1 : (rc == 0) = false := by rw [beq_eq_false_iff_ne]; exact hrc
        clear hrc hSX hTu hbw HK HKw HWr HF HLo
        go_wp2
        go_ret
        try rw [if_neg HNr.out]
        exact ⟨rfl, HSX.out, HTu.out⟩
  have hpos : decide (0 < n) = true := by rw [decide_eq_true_eq]; omega
  have hpos2 : decide ((n : Int) > 0) = true := by rw [decide_eq_true_eq]; omega
  have HE : Hid (∀ X, Below W.heap.size W X → X.cell? ⟨w.heap.size, 5, none⟩ = some (.slice a n c)) := Lib.hid fun X h => (b6_cells ((h.block w.heap.size hwW).trans hbx)).2.2.2.2.2
  by_cases hr : r = (n : Int)
  · have hgo := hgo (.inr hr)
    rw [hgo]
    have hq1 : (r == (n : Int)) = true := by rw [beq_iff_eq]; exact hr
    have hq2 : (r != (n : Int)) = false := by simp [hr]
    clear hgo hno hr hn0
    go_enter Tryz.func28, Tryz.ntmps28
    go_upto_region 1 with (fail)
    rw [← hW]
    clear hW
    go_region_held3 (fun w' => w'.cell? ⟨w.heap.size, 5, none⟩ = some (.slice a n c)) (first | exact HE.out _ (Below.refl _ _) | exact HE.out _ (below_drewN' (Below.refl _ _) 1) | exact HE.out _ HBl.out) (first | (go_at_call 58; refine (HLo.out _ (by first | exact hB0 | exact below_drewN' hB0 1)).mono ?_; rintro e w' ⟨rfl, hBl⟩; have HBl : Hid (Below W.heap.size W w') := Lib.hid (blw (by first | exact Below.refl _ _ | exact below_drewN' (Below.refl _ _) 1) hBl); clear hBl))
    all_goals
      generalize hVV : w' = V at *
      have hbV := (HBl.out.block w.heap.size hwW).trans hbx
      obtain ⟨e0, e1, e2, e3, e4, e5⟩ := b6_cells hbV
      have hBwV := Lib.hid (blw hB0 HBl.out)
      have hsV := HBl.out.size
      go_wp2_with fail
      refine (HF.out _ hBwV.out).mono ?_
      rintro e V1 ⟨rfl, hB1⟩
      have hbV1 := (hB1.block w.heap.size (by omega)).trans hbV
      have HBw1 := Lib.hid (blw hBwV.out hB1)
      have hs1 := hB1.size
      clear e0 e1 e2 e3 e4 e5 hbV hB1
      obtain ⟨e0, e1, e2, e3, e4, e5⟩ := b6_cells hbV1
      have HBx := Lib.hid hbV1
      have HK : Hid (∀ X, Below V1.heap.size V1 X → X.cell? ⟨sb, 1, none⟩ = some (.map (some lb)) ∧ X.cell? ⟨w.heap.size, 3, none⟩ = some (.int .i64 off) ∧ (Instr.lookup 78 (.map (some lb)) (.int .i64 i0) false).run Tryz.prog X = .ok (.agg #[.int .i64 BB.size, .slice ba BB.parts.length bc]) X) := Lib.hid fun X h => ⟨(HLk.out X (blw HBw1.out h)).1, (h.cell (p := ⟨w.heap.size, 3, none⟩) (by show w.heap.size < _; omega)).trans e3, (HLk.out X (blw HBw1.out h)).2⟩
      have HKw : Hid (∀ X, Below V1.heap.size V1 X → Below w.heap.size w X) := Lib.hid fun X h => blw HBw1.out h
      clear hbV1 e0 e1 e2 e3 e4 e5 g0 g1
      go_upto_region 4 with (fail)
      go_cut [9, 10] from 4 to 4 (fun v9 v10 wx => ∃ (g : Nat) (a3 : Option Addr) (c3 : Nat), v9 = .pointer (some ⟨g, 0, none⟩) ∧ v10 = .int .i64 rc ∧ Hid (wx.heap[g]? = some (.cells #[.int .i64 rs, .slice a3 rp.length c3] 47 (0, 0))) ∧ Hid (SlPo wx a3 rp) ∧ rp.length ≤ c3 ∧ Hid (Below V1.heap.size V1 wx) ∧ V1.heap.size ≤ g)
      case first =>
        go_region_held3 (fun w' => w'.cell? ⟨sb, 1, none⟩ = some (.map (some lb)) ∧ w'.cell? ⟨w.heap.size, 3, none⟩ = some (.int .i64 off) ∧ (Instr.lookup 78 (.map (some lb)) (.int .i64 i0) false).run Tryz.prog w' = .ok (.agg #[.int .i64 BB.size, .slice ba BB.parts.length bc]) w') (first | exact HK.out _ (Below.refl _ _) | exact HK.out _ (below_drewN' (Below.refl _ _) 1) | exact HK.out _ ((Below.refl _ _).alloc (Nat.le_refl _) _) | exact HK.out _ (below_drewN' ((Below.refl _ _).alloc (Nat.le_refl _) _) 1) | exact HK.out _ HBc.out | exact HK.out _ (HBc.out.alloc HBc.out.size _) | exact HK.out _ ((HBc.out.setCell (p := ⟨V1.heap.size, 0, none⟩) (Nat.le_refl _) _).setCell (p := ⟨V1.heap.size, 1, none⟩) (Nat.le_refl _) _)) (first
          | (go_at_call 59; refine (HWr.out _ (HKw.out _ (by first | exact Below.refl _ _ | exact below_drewN' (Below.refl _ _) 1))).mono ?_; rintro e w' ⟨a3, c3, rfl, hc3, hS3, hBc⟩; have HS3 := Lib.hid hS3; have HBc : Hid (Below V1.heap.size V1 w') := Lib.hid (blw (by first | exact Below.refl _ _ | exact below_drewN' (Below.refl _ _) 1) hBc); clear hS3 hBc)
          | (go_at_call 59; refine (HWr.out _ (HKw.out _ (by first | exact (Below.refl _ _).alloc (Nat.le_refl _) _ | exact below_drewN' ((Below.refl _ _).alloc (Nat.le_refl _) _) 1))).mono ?_; rintro e w' ⟨a3, c3, rfl, hc3, hS3, hBc⟩; have HS3 := Lib.hid hS3; have HBc : Hid (Below V1.heap.size V1 w') := Lib.hid (blw (by first | exact (Below.refl _ _).alloc (Nat.le_refl _) _ | exact below_drewN' ((Below.refl _ _).alloc (Nat.le_refl _) _) 1) hBc); have hblk := (hBc.block V1.heap.size (by first | (simp; done) | (show V1.heap.size < (V1.alloc _).heap.size; simp))).trans (heap_alloc_new V1 _); obtain ⟨z0, z1⟩ := b2_facts hblk; obtain ⟨f0, f1⟩ := b2_froz hblk; have HZ := Lib.hid hblk; clear hS3 hBc hblk))
        all_goals
          go_wp2
          go_meet
          case rel => first
            | exact ⟨w'.heap.size, a3, c3, rfl, rfl, Lib.hid (heap_alloc_new w' _), Lib.hid (HS3.out.below ((Below.refl _ _).alloc (Nat.le_refl _) _)), hc3, Lib.hid (HBc.out.alloc HBc.out.size _), HBc.out.size⟩
            | exact ⟨V1.heap.size, a3, c3, rfl, rfl, Lib.hid (b2_end HZ.out _ _), Lib.hid (HS3.out.turnP (bs := [V1.heap.size]) (((Turn.refl _ _).setCell (p := ⟨V1.heap.size, 0, none⟩) (.inl (by simp)) _).setCell (p := ⟨V1.heap.size, 1, none⟩) (.inl (by simp)) _) (by simpa using NoPt.of_cells HZ.out (by decide) (by decide))), hc3, Lib.hid ((HBc.out.setCell (p := ⟨V1.heap.size, 0, none⟩) (Nat.le_refl _) _).setCell (p := ⟨V1.heap.size, 1, none⟩) (Nat.le_refl _) _), Nat.le_refl _⟩
      case rest =>
        obtain ⟨g, a3, c3, rfl, rfl, HG, HS3, hc3, HBc, hgV⟩ := hcut
        generalize wc = X at *
        have hbw := blw HBw1.out HBc.out
        have hSX := HS.out.below hbw
        have hTu := Turn.of_below (bs := [lb]) hbw
        have HSX := Lib.hid hSX
        have HTu := Lib.hid hTu
        by_cases hrc : rc = 0
        · subst hrc
          obtain ⟨ob, hput⟩ := hSX.put i0 ⟨rs, rp⟩ HS3.out hc3
          obtain ⟨p1, p2⟩ := hput X.drew rfl
          obtain ⟨p3, p4⟩ := hput X rfl
          rw [putF_has HHas.out] at p2 p4
          dsimp only at p1 p3
          have HP2 := Lib.hid p2
          have HP4 := Lib.hid p4
          obtain ⟨q0, q1⟩ := b2_facts HG.out
          have hk1 := (HLk.out X hbw).1
          clear hput p2 p4 hSX hTu hbw HK HKw HWr HF HLo
          go_wp2
          go_region
          all_goals
            go_wp2
            go_ret
            try rw [if_pos rfl]
            exact ⟨rfl, by first | exact HP2.out | exact HP4.out, by first | exact (HTu.out.drewN 1).setBlock (.inl (by simp)) ob | exact HTu.out.setBlock (.inl (by simp)) ob⟩
        · have HNr := Lib.hid hrc
          have hrc1 : (rc == 0) = false := by rw [beq_eq_false_iff_ne]; exact hrc
          clear hrc hSX hTu hbw HK HKw HWr HF HLo
          go_wp2
          go_ret
          try rw [if_neg HNr.out]
          exact ⟨rfl, HSX.out, HTu.out⟩
  · have hno := hno (by omega) hr
    rw [hno]
    have hq1 : (r == (n : Int)) = false := by rw [beq_eq_false_iff_ne]; exact hr
    have hq2 : (r != (n : Int)) = true := by simp [hr]
    clear hgo hno hr hn0
    go_enter Tryz.func28, Tryz.ntmps28
    go_upto_region 1 with (fail)
    rw [← hW]
    clear hW
    go_region_held3 (fun w' => w'.cell? ⟨w.heap.size, 5, none⟩ = some (.slice a n c)) (first | exact HE.out _ (Below.refl _ _) | exact HE.out _ (below_drewN' (Below.refl _ _) 1) | exact HE.out _ HBl.out) (first | (go_at_call 58; refine (HLo.out _ (by first | exact hB0 | exact below_drewN' hB0 1)).mono ?_; rintro e w' ⟨rfl, hBl⟩; have HBl : Hid (Below W.heap.size W w') := Lib.hid (blw (by first | exact Below.refl _ _ | exact below_drewN' (Below.refl _ _) 1) hBl); clear hBl))
    all_goals
      go_wp2
      go_ret
      exact ⟨rfl, HS.out.below (blw hB0 HBl.out), .of_below (blw hB0 HBl.out)⟩
end Go.Proofs.YtiegadfhgccliaaGreatDoor
namespace Go.Proofs.YtiegadfhgccliaaGreatDoor
open Go.RowKit Go.Lib
open Go.ChangeMaps (setBlock)

theorem info_rpt : (Tryz.prog.info? 87).map (fun i => (i.zero, i.size, i.bytes)) = some (some (.agg #[.int .i64 0, .int .i64 0, .int .i64 0, .int .i64 0]), 4, 32) := by kernel_rfl
abbrev ptV (p : Bp) : Value := .agg #[.int .i64 p.off, .int .i64 p.ln, .int .i64 p.ch, .int .i64 p.at_]
theorem b4_cells {w : World} {B : Nat} {a b c d : Value} {t : TypeId} (h : w.heap[B]? = some (.cells #[a, b, c, d] t (0, 0))) : w.cell? ⟨B, 0, none⟩ = some a ∧ w.cell? ⟨B, 1, none⟩ = some b ∧ w.cell? ⟨B, 2, none⟩ = some c ∧ w.cell? ⟨B, 3, none⟩ = some d ∧ ∀ k, w.frozen? ⟨B, k, none⟩ = false := by
  unfold World.cell?
  rw [h]
  exact ⟨rfl, rfl, rfl, rfl, fun k => by unfold World.frozen?; rw [h]; simp⟩
set_option maxRecDepth 100000 in
set_option maxHeartbeats 4000000 in
theorem doc_partmay (p : Bp) (w : World) : Calls Tryz.prog 83 #[ptV p] w fun e w' => e = .returned (.bool (fitsP p)) ∧ Below w.heap.size w w' := by
  obtain ⟨off, ln, ch, at0⟩ := p
  dsimp only [ptV]
  obtain ⟨r, hr⟩ : ∃ r, fitsP ⟨off, ln, ch, at0⟩ = r := ⟨_, rfl⟩
  rw [hr]
  unfold fitsP at hr
  dsimp only at hr
  have HR := Lib.hid hr
  have hbx := heap_alloc_new w (.cells #[.int .i64 off, .int .i64 ln, .int .i64 ch, .int .i64 at0] 87)
  have hB : Below w.heap.size w (w.alloc (.cells #[.int .i64 off, .int .i64 ln, .int .i64 ch, .int .i64 at0] 87)) := (Below.refl _ _).alloc (Nat.le_refl _) _
  clear hr
  go_enter Tryz.func83, Tryz.ntmps83
  go_upto_region 1 with (fail)
  generalize w.alloc (.cells #[.int .i64 off, .int .i64 ln, .int .i64 ch, .int .i64 at0] 87) = V at *
  obtain ⟨e0, e1, e2, e3, -⟩ := b4_cells hbx
  have HB := Lib.hid hB
  clear hbx hB
  by_cases h1 : ln ≥ 1
  · by_cases h2 : ln ≤ 64
    · have hw : wrap64 (64 - ln) = 64 - ln := w64 (by omega) (by omega)
      by_cases h3 : ch ≥ 1
      · by_cases h4 : ch ≤ 4611686018427387904
        · by_cases h5 : at0 ≥ 0
          · by_cases h6 : at0 ≤ 64 - ln
            · go_wp2
              go_ret
              exact ⟨by rw [← HR.out]; simp [show 1 ≤ ln by omega, h2, show 1 ≤ ch by omega, h4, show 0 ≤ at0 by omega, h6], HB.out⟩
            · have h6' : decide (at0 ≤ 64 - ln) = false := by simpa using h6
              go_wp2
              go_ret
              exact ⟨by rw [← HR.out]; simp [h6], HB.out⟩
          · have h5' : decide (at0 ≥ 0) = false := by simpa using h5
            go_wp2
            go_ret
            exact ⟨by rw [← HR.out, decide_eq_false (show ¬ (0 : Int) ≤ at0 by omega)]; simp, HB.out⟩
        · have h4' : decide (ch ≤ 4611686018427387904) = false := by simpa using h4
          go_wp2
          go_ret
          exact ⟨by rw [← HR.out, decide_eq_false (show ¬ ch ≤ (4611686018427387904 : Int) by omega)]; simp, HB.out⟩
      · have h3' : decide (ch ≥ 1) = false := by simpa using h3
        go_wp2
        go_ret
        exact ⟨by rw [← HR.out, decide_eq_false (show ¬ (1 : Int) ≤ ch by omega)]; simp, HB.out⟩
    · have h2' : decide (ln ≤ 64) = false := by simpa using h2
      go_wp2
      go_ret
      exact ⟨by rw [← HR.out, decide_eq_false (show ¬ ln ≤ (64 : Int) by omega)]; simp, HB.out⟩
  · have h1' : decide (ln ≥ 1) = false := by simpa using h1
    go_wp2
    go_ret
    exact ⟨by rw [← HR.out, decide_eq_false (show ¬ (1 : Int) ≤ ln by omega)]; simp, HB.out⟩
theorem mayFrom_snoc_no {size : Int} : ∀ {l : List Bp} {a : Int} {k : Nat} {p : Bp}, l[k]? = some p → (∀ b, endF a (l.take k) = b → (fitsP p && decide (b ≤ p.off) && decide (p.off ≤ size - p.ln)) = false) → mayFrom size a l = false
  | [], _, _, _, h, _ => by simp at h
  | q :: r, a, 0, p, h, hno => by
    simp at h
    subst h
    have := hno a rfl
    unfold mayFrom
    rw [this, Bool.false_and]
  | q :: r, a, k + 1, p, h, hno => by
    unfold mayFrom
    rw [mayFrom_snoc_no (l := r) (k := k) (by simpa using h) (fun b hb => hno b (by simpa [endF] using hb)), Bool.and_false]
theorem endF_snoc (a : Int) : ∀ (l : List Bp) (p : Bp), endF a (l ++ [p]) = p.off + p.ln
  | [], _ => rfl
  | q :: r, p => by show endF (q.off + q.ln) (r ++ [p]) = _; exact endF_snoc _ r p
set_option maxRecDepth 100000 in
set_option maxHeartbeats 8000000 in
theorem doc_bodymay (b : Bd) (a : Option Addr) (c : Nat) (w : World) (hS : SlPt w a b.parts) (hc : b.parts.length ≤ c) (hl : b.parts.length ≤ 1000000000) :
    Calls Tryz.prog 81 #[.agg #[.int .i64 b.size, .slice a b.parts.length c]] w fun e w' => e = .returned (.bool (mayBd b)) ∧ Below w.heap.size w w' := by
  obtain ⟨size, L⟩ := b
  dsimp only at hS hc hl ⊢
  obtain ⟨r, hr⟩ : ∃ r, mayBd ⟨size, L⟩ = r := ⟨_, rfl⟩
  rw [hr]
  unfold mayBd at hr
  dsimp only at hr
  have HR := Lib.hid hr
  have hbx := heap_alloc_new w (.cells #[.int .i64 size, .slice a L.length c] 68)
  have hB : Below w.heap.size w (w.alloc (.cells #[.int .i64 size, .slice a L.length c] 68)) := (Below.refl _ _).alloc (Nat.le_refl _) _
  have HS := Lib.hid hS
  have hsv : (w.alloc (.cells #[.int .i64 size, .slice a L.length c] 68)).heap.size = w.heap.size + 1 := by simp
  clear hr hS
  go_enter Tryz.func81, Tryz.ntmps81
  go_upto_region 1 with (fail)
  generalize w.alloc (.cells #[.int .i64 size, .slice a L.length c] 68) = V at *
  have HBx := Lib.hid hbx
  obtain ⟨e0, e1⟩ := b2_facts hbx
  have HB := Lib.hid hB
  clear hbx hB
  by_cases h1 : size < 0
  · go_wp2
    go_ret
    exact ⟨by rw [← HR.out, decide_eq_false (show ¬ (0 : Int) ≤ size by omega)]; simp, HB.out⟩
  have h1' : decide (size < 0) = false := by simpa using h1
  by_cases h2 : size > 1099511627776
  · go_wp2
    go_ret
    exact ⟨by rw [← HR.out, decide_eq_false (show ¬ size ≤ (1099511627776 : Int) by omega)]; simp, HB.out⟩
  have h2' : decide (size > 1099511627776) = false := by simpa using h2
  have HR2 : Hid (mayFrom size 0 L = r) := Lib.hid (by rw [← HR.out, decide_eq_true (show (0 : Int) ≤ size by omega), decide_eq_true (show size ≤ (1099511627776 : Int) by omega)]; simp)
  go_wp2
  go_loopw [3, 4] (fun v i wr => ∃ (k : Nat) (q : Int), k ≤ L.length ∧ v = .int .i64 q ∧ i = .int .i64 (k : Int) ∧ 0 ≤ q ∧ q ≤ 2000000000000 ∧ Hid (q = endF 0 (L.take k)) ∧ Hid (mayFrom size 0 (L.take k) = true) ∧ Hid (Below V.heap.size V wr)) (fun _ i _ => L.length - (intOf i).toNat)
  case atStart => exact ⟨0, 0, by omega, rfl, rfl, by omega, by omega, Lib.hid rfl, Lib.hid rfl, Lib.hid (Below.refl _ _)⟩
  case round =>
    obtain ⟨k, q, hk, rfl, rfl, hq0, hq1, HQ, HM, HBr⟩ := hrel
    obtain ⟨e0, e1⟩ := b2_facts ((HBr.out.block w.heap.size (by omega)).trans HBx.out)
    have hsr := HBr.out.size
    by_cases hlt : k < L.length
    · obtain ⟨b, o, rfl, p0, p1, p2, p3, hbl⟩ := SlPt_at ((HS.out.below HB.out).below HBr.out) hlt
      have hki : (k : Int) < (L.length : Int) := by omega
      have hkc : (k : Int) < (c : Int) := by omega
      have hget : L[k]? = some (L.getD k default) := by simp [List.getD, hlt]
      have htk : L.take (k + 1) = L.take k ++ [L.getD k default] := by
        rw [List.take_succ_eq_append_getElem hlt]
        congr 2
        simp [List.getD, hlt]
      have HG := Lib.hid hget
      have HTk := Lib.hid htk
      clear hget htk
      generalize L.getD k default = p at *
      obtain ⟨off, ln, ch, at0⟩ := p
      dsimp only at p0 p1 p2 p3
      have hbp := heap_alloc_new wr (.cells #[.int .i64 off, .int .i64 ln, .int .i64 ch, .int .i64 at0] 87)
      have hBp := bal HBr.out (.cells #[.int .i64 off, .int .i64 ln, .int .i64 ch, .int .i64 at0] 87)
      have hsp : (wr.alloc (.cells #[.int .i64 off, .int .i64 ln, .int .i64 ch, .int .i64 at0] 87)).heap.size = wr.heap.size + 1 := by simp
      go_upto_region 8 with (fail)
      generalize wr.alloc (.cells #[.int .i64 off, .int .i64 ln, .int .i64 ch, .int .i64 at0] 87) = X at *
      have HPm := Lib.hid (doc_partmay ⟨off, ln, ch, at0⟩ X)
      obtain ⟨x0, x1, x2, x3, -⟩ := b4_cells hbp
      go_wp2_with fail
      with_reducible refine Calls.mono HPm.out ?_
      rintro e Y ⟨rfl, hBY⟩
      obtain ⟨y0, y1, y2, y3, -⟩ := b4_cells ((hBY.block wr.heap.size (by omega)).trans hbp)
      obtain ⟨f0, f1⟩ := b2_facts (((blw hBp hBY).block w.heap.size (by omega)).trans HBx.out)
      have HBY := Lib.hid (blw hBp hBY)
      have HF := Lib.hid (blw HB.out (blw hBp hBY))
      clear x0 x1 x2 x3 hBY hBp hbp p0 p1 p2 p3 e0 e1 HPm
      have HNo : Hid ((fitsP ⟨off, ln, ch, at0⟩ && decide (q ≤ off) && decide (off ≤ size - ln)) = false → r = false) := Lib.hid fun h => by rw [← HR2.out]; exact mayFrom_snoc_no HG.out fun b hb => by rw [← hb, ← HQ.out]; exact h
      cases hf : fitsP ⟨off, ln, ch, at0⟩ with
      | false =>
        have hr : r = false := HNo.out (by rw [hf]; simp)
        subst hr
        clear HNo hf
        go_wp2
        go_ret
        exact ⟨rfl, HF.out⟩
      | true =>
        obtain ⟨g1, g2, g3, g4, g5, g6⟩ := fitsP_spec hf
        dsimp only at g1 g2 g3 g4 g5 g6
        by_cases c1 : off < q
        · have hr : r = false := HNo.out (by rw [hf, decide_eq_false (show ¬ q ≤ off by omega)]; simp)
          subst hr
          clear HNo hf g3 g4 g5 g6
          go_wp2
          go_ret
          exact ⟨rfl, HF.out⟩
        · have c1' : decide (off < q) = false := by simpa using c1
          have hw1 : wrap64 (size - ln) = size - ln := w64 (by omega) (by omega)
          by_cases c2 : off > size - ln
          · have hr : r = false := HNo.out (by rw [hf, decide_eq_false (show ¬ off ≤ size - ln by omega)]; simp)
            subst hr
            clear HNo hf g3 g4 g5 g6
            go_wp2
            go_ret
            exact ⟨rfl, HF.out⟩
          · have c2' : decide (off > size - ln) = false := by simpa using c2
            have hw2 : wrap64 (off + ln) = off + ln := w64 (by omega) (by omega)
            have HQ2 : Hid (off + ln = endF 0 (L.take (k + 1))) := Lib.hid (by rw [HTk.out, endF_snoc])
            have HM2 : Hid (mayFrom size 0 (L.take (k + 1)) = true) := Lib.hid (by
              rw [HTk.out, mayFrom_append, HM.out, Bool.true_and, ← HQ.out]
              exact mayFrom_mk hf (by show q ≤ off; omega) (by show off ≤ size - ln; omega) rfl)
            clear HNo hf g3 g4 g5 g6
            go_wp2
            exact ⟨⟨k + 1, off + ln, by omega, rfl, by go_num, by omega, by omega, HQ2, HM2, HBY⟩, by simp [intOf]; omega⟩
    · obtain rfl : k = L.length := by omega
      have hlt' : decide ((L.length : Int) < (L.length : Int)) = false := by simp
      have hr : r = true := by
        have h := HM.out
        rw [List.take_length] at h
        rw [← HR2.out]; exact h
      subst hr
      have HF := Lib.hid (blw HB.out HBr.out)
      clear hlt
      go_wp2
      go_ret
      exact ⟨rfl, HF.out⟩
end Go.Proofs.YtiegadfhgccliaaGreatDoor
