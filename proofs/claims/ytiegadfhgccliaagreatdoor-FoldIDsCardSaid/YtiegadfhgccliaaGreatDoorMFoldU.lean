/- Walks of package fold: put. -/
import Derived.Test.YtiegadfhgccliaaGreatDoorMFoldC
import Derived.Test.YtiegadfhgccliaaGreatDoorMBodyZ
namespace Go.Proofs.YtiegadfhgccliaaGreatDoor
open Go.RowKit Go.Lib
open Go.ChangeMaps (setBlock)

theorem file_has {S : FS} (h : FInv S) {p : ByteArray} (hf : (fileS S.t p).2 = 0) : ∃ b, ((fileS S.t p).1, b) ∈ S.fs := by
  unfold fileS at hf ⊢
  obtain ⟨i0, d0, x0, hl⟩ : ∃ i d x, lookS (fnd · S.t.L) p = (i, d, x) := ⟨_, _, _, rfl⟩
  rw [hl] at hf ⊢
  dsimp only at hf ⊢
  by_cases h0 : x0 = 0 ∧ d0 = true
  · rw [if_pos h0] at hf; cases hf
  · rw [if_neg h0] at hf ⊢
    have hf : x0 = 0 := hf
    subst hf
    obtain ⟨P, hP, hor⟩ := lookS_ok hl
    rcases hor with ⟨_, _, hd⟩ | ⟨_, n, hn, hid, hd⟩
    · exact absurd ⟨rfl, hd⟩ h0
    · obtain ⟨hm, _⟩ := fnd_some hn
      have hd0 : n.dir = false := by
        cases hdd : n.dir with
        | false => rfl
        | true => exact absurd ⟨rfl, by rw [hd, hdd]⟩ h0
      obtain ⟨b, hb⟩ := h.has n hm hd0
      exact ⟨b, by rw [hid]; exact hb⟩
theorem writeS_bad {b : Bd} {off : Int} {l : List Bp} (h : l.all fitsP = false) : writeS b off l = (⟨0, []⟩, 1) := by
  unfold writeS
  rw [if_neg (by rw [h]; simp)]
theorem putS_bad {S : FS} {e : Ev} {l : List Bp} (h : l.all fitsP = false) : putS S e l = (S, 1) := by
  unfold putS
  split
  · rfl
  · rw [writeS_bad h, if_neg (by decide)]
theorem putS_go {S : FS} {e : Ev} {l : List Bp} (h : l.all fitsP = true → ¬ (0 < e.data.length ∧ sumP l ≠ (e.data.length : Int))) :
    putS S e l = (if (writeS ((bodyOf S.fs (fileS S.t e.path).1).getD default) e.off l).2 = 0 then (⟨S.t, setF S.fs (fileS S.t e.path).1 (writeS ((bodyOf S.fs (fileS S.t e.path).1).getD default) e.off l).1⟩, 0) else (S, (writeS ((bodyOf S.fs (fileS S.t e.path).1).getD default) e.off l).2)) := by
  cases hf : l.all fitsP with
  | true => unfold putS; rw [if_neg (h hf)]
  | false => rw [putS_bad hf, writeS_bad hf, if_neg (by decide)]
theorem putS_no {S : FS} {e : Ev} {l : List Bp} {r : Int} (hr : l.all fitsP = true → r = sumP l) (h0 : 0 < e.data.length) (h : r ≠ (e.data.length : Int)) : putS S e l = (S, 1) := by
  cases hf : l.all fitsP with
  | true => unfold putS; rw [if_pos ⟨h0, by rw [← hr hf]; exact h⟩]
  | false => exact putS_bad hf
theorem b2_facts {W : World} {B : Nat} {a b : Value} {t : TypeId} (h : W.heap[B]? = some (.cells #[a, b] t (0, 0))) : W.cell? ⟨B, 0, none⟩ = some a ∧ W.cell? ⟨B, 1, none⟩ = some b := by
  unfold World.cell?
  rw [h]
  exact ⟨rfl, rfl⟩
theorem b2_end {W : World} {B : Nat} {a b : Value} {t : TypeId} (h : W.heap[B]? = some (.cells #[a, b] t (0, 0))) (x y : Value) : ((W.setCell ⟨B, 0, none⟩ x).setCell ⟨B, 1, none⟩ y).heap[B]? = some (.cells #[x, y] t (0, 0)) := heap_setCell_at (heap_setCell_at h 0 x) 1 y
theorem b2_froz {W : World} {B : Nat} {a b : Value} {t : TypeId} (h : W.heap[B]? = some (.cells #[a, b] t (0, 0))) : W.frozen? ⟨B, 0, none⟩ = false ∧ ∀ v, (W.setCell ⟨B, 0, none⟩ v).cell? ⟨B, 1, none⟩ = some b ∧ (W.setCell ⟨B, 0, none⟩ v).frozen? ⟨B, 1, none⟩ = false := by
  refine ⟨by unfold World.frozen?; rw [h]; simp, fun v => ?_⟩
  have h1 := heap_setCell_at h 0 v
  constructor
  · unfold World.cell?; rw [h1]; rfl
  · unfold World.frozen?; rw [h1]; simp
set_option maxRecDepth 100000 in
set_option maxHeartbeats 16000000 in
/-- put. -/
theorem fold_put (e0 : Ev) (l : List Bp) (a a2 : Option Addr) (c c2 : Nat) (w : World) (hp : e0.path.size ≤ 100000) (hd : e0.data.length ≤ 1000000) {sb tb mb lb : Nat} {S : FS} (hS : FoldP w sb tb mb lb S) (hI : FInv S) (hm : MLen w)
    (hf : (fileS S.t e0.path).2 = 0) {N : Nat} (hN : FewP N S) (hN2 : N ≤ 1000000000) (hS2 : SlPt w a2 l) (hc2 : l.length ≤ c2) (hl : l.length ≤ 1000000) :
    Calls Tryz.prog 28 #[.pointer (some ⟨sb, 0, none⟩), evV e0 a c, .slice a2 l.length c2] w fun e w' => e = .returned (.int .i64 (putS S e0 l).2) ∧ FoldP w' sb tb mb lb (putS S e0 l).1 ∧ Turn [lb] w w' := by
  obtain ⟨r, hrs, hlong⟩ := long_any l hl
  have hno : 0 < e0.data.length → r ≠ (e0.data.length : Int) → putS S e0 l = (S, 1) := fun h1 h2 => putS_no hrs h1 h2
  have hgo : (e0.data.length = 0 ∨ r = (e0.data.length : Int)) → putS S e0 l = _ := fun h => putS_go (S := S) (e := e0) (l := l) fun hf hx => by
    rcases h with h | h
    · omega
    · exact hx.2 (by rw [← hrs hf]; exact h)
  obtain ⟨i0, x0, hfi⟩ : ∃ i x, fileS S.t e0.path = (i, x) := ⟨_, _, rfl⟩
  have HF : Hid (∀ W, Below w.heap.size w W → Calls Tryz.prog 29 #[.pointer (some ⟨sb, 0, none⟩), .string e0.path] W fun e w' => e = .returned (.tuple #[.int .i64 i0, .int .i64 x0]) ∧ Below W.heap.size W w') := fun W h => fold_file e0.path W hp (hS.below h) hI.t (hm.below h) hfi
  obtain ⟨b0, hb0⟩ := file_has hI hf
  rw [hfi] at hf hb0 hgo
  dsimp only at hf hb0 hgo
  subst hf
  have HLo : Hid (∀ W, Below w.heap.size w W → Calls Tryz.prog 58 #[.slice a2 l.length c2] W fun e w' => e = .returned (.int .i64 r) ∧ Below W.heap.size W w') := fun W h => hlong a2 c2 W (hS2.below h) hc2
  obtain ⟨ba, bc, hbS, hbc, hlk, _⟩ := hS.look hI.once i0
  have hbl := getD_few hN i0
  have HWr : Hid (∀ W, Below w.heap.size w W → Calls Tryz.prog 59 #[.agg #[.int .i64 ((bodyOf S.fs i0).getD default).size, .slice ba ((bodyOf S.fs i0).getD default).parts.length bc], .int .i64 e0.off, .slice a2 l.length c2] W fun e w' => ∃ a3 c3, e = .returned (.tuple #[.agg #[.int .i64 (writeS ((bodyOf S.fs i0).getD default) e0.off l).1.size, .slice a3 (writeS ((bodyOf S.fs i0).getD default) e0.off l).1.parts.length c3], .int .i64 (writeS ((bodyOf S.fs i0).getD default) e0.off l).2]) ∧
      (writeS ((bodyOf S.fs i0).getD default) e0.off l).1.parts.length ≤ c3 ∧ SlPo w' a3 (writeS ((bodyOf S.fs i0).getD default) e0.off l).1.parts ∧ Below W.heap.size W w') := Lib.hid fun W h => by
    refine (bwrite_any ((bodyOf S.fs i0).getD default) e0.off l ba a2 bc c2 W (hbS.below h) hbc (by omega) (hS2.below h) hc2 hl).mono ?_
    rintro e w' ⟨v, rfl, hO, hB⟩
    obtain ⟨a3, c3, rfl, hc3, hS3, _⟩ := SlPo.own hO (.inl rfl)
    exact ⟨a3, c3, rfl, hc3, hS3, hB⟩
  obtain ⟨l1, l2, l3, l4⟩ := hS.lt
  obtain ⟨g0, g1⟩ := hS.cells
  have HLk : Hid (∀ W, Below w.heap.size w W → W.cell? ⟨sb, 1, none⟩ = some (.map (some lb)) ∧ (Instr.lookup 78 (.map (some lb)) (.int .i64 i0) false).run Tryz.prog W = .ok (.agg #[.int .i64 ((bodyOf S.fs i0).getD default).size, .slice ba ((bodyOf S.fs i0).getD default).parts.length bc]) W) := fun W h => ⟨(h.cell (p := ⟨sb, 1, none⟩) l1).trans g1, hlk W (h.block lb l4)⟩
  have HS := Lib.hid hS
  have HHas := Lib.hid hb0
  generalize hBB : (bodyOf S.fs i0).getD default = BB at *
  obtain ⟨op, path, dst, off, size, data⟩ := e0
  dsimp only [evV] at *
  clear hS hI hm hN hS2 hlk hbS hb0 hlong hrs
  obtain ⟨R, hR⟩ : ∃ R, writeS BB off l = R := ⟨_, rfl⟩
  rw [hR] at HWr hgo
  obtain ⟨⟨rs, rp⟩, rc⟩ := R
  dsimp only at HWr hgo
  have hbx := heap_alloc_new w (.cells #[.int .i64 op, .string path, .string dst, .int .i64 off, .int .i64 size, .slice a data.length c] 31)
  have hB0 : Below w.heap.size w (w.alloc (.cells #[.int .i64 op, .string path, .string dst, .int .i64 off, .int .i64 size, .slice a data.length c] 31)) := (Below.refl _ _).alloc (Nat.le_refl _) _
  have hsz : (w.alloc (.cells #[.int .i64 op, .string path, .string dst, .int .i64 off, .int .i64 size, .slice a data.length c] 31)).heap.size = w.heap.size + 1 := by simp
  generalize hn : data.length = n at *
  obtain ⟨W, hW⟩ : ∃ W, W = w.alloc (.cells #[.int .i64 op, .string path, .string dst, .int .i64 off, .int .i64 size, .slice a n c] 31) := ⟨_, rfl⟩
  rw [← hW] at hbx hB0 hsz
  have hwW : w.heap.size < W.heap.size := by omega
  clear hn hR hBB hbl hbc
  by_cases hn0 : n = 0
  · have hgo := hgo (.inl hn0)
    rw [hgo]
    subst hn0
    clear hgo hno
    have HRf := Lib.hid (Below.refl W.heap.size W)
    obtain ⟨e0, e1, e2, e3, e4, e5⟩ := b6_cells hbx
    go_enter Tryz.func28, Tryz.ntmps28
    go_upto_region 1 with (fail)
    rw [← hW]
    clear hW
    go_quiet (fail)
    have HRq : Hid (Below W.heap.size W (W.drewN nq)) := Lib.hid (below_drewN HRf.out _)
    clear e0 e1 e2 e3 e4 e5
    generalize W.drewN nq = V at *
    have hbV := (HRq.out.block w.heap.size hwW).trans hbx
    obtain ⟨e0, e1, e2, e3, e4, e5⟩ := b6_cells hbV
    have hBwV := Lib.hid (blw hB0 HRq.out)
    have hsV := HRq.out.size
    go_wp2_with fail
    refine (HF.out _ hBwV.out).mono ?_
    rintro e V1 ⟨rfl, hB1⟩
    have hbV1 := (hB1.block w.heap.size (by omega)).trans hbV
    have HBw1 := Lib.hid (blw hBwV.out hB1)
    have hs1 := hB1.size
    clear e0 e1 e2 e3 e4 e5 hbV hB1
    obtain ⟨e0, e1, e2, e3, e4, e5⟩ := b6_cells hbV1
    have HBx := Lib.hid hbV1
    have HK : Hid (∀ X, Below V1.heap.size V1 X → X.cell? ⟨sb, 1, none⟩ = some (.map (some lb)) ∧ X.cell? ⟨w.heap.size, 3, none⟩ = some (.int .i64 off) ∧ (Instr.lookup 78 (.map (some lb)) (.int .i64 i0) false).run Tryz.prog X = .ok (.agg #[.int .i64 BB.size, .slice ba BB.parts.length bc]) X) := Lib.hid fun X h => ⟨(HLk.out X (blw HBw1.out h)).1, (h.cell (p := ⟨w.heap.size, 3, none⟩) (by show w.heap.size < _; omega)).trans e3, (HLk.out X (blw HBw1.out h)).2⟩
    have HKw : Hid (∀ X, Below V1.heap.size V1 X → Below w.heap.size w X) := Lib.hid fun X h => blw HBw1.out h
    clear hbV1 e0 e1 e2 e3 e4 e5 g0 g1
    go_upto_region 4 with (fail)
    go_cut [9, 10] from 4 to 4 (fun v9 v10 wx => ∃ (g : Nat) (a3 : Option Addr) (c3 : Nat), v9 = .pointer (some ⟨g, 0, none⟩) ∧ v10 = .int .i64 rc ∧ Hid (wx.heap[g]? = some (.cells #[.int .i64 rs, .slice a3 rp.length c3] 47 (0, 0))) ∧ Hid (SlPo wx a3 rp) ∧ rp.length ≤ c3 ∧ Hid (Below V1.heap.size V1 wx) ∧ V1.heap.size ≤ g)
    case first =>
      go_region_held3 (fun w' => w'.cell? ⟨sb, 1, none⟩ = some (.map (some lb)) ∧ w'.cell? ⟨w.heap.size, 3, none⟩ = some (.int .i64 off) ∧ (Instr.lookup 78 (.map (some lb)) (.int .i64 i0) false).run Tryz.prog w' = .ok (.agg #[.int .i64 BB.size, .slice ba BB.parts.length bc]) w') (first | exact HK.out _ (Below.refl _ _) | exact HK.out _ (below_drewN' (Below.refl _ _) 1) | exact HK.out _ ((Below.refl _ _).alloc (Nat.le_refl _) _) | exact HK.out _ (below_drewN' ((Below.refl _ _).alloc (Nat.le_refl _) _) 1) | exact HK.out _ HBc.out | exact HK.out _ (HBc.out.alloc HBc.out.size _) | exact HK.out _ ((HBc.out.setCell (p := ⟨V1.heap.size, 0, none⟩) (Nat.le_refl _) _).setCell (p := ⟨V1.heap.size, 1, none⟩) (Nat.le_refl _) _)) (first
        | (go_at_call 59; refine (HWr.out _ (HKw.out _ (by first | exact Below.refl _ _ | exact below_drewN' (Below.refl _ _) 1))).mono ?_; rintro e w' ⟨a3, c3, rfl, hc3, hS3, hBc⟩; have HS3 := Lib.hid hS3; have HBc : Hid (Below V1.heap.size V1 w') := Lib.hid (blw (by first | exact Below.refl _ _ | exact below_drewN' (Below.refl _ _) 1) hBc); clear hS3 hBc)
        | (go_at_call 59; refine (HWr.out _ (HKw.out _ (by first | exact (Below.refl _ _).alloc (Nat.le_refl _) _ | exact below_drewN' ((Below.refl _ _).alloc (Nat.le_refl _) _) 1))).mono ?_; rintro e w' ⟨a3, c3, rfl, hc3, hS3, hBc⟩; have HS3 := Lib.hid hS3; have HBc : Hid (Below V1.heap.size V1 w') := Lib.hid (blw (by first | exact (Below.refl _ _).alloc (Nat.le_refl _) _ | exact below_drewN' ((Below.refl _ _).alloc (Nat.le_refl _) _) 1) hBc); have hblk := (hBc.block V1.heap.size (by first | (simp; done) | (show V1.heap.size < (V1.alloc _).heap.size; simp))).trans (heap_alloc_new V1 _); obtain ⟨z0, z1⟩ := b2_facts hblk; obtain ⟨f0, f1⟩ := b2_froz hblk; have HZ := Lib.hid hblk; clear hS3 hBc hblk))
      all_goals
        go_wp2
        go_meet
        case rel => first
          | exact ⟨w'.heap.size, a3, c3, rfl, rfl, Lib.hid (heap_alloc_new w' _), Lib.hid (HS3.out.below ((Below.refl _ _).alloc (Nat.le_refl _) _)), hc3, Lib.hid (HBc.out.alloc HBc.out.size _), HBc.out.size⟩
          | exact ⟨V1.heap.size, a3, c3, rfl, rfl, Lib.hid (b2_end HZ.out _ _), Lib.hid (HS3.out.turnP (bs := [V1.heap.size]) (((Turn.refl _ _).setCell (p := ⟨V1.heap.size, 0, none⟩) (.inl (by simp)) _).setCell (p := ⟨V1.heap.size, 1, none⟩) (.inl (by simp)) _) (by simpa using NoPt.of_cells HZ.out (by decide) (by decide))), hc3, Lib.hid ((HBc.out.setCell (p := ⟨V1.heap.size, 0, none⟩) (Nat.le_refl _) _).setCell (p := ⟨V1.heap.size, 1, none⟩) (Nat.le_refl _) _), Nat.le_refl _⟩
    case rest =>
      obtain ⟨g, a3, c3, rfl, rfl, HG, HS3, hc3, HBc, hgV⟩ := hcut
      generalize wc = X at *
      have hbw := blw HBw1.out HBc.out
      have hSX := HS.out.below hbw
      have hTu := Turn.of_below (bs := [lb]) hbw
      have HSX := Lib.hid hSX
      have HTu := Lib.hid hTu
      by_cases hrc : rc = 0
      · subst hrc
        obtain ⟨ob, hput⟩ := hSX.put i0 ⟨rs, rp⟩ HS3.out hc3
        obtain ⟨p1, p2⟩ := hput X.drew rfl
        obtain ⟨p3, p4⟩ := hput X rfl
        rw [putF_has HHas.out] at p2 p4
        dsimp only at p1 p3
        have HP2 := Lib.hid p2
        have HP4 := Lib.hid p4
        obtain ⟨q0, q1⟩ := b2_facts HG.out
        have hk1 := (HLk.out X hbw).1
        clear hput p2 p4 hSX hTu hbw HK HKw HWr HF HLo
        go_wp2
        go_region
        all_goals
          go_wp2
          go_ret
          try rw [if_pos rfl]
          exact ⟨rfl, by first | exact HP2.out | exact HP4.out, by first | exact (HTu.out.drewN 1).setBlock (.inl (by simp)) ob | exact HTu.out.setBlock (.inl (by simp)) ob⟩
      · have HNr := Lib.hid hrc
        have hrc1 : (rc == 0) = false := by rw [beq_eq_false_iff_ne]; exact hrc
        clear hrc hSX hTu hbw HK HKw HWr HF HLo
        go_wp2
        go_ret
        try rw [if_neg HNr.out]
        exact ⟨rfl, HSX.out, HTu.out⟩
  have hpos : decide (0 < n) = true := by rw [decide_eq_true_eq]; omega
  have hpos2 : decide ((n : Int) > 0) = true := by rw [decide_eq_true_eq]; omega
  have HE : Hid (∀ X, Below W.heap.size W X → X.cell? ⟨w.heap.size, 5, none⟩ = some (.slice a n c)) := Lib.hid fun X h => (b6_cells ((h.block w.heap.size hwW).trans hbx)).2.2.2.2.2
  by_cases hr : r = (n : Int)
  · have hgo := hgo (.inr hr)
    rw [hgo]
    have hq1 : (r == (n : Int)) = true := by rw [beq_iff_eq]; exact hr
    have hq2 : (r != (n : Int)) = false := by simp [hr]
    clear hgo hno hr hn0
    go_enter Tryz.func28, Tryz.ntmps28
    go_upto_region 1 with (fail)
    rw [← hW]
    clear hW
    go_region_held3 (fun w' => w'.cell? ⟨w.heap.size, 5, none⟩ = some (.slice a n c)) (first | exact HE.out _ (Below.refl _ _) | exact HE.out _ (below_drewN' (Below.refl _ _) 1) | exact HE.out _ HBl.out) (first | (go_at_call 58; refine (HLo.out _ (by first | exact hB0 | exact below_drewN' hB0 1)).mono ?_; rintro e w' ⟨rfl, hBl⟩; have HBl : Hid (Below W.heap.size W w') := Lib.hid (blw (by first | exact Below.refl _ _ | exact below_drewN' (Below.refl _ _) 1) hBl); clear hBl))
    all_goals
      generalize hVV : w' = V at *
      have hbV := (HBl.out.block w.heap.size hwW).trans hbx
      obtain ⟨e0, e1, e2, e3, e4, e5⟩ := b6_cells hbV
      have hBwV := Lib.hid (blw hB0 HBl.out)
      have hsV := HBl.out.size
      go_wp2_with fail
      refine (HF.out _ hBwV.out).mono ?_
      rintro e V1 ⟨rfl, hB1⟩
      have hbV1 := (hB1.block w.heap.size (by omega)).trans hbV
      have HBw1 := Lib.hid (blw hBwV.out hB1)
      have hs1 := hB1.size
      clear e0 e1 e2 e3 e4 e5 hbV hB1
      obtain ⟨e0, e1, e2, e3, e4, e5⟩ := b6_cells hbV1
      have HBx := Lib.hid hbV1
      have HK : Hid (∀ X, Below V1.heap.size V1 X → X.cell? ⟨sb, 1, none⟩ = some (.map (some lb)) ∧ X.cell? ⟨w.heap.size, 3, none⟩ = some (.int .i64 off) ∧ (Instr.lookup 78 (.map (some lb)) (.int .i64 i0) false).run Tryz.prog X = .ok (.agg #[.int .i64 BB.size, .slice ba BB.parts.length bc]) X) := Lib.hid fun X h => ⟨(HLk.out X (blw HBw1.out h)).1, (h.cell (p := ⟨w.heap.size, 3, none⟩) (by show w.heap.size < _; omega)).trans e3, (HLk.out X (blw HBw1.out h)).2⟩
      have HKw : Hid (∀ X, Below V1.heap.size V1 X → Below w.heap.size w X) := Lib.hid fun X h => blw HBw1.out h
      clear hbV1 e0 e1 e2 e3 e4 e5 g0 g1
      go_upto_region 4 with (fail)
      go_cut [9, 10] from 4 to 4 (fun v9 v10 wx => ∃ (g : Nat) (a3 : Option Addr) (c3 : Nat), v9 = .pointer (some ⟨g, 0, none⟩) ∧ v10 = .int .i64 rc ∧ Hid (wx.heap[g]? = some (.cells #[.int .i64 rs, .slice a3 rp.length c3] 47 (0, 0))) ∧ Hid (SlPo wx a3 rp) ∧ rp.length ≤ c3 ∧ Hid (Below V1.heap.size V1 wx) ∧ V1.heap.size ≤ g)
      case first =>
        go_region_held3 (fun w' => w'.cell? ⟨sb, 1, none⟩ = some (.map (some lb)) ∧ w'.cell? ⟨w.heap.size, 3, none⟩ = some (.int .i64 off) ∧ (Instr.lookup 78 (.map (some lb)) (.int .i64 i0) false).run Tryz.prog w' = .ok (.agg #[.int .i64 BB.size, .slice ba BB.parts.length bc]) w') (first | exact HK.out _ (Below.refl _ _) | exact HK.out _ (below_drewN' (Below.refl _ _) 1) | exact HK.out _ ((Below.refl _ _).alloc (Nat.le_refl _) _) | exact HK.out _ (below_drewN' ((Below.refl _ _).alloc (Nat.le_refl _) _) 1) | exact HK.out _ HBc.out | exact HK.out _ (HBc.out.alloc HBc.out.size _) | exact HK.out _ ((HBc.out.setCell (p := ⟨V1.heap.size, 0, none⟩) (Nat.le_refl _) _).setCell (p := ⟨V1.heap.size, 1, none⟩) (Nat.le_refl _) _)) (first
          | (go_at_call 59; refine (HWr.out _ (HKw.out _ (by first | exact Below.refl _ _ | exact below_drewN' (Below.refl _ _) 1))).mono ?_; rintro e w' ⟨a3, c3, rfl, hc3, hS3, hBc⟩; have HS3 := Lib.hid hS3; have HBc : Hid (Below V1.heap.size V1 w') := Lib.hid (blw (by first | exact Below.refl _ _ | exact below_drewN' (Below.refl _ _) 1) hBc); clear hS3 hBc)
          | (go_at_call 59; refine (HWr.out _ (HKw.out _ (by first | exact (Below.refl _ _).alloc (Nat.le_refl _) _ | exact below_drewN' ((Below.refl _ _).alloc (Nat.le_refl _) _) 1))).mono ?_; rintro e w' ⟨a3, c3, rfl, hc3, hS3, hBc⟩; have HS3 := Lib.hid hS3; have HBc : Hid (Below V1.heap.size V1 w') := Lib.hid (blw (by first | exact (Below.refl _ _).alloc (Nat.le_refl _) _ | exact below_drewN' ((Below.refl _ _).alloc (Nat.le_refl _) _) 1) hBc); have hblk := (hBc.block V1.heap.size (by first | (simp; done) | (show V1.heap.size < (V1.alloc _).heap.size; simp))).trans (heap_alloc_new V1 _); obtain ⟨z0, z1⟩ := b2_facts hblk; obtain ⟨f0, f1⟩ := b2_froz hblk; have HZ := Lib.hid hblk; clear hS3 hBc hblk))
        all_goals
          go_wp2
          go_meet
          case rel => first
            | exact ⟨w'.heap.size, a3, c3, rfl, rfl, Lib.hid (heap_alloc_new w' _), Lib.hid (HS3.out.below ((Below.refl _ _).alloc (Nat.le_refl _) _)), hc3, Lib.hid (HBc.out.alloc HBc.out.size _), HBc.out.size⟩
            | exact ⟨V1.heap.size, a3, c3, rfl, rfl, Lib.hid (b2_end HZ.out _ _), Lib.hid (HS3.out.turnP (bs := [V1.heap.size]) (((Turn.refl _ _).setCell (p := ⟨V1.heap.size, 0, none⟩) (.inl (by simp)) _).setCell (p := ⟨V1.heap.size, 1, none⟩) (.inl (by simp)) _) (by simpa using NoPt.of_cells HZ.out (by decide) (by decide))), hc3, Lib.hid ((HBc.out.setCell (p := ⟨V1.heap.size, 0, none⟩) (Nat.le_refl _) _).setCell (p := ⟨V1.heap.size, 1, none⟩) (Nat.le_refl _) _), Nat.le_refl _⟩
      case rest =>
        obtain ⟨g, a3, c3, rfl, rfl, HG, HS3, hc3, HBc, hgV⟩ := hcut
        generalize wc = X at *
        have hbw := blw HBw1.out HBc.out
        have hSX := HS.out.below hbw
        have hTu := Turn.of_below (bs := [lb]) hbw
        have HSX := Lib.hid hSX
        have HTu := Lib.hid hTu
        by_cases hrc : rc = 0
        · subst hrc
          obtain ⟨ob, hput⟩ := hSX.put i0 ⟨rs, rp⟩ HS3.out hc3
          obtain ⟨p1, p2⟩ := hput X.drew rfl
          obtain ⟨p3, p4⟩ := hput X rfl
          rw [putF_has HHas.out] at p2 p4
          dsimp only at p1 p3
          have HP2 := Lib.hid p2
          have HP4 := Lib.hid p4
          obtain ⟨q0, q1⟩ := b2_facts HG.out
          have hk1 := (HLk.out X hbw).1
          clear hput p2 p4 hSX hTu hbw HK HKw HWr HF HLo
          go_wp2
          go_region
          all_goals
            go_wp2
            go_ret
            try rw [if_pos rfl]
            exact ⟨rfl, by first | exact HP2.out | exact HP4.out, by first | exact (HTu.out.drewN 1).setBlock (.inl (by simp)) ob | exact HTu.out.setBlock (.inl (by simp)) ob⟩
        · have HNr := Lib.hid hrc
          have hrc1 : (rc == 0) = false := by rw [beq_eq_false_iff_ne]; exact hrc
          clear hrc hSX hTu hbw HK HKw HWr HF HLo
          go_wp2
          go_ret
          try rw [if_neg HNr.out]
          exact ⟨rfl, HSX.out, HTu.out⟩
  · have hno := hno (by omega) hr
    rw [hno]
    have hq1 : (r == (n : Int)) = false := by rw [beq_eq_false_iff_ne]; exact hr
    have hq2 : (r != (n : Int)) = true := by simp [hr]
    clear hgo hno hr hn0
    go_enter Tryz.func28, Tryz.ntmps28
    go_upto_region 1 with (fail)
    rw [← hW]
    clear hW
    go_region_held3 (fun w' => w'.cell? ⟨w.heap.size, 5, none⟩ = some (.slice a n c)) (first | exact HE.out _ (Below.refl _ _) | exact HE.out _ (below_drewN' (Below.refl _ _) 1) | exact HE.out _ HBl.out) (first | (go_at_call 58; refine (HLo.out _ (by first | exact hB0 | exact below_drewN' hB0 1)).mono ?_; rintro e w' ⟨rfl, hBl⟩; have HBl : Hid (Below W.heap.size W w') := Lib.hid (blw (by first | exact Below.refl _ _ | exact below_drewN' (Below.refl _ _) 1) hBl); clear hBl))
    all_goals
      go_wp2
      go_ret
      exact ⟨rfl, HS.out.below (blw hB0 HBl.out), .of_below (blw hB0 HBl.out)⟩
end Go.Proofs.YtiegadfhgccliaaGreatDoor
