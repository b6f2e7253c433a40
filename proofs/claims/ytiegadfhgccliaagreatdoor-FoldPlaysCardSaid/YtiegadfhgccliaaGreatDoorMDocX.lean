/- Walks of the document's bodies: without, Trunc. -/
import Derived.Test.YtiegadfhgccliaaGreatDoorMFoldU
import Derived.Test.YtiegadfhgccliaaGreatDoorMTreeN
namespace Go.Proofs.YtiegadfhgccliaaGreatDoor
open Go.RowKit Go.Lib
open Go.ChangeMaps (setBlock)

theorem new4b (W : World) (a b c d : Value) (t : TypeId) (B : Nat) (hB : W.heap.size = B) : ∀ j u, [a, b, c, d][j]? = some u → (W.alloc (.cells #[a, b, c, d] t)).cell? ((⟨B, 0, none⟩ : Addr).add j) = some u := by
  subst hB
  exact World.news_of_block (cs := #[a, b, c, d]) (t := t) (fr := (0, 0)) (heap_alloc_new W _)
theorem withoutD_snoc (L : List Bp) (p : Bp) (f t : Int) : withoutD (L ++ [p]) f t = withoutD L f t ++ (aheadD f p ++ behindD t p) := by
  unfold withoutD
  rw [List.flatMap_append]
  simp
theorem withoutD_len (L : List Bp) (f t : Int) : (withoutD L f t).length ≤ 2 * L.length := by
  unfold withoutD
  induction L with
  | nil => simp
  | cons p r ih =>
    rw [List.flatMap_cons, List.length_append, List.length_cons]
    have : (aheadD f p ++ behindD t p).length ≤ 2 := by
      unfold aheadD behindD
      split <;> split <;> simp
    omega
theorem cells_two (M : List Bp) (p q : Bp) : encP.cells (M ++ [p, q]) = encP.cells M ++ encP.enc p ++ encP.enc q := by rw [cellsK_append]; simp [EncK.cells]
/-- A block made since stands behind an append onto an elder row. -/
theorem own_step {wr X w5 : World} {base : Nat} {e : TypeId} {size n : Nat} {v : Value} {xs : List Value} {o : Obj} (hO : wr.ownsRow base e size v n xs) (_ : Below wr.heap.size wr X) (hg : (X.alloc o).grownBy w5 v.ownBlock) (B : Nat) (h1 : wr.heap.size ≤ B) (h2 : B < X.heap.size) : w5.heap[B]? = X.heap[B]? := by
  rw [hg.block B (by simp; omega) fun e => by have := hO.lt B e.symm; omega]
  exact Below.heap_alloc X o B h2
set_option maxRecDepth 100000 in
set_option maxHeartbeats 8000000 in
/-- without. -/
theorem doc_without (L : List Bp) (f t : Int) (a : Option Addr) (c : Nat) (w : World) (hS : SlPt w a L) (hc : L.length ≤ c) (hl : L.length ≤ 1000000) (hp : ∀ p ∈ L, PIn p) (hf0 : 0 ≤ f) (hf1 : f ≤ 2000000000000) (ht0 : 0 ≤ t) :
    Calls Tryz.prog 82 #[.slice a L.length c, .int .i64 f, .int .i64 t] w fun e w' => ∃ v, e = .returned v ∧ w'.ownsRow w.heap.size 87 4 v (withoutD L f t).length (encP.cells (withoutD L f t)) ∧ Below w.heap.size w w' := by
  have HS := Lib.hid hS
  have HP := Lib.hid hp
  obtain ⟨i0, hi, hz0, hz1, hz2⟩ := info_parts info_rpt
  clear hS hp
  go_enter Tryz.func82, Tryz.ntmps82
  go_wp2
  go_loopw [7, 8] (fun v i wr => ∃ k : Nat, k ≤ L.length ∧ i = .int .i64 (k : Int) ∧ Hid (wr.ownsRow w.heap.size 87 4 v (withoutD (L.take k) f t).length (encP.cells (withoutD (L.take k) f t))) ∧ Hid (Below w.heap.size w wr)) (fun _ i _ => L.length - (intOf i).toNat)
  case atStart => exact ⟨0, by omega, rfl, Lib.hid (World.ownsRow_nil _ _ _ _), Lib.hid (Below.refl _ _)⟩
  case round =>
    obtain ⟨k, hk, rfl, HO, HB⟩ := hrel
    by_cases hlt : k < L.length
    · obtain ⟨b, o, rfl, p0, p1, p2, p3, hbl⟩ := SlPt_at (HS.out.below HB.out) hlt
      have hki : (k : Int) < (L.length : Int) := by omega
      have hkc : (k : Int) < (c : Int) := by omega
      have hwl : (withoutD (L.take k) f t).length ≤ 2 * k := Nat.le_trans (withoutD_len _ _ _) (by rw [List.length_take]; omega)
      have htk : L.take (k + 1) = L.take k ++ [L.getD k default] := by
        rw [List.take_succ_eq_append_getElem hlt]
        congr 2
        simp [List.getD, hlt]
      have hpin := HP.out (L.getD k default) (by simp [List.getD, hlt])
      have hwk : withoutD (L.take (k + 1)) f t = withoutD (L.take k) f t ++ (aheadD f (L.getD k default) ++ behindD t (L.getD k default)) := by rw [htk, withoutD_snoc]
      have HWk := Lib.hid hwk
      clear htk hwk
      generalize L.getD k default = p at *
      obtain ⟨off, ln, ch, at0⟩ := p
      obtain ⟨u1, u2, u3, u4, u5, u6⟩ := hpin
      dsimp only at p0 p1 p2 p3 u1 u2 u3 u4 u5 u6
      generalize withoutD (L.take k) f t = M at *
      have hbp := heap_alloc_new wr (.cells #[.int .i64 off, .int .i64 ln, .int .i64 ch, .int .i64 at0] 87)
      have hBp : Below wr.heap.size wr (wr.alloc (.cells #[.int .i64 off, .int .i64 ln, .int .i64 ch, .int .i64 at0] 87)) := (Below.refl _ _).alloc (Nat.le_refl _) _
      have hsp : (wr.alloc (.cells #[.int .i64 off, .int .i64 ln, .int .i64 ch, .int .i64 at0] 87)).heap.size = wr.heap.size + 1 := by simp
      have hsr := HB.out.size
      have hw1 : wrap64 (off + ln) = off + ln := w64 (by omega) (by omega)
      go_upto_region 6 with (fail)
      generalize wr.alloc (.cells #[.int .i64 off, .int .i64 ln, .int .i64 ch, .int .i64 at0] 87) = X at *
      have HBp := Lib.hid hbp
      have HBX := Lib.hid hBp
      obtain ⟨x0, x1, x2, x3, -⟩ := b4_cells hbp
      clear hbp hBp p0 p1 p2 p3
      by_cases hA : off < f
      · by_cases hBt : t < off + ln
        · have hBt' : decide (off + ln > t) = true := by simpa using hBt
          have hA1 : aheadD f ⟨off, ln, ch, at0⟩ = [⟨off, min (off + ln) f - off, ch, at0⟩] := by unfold aheadD; rw [if_pos hA]
          have hB1 : behindD t ⟨off, ln, ch, at0⟩ = [⟨max off t, off + ln - max off t, ch, at0 + (max off t - off)⟩] := by unfold behindD; rw [if_pos hBt]
          have HM : Hid (withoutD (L.take (k + 1)) f t = M ++ [⟨off, min (off + ln) f - off, ch, at0⟩, ⟨max off t, off + ln - max off t, ch, at0 + (max off t - off)⟩]) := Lib.hid (by rw [HWk.out, hA1, hB1]; rfl)
          clear hA1 hB1 HWk
          go_upto_region 9 with (fail)
          have hb1 := heap_alloc_new X (.cells #[.int .i64 off, .int .i64 ln, .int .i64 ch, .int .i64 at0] 87)
          have hB1 : Below X.heap.size X (X.alloc (.cells #[.int .i64 off, .int .i64 ln, .int .i64 ch, .int .i64 at0] 87)) := (Below.refl _ _).alloc (Nat.le_refl _) _
          have hs1 : (X.alloc (.cells #[.int .i64 off, .int .i64 ln, .int .i64 ch, .int .i64 at0] 87)).heap.size = X.heap.size + 1 := by simp
          rw [hsp] at hb1 hs1
          generalize X.alloc (.cells #[.int .i64 off, .int .i64 ln, .int .i64 ch, .int .i64 at0] 87) = X1 at *
          obtain ⟨y0, y1, y2, y3, yf⟩ := b4_cells hb1
          have z := (hB1.block wr.heap.size (by omega)).trans HBp.out
          obtain ⟨z0, z1, z2, z3, -⟩ := b4_cells z
          have hyf := yf 1
          have hX2 : (X1.setCell ⟨wr.heap.size + 1, 1, none⟩ (.int .i64 (min (off + ln) f - off))).heap[wr.heap.size + 1]? = some (.cells #[.int .i64 off, .int .i64 (min (off + ln) f - off), .int .i64 ch, .int .i64 at0] 87 (0, 0)) := heap_setCell_at hb1 1 _
          have hz2' : (X1.setCell ⟨wr.heap.size + 1, 1, none⟩ (.int .i64 (min (off + ln) f - off))).heap[wr.heap.size]? = some (.cells #[.int .i64 off, .int .i64 ln, .int .i64 ch, .int .i64 at0] 87 (0, 0)) := (Below.heap_setCell _ _ _ _ (by show wr.heap.size ≠ wr.heap.size + 1; omega)).trans z
          have hB2 : Below wr.heap.size wr (X1.setCell ⟨wr.heap.size + 1, 1, none⟩ (.int .i64 (min (off + ln) f - off))) := (HBX.out.trans (hB1.mono (by omega))).setCell (p := ⟨wr.heap.size + 1, 1, none⟩) (by show wr.heap.size ≤ wr.heap.size + 1; omega) _
          have hs2 : (X1.setCell ⟨wr.heap.size + 1, 1, none⟩ (.int .i64 (min (off + ln) f - off))).heap.size = wr.heap.size + 2 := by simp [World.setCell]; omega
          have HX2 := Lib.hid hX2
          have HZ2 := Lib.hid hz2'
          have HB2 := Lib.hid hB2
          clear yf x0 x1 x2 x3 hX2 hz2' hB2 hb1 hB1 z
          go_upto_region 10 with (fail)
          generalize X1.setCell ⟨wr.heap.size + 1, 1, none⟩ (.int .i64 (min (off + ln) f - off)) = X2 at *
          obtain ⟨y0, y1, y2, y3, -⟩ := b4_cells HX2.out
          obtain ⟨z0, z1, z2, z3, -⟩ := b4_cells HZ2.out
          have HO2 := Lib.hid (own_below_any HO.out HB2.out)
          clear hyf hs1
          go_upto_region 13 with (first | (at_builtin; refine wpList_append_own _ rfl (.tmp 40) (.tmp 42) 32 rfl w.heap.size 87 i0 _ 4 32 Tryz.underlying32 hi hz0 hz1 hz2 rfl (by decide) _ _ _ rfl (HO2.out.alloc _) ⟨wr.heap.size + 2, 0, none⟩ 1 1 [.int .i64 off, .int .i64 (min (off + ln) f - off), .int .i64 ch, .int .i64 at0] rfl rfl (new4b _ _ _ _ _ _ _ (by omega)) (by intro u hu; simp at hu; rcases hu with rfl | rfl | rfl | rfl <;> rfl) (by unfold maxLen; omega) (by omega) (by simp; omega) ?_; intro v' w5 hown' hgrow hnil; clear hnil; have HO5 := Lib.hid hown'; have HG5 := Lib.hid hgrow; have HB5 : Hid (Below w.heap.size w w5) := Lib.hid (grown_below (((HB.out.trans (HB2.out.mono hsr))).alloc (by omega) _) (by simp; omega) (HO2.out.alloc _) hgrow); have HZ5 := Lib.hid (own_step HO.out HB2.out hgrow wr.heap.size (Nat.le_refl _) (by omega) |>.trans HZ2.out); obtain ⟨z0, z1, z2, z3, -⟩ := b4_cells HZ5.out; have hs5 := HG5.out.size; rw [show (X2.alloc (.cells #[.int .i64 off, .int .i64 (min (off + ln) f - off), .int .i64 ch, .int .i64 at0] 87)).heap.size = wr.heap.size + 3 by simp; omega] at hs5; clear hown' hgrow y0 y1 y2 y3))
          have hc1 := heap_alloc_new w5 (.cells #[.int .i64 off, .int .i64 ln, .int .i64 ch, .int .i64 at0] 87)
          have hBc : Below w5.heap.size w5 (w5.alloc (.cells #[.int .i64 off, .int .i64 ln, .int .i64 ch, .int .i64 at0] 87)) := (Below.refl _ _).alloc (Nat.le_refl _) _
          have hsc : (w5.alloc (.cells #[.int .i64 off, .int .i64 ln, .int .i64 ch, .int .i64 at0] 87)).heap.size = w5.heap.size + 1 := by simp
          have zc := (hBc.block wr.heap.size (by omega)).trans HZ5.out
          generalize w5.alloc (.cells #[.int .i64 off, .int .i64 ln, .int .i64 ch, .int .i64 at0] 87) = C1 at *
          clear z0 z1 z2 z3
          obtain ⟨y0, y1, y2, y3, yf⟩ := b4_cells hc1
          obtain ⟨z0, z1, z2, z3, -⟩ := b4_cells zc
          have hyf := yf 0
          have hn1 : (C1.setCell ⟨w5.heap.size, 0, none⟩ (.int .i64 (max off t))).heap[w5.heap.size]? = some (.cells #[.int .i64 (max off t), .int .i64 ln, .int .i64 ch, .int .i64 at0] 87 (0, 0)) := heap_setCell_at hc1 0 _
          have hnz : (C1.setCell ⟨w5.heap.size, 0, none⟩ (.int .i64 (max off t))).heap[wr.heap.size]? = some (.cells #[.int .i64 off, .int .i64 ln, .int .i64 ch, .int .i64 at0] 87 (0, 0)) := (Below.heap_setCell _ _ _ _ (by show wr.heap.size ≠ w5.heap.size; omega)).trans zc
          have hns : (C1.setCell ⟨w5.heap.size, 0, none⟩ (.int .i64 (max off t))).heap.size = w5.heap.size + 1 := by simp [World.setCell]; omega
          have hnB : Below w5.heap.size w5 (C1.setCell ⟨w5.heap.size, 0, none⟩ (.int .i64 (max off t))) := hBc.setCell (p := ⟨w5.heap.size, 0, none⟩) (by show w5.heap.size ≤ w5.heap.size; omega) _
          have HC := Lib.hid hn1
          have HZc := Lib.hid hnz
          have HBc := Lib.hid hnB
          clear yf hn1 hnz hnB hc1 zc hBc
          go_upto_region 14 with (fail)
          generalize C1.setCell ⟨w5.heap.size, 0, none⟩ (.int .i64 (max off t)) = C2 at *
          clear hyf y0 y1 y2 y3 z0 z1 z2 z3 hsc
          have hc1 := HC.out
          have zc := HZc.out
          have hBc := HBc.out
          have hsc := hns
          clear HC HZc HBc hns
          obtain ⟨y0, y1, y2, y3, yf⟩ := b4_cells hc1
          obtain ⟨z0, z1, z2, z3, -⟩ := b4_cells zc
          have hyf := yf 3
          have hn1 : (C2.setCell ⟨w5.heap.size, 3, none⟩ (.int .i64 (at0 + (max off t - off)))).heap[w5.heap.size]? = some (.cells #[.int .i64 (max off t), .int .i64 ln, .int .i64 ch, .int .i64 (at0 + (max off t - off))] 87 (0, 0)) := heap_setCell_at hc1 3 _
          have hnz : (C2.setCell ⟨w5.heap.size, 3, none⟩ (.int .i64 (at0 + (max off t - off)))).heap[wr.heap.size]? = some (.cells #[.int .i64 off, .int .i64 ln, .int .i64 ch, .int .i64 at0] 87 (0, 0)) := (Below.heap_setCell _ _ _ _ (by show wr.heap.size ≠ w5.heap.size; omega)).trans zc
          have hns : (C2.setCell ⟨w5.heap.size, 3, none⟩ (.int .i64 (at0 + (max off t - off)))).heap.size = w5.heap.size + 1 := by simp [World.setCell]; omega
          have hnB : Below w5.heap.size w5 (C2.setCell ⟨w5.heap.size, 3, none⟩ (.int .i64 (at0 + (max off t - off)))) := hBc.setCell (p := ⟨w5.heap.size, 3, none⟩) (by show w5.heap.size ≤ w5.heap.size; omega) _
          have HC := Lib.hid hn1
          have HZc := Lib.hid hnz
          have HBc := Lib.hid hnB
          clear yf hn1 hnz hnB hc1 zc hBc
          go_upto_region 15 with (fail)
          generalize C2.setCell ⟨w5.heap.size, 3, none⟩ (.int .i64 (at0 + (max off t - off))) = C3 at *
          clear hyf y0 y1 y2 y3 z0 z1 z2 z3 hsc
          have hc1 := HC.out
          have zc := HZc.out
          have hBc := HBc.out
          have hsc := hns
          clear HC HZc HBc hns
          obtain ⟨y0, y1, y2, y3, yf⟩ := b4_cells hc1
          obtain ⟨z0, z1, z2, z3, -⟩ := b4_cells zc
          have hyf := yf 1
          have hn1 : (C3.setCell ⟨w5.heap.size, 1, none⟩ (.int .i64 (off + ln - max off t))).heap[w5.heap.size]? = some (.cells #[.int .i64 (max off t), .int .i64 (off + ln - max off t), .int .i64 ch, .int .i64 (at0 + (max off t - off))] 87 (0, 0)) := heap_setCell_at hc1 1 _
          have hnz : (C3.setCell ⟨w5.heap.size, 1, none⟩ (.int .i64 (off + ln - max off t))).heap[wr.heap.size]? = some (.cells #[.int .i64 off, .int .i64 ln, .int .i64 ch, .int .i64 at0] 87 (0, 0)) := (Below.heap_setCell _ _ _ _ (by show wr.heap.size ≠ w5.heap.size; omega)).trans zc
          have hns : (C3.setCell ⟨w5.heap.size, 1, none⟩ (.int .i64 (off + ln - max off t))).heap.size = w5.heap.size + 1 := by simp [World.setCell]; omega
          have hnB : Below w5.heap.size w5 (C3.setCell ⟨w5.heap.size, 1, none⟩ (.int .i64 (off + ln - max off t))) := hBc.setCell (p := ⟨w5.heap.size, 1, none⟩) (by show w5.heap.size ≤ w5.heap.size; omega) _
          have HC := Lib.hid hn1
          have HZc := Lib.hid hnz
          have HBc := Lib.hid hnB
          clear yf hn1 hnz hnB hc1 zc hBc
          go_upto_region 16 with (fail)
          generalize C3.setCell ⟨w5.heap.size, 1, none⟩ (.int .i64 (off + ln - max off t)) = C4 at *
          clear hyf y0 y1 y2 y3 z0 z1 z2 z3 hsc
          have hc1 := HC.out
          have zc := HZc.out
          have hBc := HBc.out
          have hsc := hns
          clear HC HZc HBc hns
          obtain ⟨y0, y1, y2, y3, -⟩ := b4_cells hc1
          have HBc := Lib.hid hBc
          have HOc := Lib.hid (own_below_any HO5.out (HBc.out))
          clear hc1 zc hBc
          go_wp2_with (first | (at_builtin; refine wpList_append_own _ rfl (.tmp 67) (.tmp 69) 32 rfl w.heap.size 87 i0 _ 4 32 Tryz.underlying32 hi hz0 hz1 hz2 rfl (by decide) _ _ _ rfl (HOc.out.alloc _) ⟨w5.heap.size + 1, 0, none⟩ 1 1 [.int .i64 (max off t), .int .i64 (off + ln - max off t), .int .i64 ch, .int .i64 (at0 + (max off t - off))] rfl rfl (new4b _ _ _ _ _ _ _ (by omega)) (by intro u hu; simp at hu; rcases hu with rfl | rfl | rfl | rfl <;> rfl) (by unfold maxLen; omega) (by omega) (by simp; omega) ?_; intro v' w6 hown' hgrow hnil; clear hnil; have HO6 := Lib.hid hown'; have HB6 : Hid (Below w.heap.size w w6) := Lib.hid (grown_below ((HB5.out.trans (HBc.out.mono (by omega))).alloc (by omega) _) (by simp; omega) (HOc.out.alloc _) hgrow); clear hown' hgrow))
          refine ⟨⟨k + 1, by omega, by go_num, ?_, HB6⟩, by simp [intOf]; omega⟩
          have h := HO6.out
          rw [HM.out]
          rw [cells_two, List.length_append]
          exact Lib.hid h
        · have hBt' : decide (off + ln > t) = false := by simpa using hBt
          have hA1 : aheadD f ⟨off, ln, ch, at0⟩ = [⟨off, min (off + ln) f - off, ch, at0⟩] := by unfold aheadD; rw [if_pos hA]
          have hB1 : behindD t ⟨off, ln, ch, at0⟩ = [] := by unfold behindD; rw [if_neg hBt]
          have HM : Hid (withoutD (L.take (k + 1)) f t = M ++ [⟨off, min (off + ln) f - off, ch, at0⟩]) := Lib.hid (by rw [HWk.out, hA1, hB1]; rfl)
          clear hA1 hB1 HWk
          go_upto_region 9 with (fail)
          have hb1 := heap_alloc_new X (.cells #[.int .i64 off, .int .i64 ln, .int .i64 ch, .int .i64 at0] 87)
          have hB1 : Below X.heap.size X (X.alloc (.cells #[.int .i64 off, .int .i64 ln, .int .i64 ch, .int .i64 at0] 87)) := (Below.refl _ _).alloc (Nat.le_refl _) _
          have hs1 : (X.alloc (.cells #[.int .i64 off, .int .i64 ln, .int .i64 ch, .int .i64 at0] 87)).heap.size = X.heap.size + 1 := by simp
          rw [hsp] at hb1 hs1
          generalize X.alloc (.cells #[.int .i64 off, .int .i64 ln, .int .i64 ch, .int .i64 at0] 87) = X1 at *
          obtain ⟨y0, y1, y2, y3, yf⟩ := b4_cells hb1
          have z := (hB1.block wr.heap.size (by omega)).trans HBp.out
          obtain ⟨z0, z1, z2, z3, -⟩ := b4_cells z
          have hyf := yf 1
          have hX2 : (X1.setCell ⟨wr.heap.size + 1, 1, none⟩ (.int .i64 (min (off + ln) f - off))).heap[wr.heap.size + 1]? = some (.cells #[.int .i64 off, .int .i64 (min (off + ln) f - off), .int .i64 ch, .int .i64 at0] 87 (0, 0)) := heap_setCell_at hb1 1 _
          have hz2' : (X1.setCell ⟨wr.heap.size + 1, 1, none⟩ (.int .i64 (min (off + ln) f - off))).heap[wr.heap.size]? = some (.cells #[.int .i64 off, .int .i64 ln, .int .i64 ch, .int .i64 at0] 87 (0, 0)) := (Below.heap_setCell _ _ _ _ (by show wr.heap.size ≠ wr.heap.size + 1; omega)).trans z
          have hB2 : Below wr.heap.size wr (X1.setCell ⟨wr.heap.size + 1, 1, none⟩ (.int .i64 (min (off + ln) f - off))) := (HBX.out.trans (hB1.mono (by omega))).setCell (p := ⟨wr.heap.size + 1, 1, none⟩) (by show wr.heap.size ≤ wr.heap.size + 1; omega) _
          have hs2 : (X1.setCell ⟨wr.heap.size + 1, 1, none⟩ (.int .i64 (min (off + ln) f - off))).heap.size = wr.heap.size + 2 := by simp [World.setCell]; omega
          have HX2 := Lib.hid hX2
          have HZ2 := Lib.hid hz2'
          have HB2 := Lib.hid hB2
          clear yf x0 x1 x2 x3 hX2 hz2' hB2 hb1 hB1 z
          go_upto_region 10 with (fail)
          generalize X1.setCell ⟨wr.heap.size + 1, 1, none⟩ (.int .i64 (min (off + ln) f - off)) = X2 at *
          obtain ⟨y0, y1, y2, y3, -⟩ := b4_cells HX2.out
          obtain ⟨z0, z1, z2, z3, -⟩ := b4_cells HZ2.out
          have HO2 := Lib.hid (own_below_any HO.out HB2.out)
          clear hyf hs1
          go_wp2_with (first | (at_builtin; refine wpList_append_own _ rfl (.tmp 40) (.tmp 42) 32 rfl w.heap.size 87 i0 _ 4 32 Tryz.underlying32 hi hz0 hz1 hz2 rfl (by decide) _ _ _ rfl (HO2.out.alloc _) ⟨wr.heap.size + 2, 0, none⟩ 1 1 [.int .i64 off, .int .i64 (min (off + ln) f - off), .int .i64 ch, .int .i64 at0] rfl rfl (new4b _ _ _ _ _ _ _ (by omega)) (by intro u hu; simp at hu; rcases hu with rfl | rfl | rfl | rfl <;> rfl) (by unfold maxLen; omega) (by omega) (by simp; omega) ?_; intro v' w5 hown' hgrow hnil; clear hnil; have HO5 := Lib.hid hown'; have HG5 := Lib.hid hgrow; have HB5 : Hid (Below w.heap.size w w5) := Lib.hid (grown_below (((HB.out.trans (HB2.out.mono hsr))).alloc (by omega) _) (by simp; omega) (HO2.out.alloc _) hgrow); have HZ5 := Lib.hid (own_step HO.out HB2.out hgrow wr.heap.size (Nat.le_refl _) (by omega) |>.trans HZ2.out); obtain ⟨z0, z1, z2, z3, -⟩ := b4_cells HZ5.out; have hs5 := HG5.out.size; rw [show (X2.alloc (.cells #[.int .i64 off, .int .i64 (min (off + ln) f - off), .int .i64 ch, .int .i64 at0] 87)).heap.size = wr.heap.size + 3 by simp; omega] at hs5; clear hown' hgrow y0 y1 y2 y3))
          refine ⟨⟨k + 1, by omega, by go_num, ?_, HB5⟩, by simp [intOf]; omega⟩
          have h := HO5.out
          rw [HM.out]
          rw [cellsK_snoc, List.length_append, List.length_singleton]
          exact Lib.hid h
      · have hA' : decide (off < f) = false := by simpa using hA
        by_cases hBt : t < off + ln
        · have hBt' : decide (off + ln > t) = true := by simpa using hBt
          have hA1 : aheadD f ⟨off, ln, ch, at0⟩ = [] := by unfold aheadD; rw [if_neg hA]
          have hB1 : behindD t ⟨off, ln, ch, at0⟩ = [⟨max off t, off + ln - max off t, ch, at0 + (max off t - off)⟩] := by unfold behindD; rw [if_pos hBt]
          have HM : Hid (withoutD (L.take (k + 1)) f t = M ++ [⟨max off t, off + ln - max off t, ch, at0 + (max off t - off)⟩]) := Lib.hid (by rw [HWk.out, hA1, hB1]; rfl)
          clear hA1 hB1 HWk
          go_upto_region 13 with (fail)
          have hc1 := heap_alloc_new X (.cells #[.int .i64 off, .int .i64 ln, .int .i64 ch, .int .i64 at0] 87)
          have hBc : Below X.heap.size X (X.alloc (.cells #[.int .i64 off, .int .i64 ln, .int .i64 ch, .int .i64 at0] 87)) := (Below.refl _ _).alloc (Nat.le_refl _) _
          have hsc : (X.alloc (.cells #[.int .i64 off, .int .i64 ln, .int .i64 ch, .int .i64 at0] 87)).heap.size = X.heap.size + 1 := by simp
          rw [hsp] at hc1 hsc
          have zc := (hBc.block wr.heap.size (by omega)).trans HBp.out
          generalize X.alloc (.cells #[.int .i64 off, .int .i64 ln, .int .i64 ch, .int .i64 at0] 87) = C1 at *
          have hBw : Below wr.heap.size wr C1 := (HBX.out.trans (hBc.mono (by omega)))
          clear x0 x1 x2 x3
          obtain ⟨y0, y1, y2, y3, yf⟩ := b4_cells hc1
          obtain ⟨z0, z1, z2, z3, -⟩ := b4_cells zc
          have hyf := yf 0
          have hn1 : (C1.setCell ⟨wr.heap.size + 1, 0, none⟩ (.int .i64 (max off t))).heap[wr.heap.size + 1]? = some (.cells #[.int .i64 (max off t), .int .i64 ln, .int .i64 ch, .int .i64 at0] 87 (0, 0)) := heap_setCell_at hc1 0 _
          have hnz : (C1.setCell ⟨wr.heap.size + 1, 0, none⟩ (.int .i64 (max off t))).heap[wr.heap.size]? = some (.cells #[.int .i64 off, .int .i64 ln, .int .i64 ch, .int .i64 at0] 87 (0, 0)) := (Below.heap_setCell _ _ _ _ (by show wr.heap.size ≠ wr.heap.size + 1; omega)).trans zc
          have hns : (C1.setCell ⟨wr.heap.size + 1, 0, none⟩ (.int .i64 (max off t))).heap.size = wr.heap.size + 1 + 1 := by simp [World.setCell]; omega
          have hnB : Below X.heap.size X (C1.setCell ⟨wr.heap.size + 1, 0, none⟩ (.int .i64 (max off t))) := hBc.setCell (p := ⟨wr.heap.size + 1, 0, none⟩) (by show X.heap.size ≤ wr.heap.size + 1; omega) _
          have HC := Lib.hid hn1
          have HZc := Lib.hid hnz
          have HBc := Lib.hid hnB
          clear yf hn1 hnz hnB hc1 zc hBc
          go_upto_region 14 with (fail)
          generalize C1.setCell ⟨wr.heap.size + 1, 0, none⟩ (.int .i64 (max off t)) = C2 at *
          clear hyf y0 y1 y2 y3 z0 z1 z2 z3 hsc
          have hc1 := HC.out
          have zc := HZc.out
          have hBc := HBc.out
          have hsc := hns
          clear HC HZc HBc hns
          obtain ⟨y0, y1, y2, y3, yf⟩ := b4_cells hc1
          obtain ⟨z0, z1, z2, z3, -⟩ := b4_cells zc
          have hyf := yf 3
          have hn1 : (C2.setCell ⟨wr.heap.size + 1, 3, none⟩ (.int .i64 (at0 + (max off t - off)))).heap[wr.heap.size + 1]? = some (.cells #[.int .i64 (max off t), .int .i64 ln, .int .i64 ch, .int .i64 (at0 + (max off t - off))] 87 (0, 0)) := heap_setCell_at hc1 3 _
          have hnz : (C2.setCell ⟨wr.heap.size + 1, 3, none⟩ (.int .i64 (at0 + (max off t - off)))).heap[wr.heap.size]? = some (.cells #[.int .i64 off, .int .i64 ln, .int .i64 ch, .int .i64 at0] 87 (0, 0)) := (Below.heap_setCell _ _ _ _ (by show wr.heap.size ≠ wr.heap.size + 1; omega)).trans zc
          have hns : (C2.setCell ⟨wr.heap.size + 1, 3, none⟩ (.int .i64 (at0 + (max off t - off)))).heap.size = wr.heap.size + 1 + 1 := by simp [World.setCell]; omega
          have hnB : Below X.heap.size X (C2.setCell ⟨wr.heap.size + 1, 3, none⟩ (.int .i64 (at0 + (max off t - off)))) := hBc.setCell (p := ⟨wr.heap.size + 1, 3, none⟩) (by show X.heap.size ≤ wr.heap.size + 1; omega) _
          have HC := Lib.hid hn1
          have HZc := Lib.hid hnz
          have HBc := Lib.hid hnB
          clear yf hn1 hnz hnB hc1 zc hBc
          go_upto_region 15 with (fail)
          generalize C2.setCell ⟨wr.heap.size + 1, 3, none⟩ (.int .i64 (at0 + (max off t - off))) = C3 at *
          clear hyf y0 y1 y2 y3 z0 z1 z2 z3 hsc
          have hc1 := HC.out
          have zc := HZc.out
          have hBc := HBc.out
          have hsc := hns
          clear HC HZc HBc hns
          obtain ⟨y0, y1, y2, y3, yf⟩ := b4_cells hc1
          obtain ⟨z0, z1, z2, z3, -⟩ := b4_cells zc
          have hyf := yf 1
          have hn1 : (C3.setCell ⟨wr.heap.size + 1, 1, none⟩ (.int .i64 (off + ln - max off t))).heap[wr.heap.size + 1]? = some (.cells #[.int .i64 (max off t), .int .i64 (off + ln - max off t), .int .i64 ch, .int .i64 (at0 + (max off t - off))] 87 (0, 0)) := heap_setCell_at hc1 1 _
          have hnz : (C3.setCell ⟨wr.heap.size + 1, 1, none⟩ (.int .i64 (off + ln - max off t))).heap[wr.heap.size]? = some (.cells #[.int .i64 off, .int .i64 ln, .int .i64 ch, .int .i64 at0] 87 (0, 0)) := (Below.heap_setCell _ _ _ _ (by show wr.heap.size ≠ wr.heap.size + 1; omega)).trans zc
          have hns : (C3.setCell ⟨wr.heap.size + 1, 1, none⟩ (.int .i64 (off + ln - max off t))).heap.size = wr.heap.size + 1 + 1 := by simp [World.setCell]; omega
          have hnB : Below X.heap.size X (C3.setCell ⟨wr.heap.size + 1, 1, none⟩ (.int .i64 (off + ln - max off t))) := hBc.setCell (p := ⟨wr.heap.size + 1, 1, none⟩) (by show X.heap.size ≤ wr.heap.size + 1; omega) _
          have HC := Lib.hid hn1
          have HZc := Lib.hid hnz
          have HBc := Lib.hid hnB
          clear yf hn1 hnz hnB hc1 zc hBc
          go_upto_region 16 with (fail)
          generalize C3.setCell ⟨wr.heap.size + 1, 1, none⟩ (.int .i64 (off + ln - max off t)) = C4 at *
          clear hyf y0 y1 y2 y3 z0 z1 z2 z3 hsc
          have hc1 := HC.out
          have zc := HZc.out
          have hBc := HBc.out
          have hsc := hns
          clear HC HZc HBc hns
          obtain ⟨y0, y1, y2, y3, -⟩ := b4_cells hc1
          have HBc := Lib.hid hBc
          have HOc := Lib.hid (own_below_any HO.out ((HBX.out.trans (HBc.out.mono (by omega)))))
          clear hc1 zc hBc
          go_wp2_with (first | (at_builtin; refine wpList_append_own _ rfl (.tmp 67) (.tmp 69) 32 rfl w.heap.size 87 i0 _ 4 32 Tryz.underlying32 hi hz0 hz1 hz2 rfl (by decide) _ _ _ rfl (HOc.out.alloc _) ⟨wr.heap.size + 1 + 1, 0, none⟩ 1 1 [.int .i64 (max off t), .int .i64 (off + ln - max off t), .int .i64 ch, .int .i64 (at0 + (max off t - off))] rfl rfl (new4b _ _ _ _ _ _ _ (by omega)) (by intro u hu; simp at hu; rcases hu with rfl | rfl | rfl | rfl <;> rfl) (by unfold maxLen; omega) (by omega) (by simp; omega) ?_; intro v' w6 hown' hgrow hnil; clear hnil; have HO6 := Lib.hid hown'; have HB6 : Hid (Below w.heap.size w w6) := Lib.hid (grown_below (((HB.out.trans (HBX.out.mono hsr)).trans (HBc.out.mono (by omega))).alloc (by omega) _) (by simp; omega) (HOc.out.alloc _) hgrow); clear hown' hgrow))
          refine ⟨⟨k + 1, by omega, by go_num, ?_, HB6⟩, by simp [intOf]; omega⟩
          have h := HO6.out
          rw [HM.out]
          rw [cellsK_snoc, List.length_append, List.length_singleton]
          exact Lib.hid h
        · have hBt' : decide (off + ln > t) = false := by simpa using hBt
          have hA1 : aheadD f ⟨off, ln, ch, at0⟩ = [] := by unfold aheadD; rw [if_neg hA]
          have hB1 : behindD t ⟨off, ln, ch, at0⟩ = [] := by unfold behindD; rw [if_neg hBt]
          have HM : Hid (withoutD (L.take (k + 1)) f t = M ++ []) := Lib.hid (by rw [HWk.out, hA1, hB1]; rfl)
          clear hA1 hB1 HWk
          go_wp2
          refine ⟨⟨k + 1, by omega, by go_num, ?_, Lib.hid (HB.out.trans (HBX.out.mono hsr))⟩, by simp [intOf]; omega⟩
          have h := HO.out
          rw [HM.out]
          rw [List.append_nil]
          exact Lib.hid (own_below_any h HBX.out)
    · obtain rfl : k = L.length := by omega
      have hlt' : decide ((L.length : Int) < (L.length : Int)) = false := by simp
      have ho := HO.out
      rw [List.take_length] at ho
      have HO2 := Lib.hid ho
      clear hlt HO ho
      go_wp2
      go_ret
      exact ⟨_, rfl, HO2.out, HB.out⟩
end Go.Proofs.YtiegadfhgccliaaGreatDoor
