/- Package body, by hand: Write. Printed by gen_write.py. -/
import Derived.Test.YtiegadfhgccliaaGreatDoorMFoldC
set_option linter.unusedVariables false
set_option linter.unusedSimpArgs false
namespace Go.Proofs.YtiegadfhgccliaaGreatDoor
open Go.RowKit Go.Lib

theorem behind_take {L : List Bp} {k : Nat} (hk : k < L.length) (q : Int) : (L.take (k + 1)).filterMap (behindP q) = (L.take k).filterMap (behindP q) ++ (behindP q (L.getD k default)).toList := by
  rw [take_at hk, List.filterMap_append]
  generalize L.getD k default = x
  cases h : behindP q x <;> simp [h]
theorem own_mono {w : World} {base b2 : Nat} {e : TypeId} {size : Nat} {v : Value} {n : Nat} {xs : List Value} (h : w.ownsRow base e size v n xs) (hb : b2 ≤ base) : w.ownsRow b2 e size v n xs := by
  refine ⟨h.1, ?_⟩
  rcases h.2 with h2 | ⟨g, cap, cur, e1, h1, h3⟩
  · exact .inl h2
  · exact .inr ⟨g, cap, cur, e1, by omega, h3⟩
theorem sumP_append : ∀ (x y : List Bp), sumP (x ++ y) = sumP x + sumP y
  | [], y => by rw [List.nil_append]; show sumP y = 0 + sumP y; omega
  | p :: r, y => by show p.ln + sumP (r ++ y) = p.ln + sumP r + sumP y; rw [sumP_append r y]; omega
theorem layP_append : ∀ (x y : List Bp) (q : Int), layP q (x ++ y) = layP q x ++ layP (q + sumP x) y
  | [], y, q => by simp [layP, sumP]
  | p :: r, y, q => by rw [List.cons_append]; simp only [layP, sumP]; rw [layP_append r y, List.cons_append, Int.add_assoc]
theorem sum_take {l : List Bp} {k : Nat} (hk : k < l.length) : sumP (l.take (k + 1)) = sumP (l.take k) + (l.getD k default).ln := by
  rw [take_at hk, sumP_append]; simp [sumP]
theorem lay_take {l : List Bp} {k : Nat} (hk : k < l.length) (q : Int) : layP q (l.take (k + 1)) = layP q (l.take k) ++ [⟨q + sumP (l.take k), (l.getD k default).ln, (l.getD k default).ch, (l.getD k default).at_⟩] := by
  rw [take_at hk, layP_append]; simp [layP]
theorem sumP_le : ∀ {l : List Bp}, l.all fitsP = true → 0 ≤ sumP l ∧ sumP l ≤ 64 * l.length
  | [], _ => by simp [sumP]
  | p :: r, h => by
    rw [List.all_cons, Bool.and_eq_true] at h
    have f := fitsP_spec h.1
    have := sumP_le h.2
    unfold sumP
    rw [List.length_cons]
    omega
theorem sum_between {l : List Bp} (h : l.all fitsP = true) (k : Nat) : 0 ≤ sumP (l.take k) ∧ sumP (l.take k) ≤ sumP l := by
  have e := sumP_append (l.take k) (l.drop k)
  rw [List.take_append_drop] at e
  rw [← List.take_append_drop k l, List.all_append, Bool.and_eq_true] at h
  have a := sumP_le h.1
  have b := sumP_le h.2
  omega
set_option maxRecDepth 100000 in
set_option maxHeartbeats 16000000 in
theorem write_yes (size off : Int) (L l : List Bp) (a a2 : Option Addr) (c c2 : Nat) (w : World) (hS : SlPt w a L) (hc : L.length ≤ c) (hl : L.length ≤ 1000000000) (hS2 : SlPt w a2 l) (hc2 : l.length ≤ c2) (hml : l.length ≤ 1000000) (hm : mayBd ⟨size, L⟩ = true) (hf : l.all fitsP = true) (o1 : 0 ≤ off) (o2 : off ≤ 1099511627776 - sumP l) :
    Calls Tryz.prog 59 #[.agg #[.int .i64 size, .slice a L.length c], .int .i64 off, .slice a2 l.length c2] w fun e w' => ∃ v, e = .returned (.tuple #[.agg #[.int .i64 (if l = [] then size else max size (off + sumP l)), v], .int .i64 0]) ∧
      w'.ownsRow w.heap.size 40 4 v (if l = [] then L else L.filterMap (aheadP off) ++ layP off l ++ L.filterMap (behindP (off + sumP l))).length (encP.cells (if l = [] then L else L.filterMap (aheadP off) ++ layP off l ++ L.filterMap (behindP (off + sumP l)))) ∧ Below w.heap.size w w' := by
  obtain ⟨zz, hzz⟩ : ∃ z, (if l = [] then size else max size (off + sumP l)) = z := ⟨_, rfl⟩
  obtain ⟨RS, hrs⟩ : ∃ R, (if l = [] then L else L.filterMap (aheadP off) ++ layP off l ++ L.filterMap (behindP (off + sumP l))) = R := ⟨_, rfl⟩
  rw [hzz, hrs]
  have HZZ := Lib.hid hzz
  have HRS := Lib.hid hrs
  clear hzz hrs
  have hb0 := Below.heap_alloc (w.alloc (.cells #[.int .i64 size, .slice a L.length c] 47)) (.cells #[.int .i64 0, .slice none 0 0] 47) w.heap.size (by simp)
  rw [heap_alloc_new] at hb0
  have hb1 := heap_alloc_new (w.alloc (.cells #[.int .i64 size, .slice a L.length c] 47)) (.cells #[.int .i64 0, .slice none 0 0] 47)
  have hsv1 : (w.alloc (.cells #[.int .i64 size, .slice a L.length c] 47)).heap.size = w.heap.size + 1 := by simp
  rw [hsv1] at hb1
  have hBV : Below w.heap.size w ((w.alloc (.cells #[.int .i64 size, .slice a L.length c] 47)).alloc (.cells #[.int .i64 0, .slice none 0 0] 47)) := ((Below.refl _ _).alloc (Nat.le_refl _) _).alloc (by omega) _
  have hsV : ((w.alloc (.cells #[.int .i64 size, .slice a L.length c] 47)).alloc (.cells #[.int .i64 0, .slice none 0 0] 47)).heap.size = w.heap.size + 2 := by simp
  have HMy : Hid (∀ V, SlPt V a L → Calls Tryz.prog 56 #[.agg #[.int .i64 size, .slice a L.length c]] V fun e w' => e = .returned (.bool true) ∧ Below V.heap.size V w') := Lib.hid fun V h => by have := bmay_any ⟨size, L⟩ a c V h hc hl; rw [hm] at this; exact this
  have HCo : Hid (∀ V, SlPt V a2 l → Calls Tryz.prog 89 #[.slice a2 l.length c2, .func (.func 90) #[] #[]] V fun e w' => e = .returned (.bool false) ∧ Below V.heap.size V w') := Lib.hid fun V h => by have := contains_part l a2 c2 V h hc2 (by omega); rw [hf] at this; exact this
  have HP := Lib.hid (pin_of (mayBd_spec hm).2.1 (Int.le_refl 0) (mayBd_spec hm).2.2)
  have HS := Lib.hid hS
  have HS2 := Lib.hid hS2
  have HCl : Hid (∀ V, Below w.heap.size w V → Calls Tryz.prog 39 #[.slice a L.length c] V fun e w' => ∃ v, e = .returned v ∧ w'.ownsRow V.heap.size 40 4 v L.length (encP.cells L) ∧ Below V.heap.size V w') := Lib.hid fun V h => bclone_any L a c V (hS.below h) hc hl
  obtain ⟨i0, hi, hz0, hz1, hz2⟩ := info_parts info_part
  have hsl := sumP_le hf
  have HSB := Lib.hid (fun k => sum_between hf k)
  have HF := Lib.hid (fun p (hp : p ∈ l) => fitsP_spec (List.all_eq_true.1 hf p hp))
  clear hS hS2 hm hf
  go_enter Tryz.func59, Tryz.ntmps59
  go_upto_region 1 with (fail)
  generalize (w.alloc (.cells #[.int .i64 size, .slice a L.length c] 47)).alloc (.cells #[.int .i64 0, .slice none 0 0] 47) = V at *
  clear hsv1
  obtain ⟨e0, e1⟩ := b2_cells hb0
  go_upto_region 3 with (first | (go_at_call 56; refine (HMy.out _ (HS.out.below hBV)).mono ?_; rintro e V1 ⟨rfl, hB1⟩) | (go_at_call 89; refine (HCo.out _ (HS2.out.below (blw hBV hB1))).mono ?_; rintro e V2 ⟨rfl, hB2⟩))
  have k0 := (hB2.block w.heap.size (by have := hB1.size; omega)).trans ((hB1.block w.heap.size (by omega)).trans hb0)
  have k1 := (hB2.block (w.heap.size + 1) (by have := hB1.size; omega)).trans ((hB1.block (w.heap.size + 1) (by omega)).trans hb1)
  have HB := Lib.hid (blw (blw hBV hB1) hB2)
  have hs1 := hB1.size
  have hs2 := hB2.size
  have HK0 := Lib.hid k0
  have HK1 := Lib.hid k1
  clear hBV hB1 hB2 hb0 hb1 e0 e1 HMy HCo k0 k1
  go_wp2
  go_loopw [8, 33] (fun n i wr => ∃ k : Nat, k ≤ l.length ∧ n = .int .i64 (sumP (l.take k)) ∧ i = .int .i64 (k : Int) ∧ Hid (Below V2.heap.size V2 wr)) (fun _ i _ => l.length - (intOf i).toNat)
  case atStart => exact ⟨0, by omega, by simp [sumP], rfl, Lib.hid (Below.refl _ _)⟩
  case round =>
    obtain ⟨k, hk, rfl, rfl, HBr⟩ := hrel
    by_cases hlt : k < l.length
    · obtain ⟨bb, o, rfl, p0, p1, p2, p3, hbl⟩ := SlPt_at (HS2.out.below (blw HB.out HBr.out)) hlt
      have hki : (k : Int) < (l.length : Int) := by omega
      have hkc : (k : Int) < (c2 : Int) := by omega
      have HT := Lib.hid (sum_take hlt)
      have b1 := HSB.out k
      have b2 := HSB.out (k + 1)
      rw [HT.out] at b2
      generalize sumP (l.take k) = s at *
      generalize L.getD k default = z0 at *
      generalize l.getD k default = p at *
      obtain ⟨po, pl, pc, pa⟩ := p
      dsimp only at p0 p1 p2 p3 HT b2
      have HS3 : Hid (wrap64 (s + pl) = s + pl) := Lib.hid (w64 (by omega) (by omega))
      clear b1 b2
      go_upto_region 7 with (fail)
      have hbp := heap_alloc_new wr (.cells #[.int .i64 po, .int .i64 pl, .int .i64 pc, .int .i64 pa] 40)
      have HBp : Hid (Below V2.heap.size V2 (wr.alloc (.cells #[.int .i64 po, .int .i64 pl, .int .i64 pc, .int .i64 pa] 40))) := Lib.hid (HBr.out.alloc HBr.out.size _)
      generalize wr.alloc (.cells #[.int .i64 po, .int .i64 pl, .int .i64 pc, .int .i64 pa] 40) = Wp at *
      obtain ⟨n0, n1, n2, n3⟩ := b4_facts hbp
      clear hbp p0 p1 p2 p3 hsl o1 o2
      go_wp2
      exact ⟨⟨k + 1, by omega, by rw [HT.out, HS3.out], by go_num, HBp⟩, by simp [intOf]; omega⟩
    · obtain rfl : k = l.length := by omega
      have hlt' : decide ((l.length : Int) < (l.length : Int)) = false := by simp
      have ht : l.take l.length = l := List.take_length
      rw [ht]
      have k0 := (HBr.out.block w.heap.size (by omega)).trans HK0.out
      have HK1' := Lib.hid ((HBr.out.block (w.heap.size + 1) (by omega)).trans HK1.out)
      have HB' := Lib.hid (blw HB.out HBr.out)
      have hsr := HBr.out.size
      obtain ⟨m0, m1⟩ := b2_cells k0
      have HK0' := Lib.hid k0
      clear hlt ht HBr HB HK0 HK1 k0
      obtain ⟨s, hs⟩ : ∃ s, sumP l = s := ⟨_, rfl⟩
      have HSS := Lib.hid hs
      rw [hs] at hsl o2 HSB ⊢
      clear hs
      have hw : wrap64 (1099511627776 - s) = 1099511627776 - s := w64 (by omega) (by omega)
      have hq1 : decide (off < 0) = false := by simpa using o1
      have hq2 : decide (off > 1099511627776 - s) = false := by simpa using o2
      go_upto_region 12 with (fail)
      have ho := heap_alloc_new wr (.cells #[.int .i64 size, .slice none 0 0] 47)
      have hBo : Below wr.heap.size wr (wr.alloc (.cells #[.int .i64 size, .slice none 0 0] 47)) := (Below.refl _ _).alloc (Nat.le_refl _) _
      have hO1 : w.heap.size + 1 < wr.heap.size := by omega
      generalize wr.alloc (.cells #[.int .i64 size, .slice none 0 0] 47) = W at *
      have hj0 := (hBo.block w.heap.size (by omega)).trans HK0'.out
      have HSt1 := Lib.hid ho
      have HSt2 := Lib.hid ((hBo.block (w.heap.size + 1) (by omega)).trans HK1'.out)
      have HSt3 := Lib.hid hj0
      have HSt4 : Hid (W.ownsRow w.heap.size 40 4 (.slice none 0 0) ([] : List Bp).length (encP.cells ([] : List Bp))) := Lib.hid (World.ownsRow_nil _ _ _ _)
      have HSt5 := Lib.hid (blw HB'.out hBo)
      obtain ⟨m0, m1⟩ := b2_cells hj0
      generalize wr.heap.size = O at *
      clear hj0 ho hBo HK0' HK1' HB' hw hq1 hq2
      go_wp2
      go_loopw [57] (fun i wr => ∃ (k : Nat) (v : Value), k ≤ L.length ∧ i = .int .i64 (k : Int) ∧ Hid (wr.heap[O]? = some (.cells #[.int .i64 size, v] 47 (0, 0))) ∧ Hid (wr.heap[w.heap.size + 1]? = some (.cells #[.int .i64 0, .slice none 0 0] 47 (0, 0))) ∧ Hid (wr.heap[w.heap.size]? = some (.cells #[.int .i64 size, .slice a L.length c] 47 (0, 0))) ∧ Hid (wr.ownsRow w.heap.size 40 4 v ((L.take k).filterMap (aheadP off)).length (encP.cells ((L.take k).filterMap (aheadP off)))) ∧ Hid (Below w.heap.size w wr)) (fun i _ => L.length - (intOf i).toNat)
      case atStart => exact ⟨0, _, by omega, rfl, HSt1, HSt2, HSt3, by simpa using HSt4, HSt5⟩
      case round =>
        obtain ⟨k, v, hk, rfl, HO, HR, H0, HW, HB⟩ := hrel
        have hsr := HB.out.size
        have hOr := (Array.getElem?_eq_some_iff.1 HO.out).1
        by_cases hlt : k < L.length
        · obtain ⟨bb, o, rfl, p0, p1, p2, p3, hbl⟩ := SlPt_at (HS.out.below HB.out) hlt
          have hki : (k : Int) < (L.length : Int) := by omega
          have hkc : (k : Int) < (c : Int) := by omega
          have hml : ((L.take k).filterMap (aheadP off)).length ≤ 1500000000 + k := by have := List.length_filterMap_le (aheadP off) (L.take k); rw [List.length_take] at this; (try simp only [List.length_append]); omega
          have HTk := Lib.hid (ahead_take hlt off)
          have HA : Hid (∀ V, Calls Tryz.prog 60 #[.agg #[.int .i64 (L.getD k default).off, .int .i64 (L.getD k default).ln, .int .i64 (L.getD k default).ch, .int .i64 (L.getD k default).at_], .int .i64 off] V fun e w' => e = .returned (cutV (aheadP off (L.getD k default))) ∧ Below V.heap.size V w') := Lib.hid fun V => ahead_any _ _ V (HP.out _ (by simp [List.getD, hlt])) (by omega) (by omega)
          generalize (L.take k).filterMap (aheadP off) = M0 at *
          generalize aheadP off (L.getD k default) = r at *
          generalize L.getD k default = p at *
          obtain ⟨po, pl, pc, pa⟩ := p
          dsimp only at p0 p1 p2 p3 HA
          go_upto_region 15 with (fail)
          have hbp := heap_alloc_new wr (.cells #[.int .i64 po, .int .i64 pl, .int .i64 pc, .int .i64 pa] 40)
          have hBp : Below wr.heap.size wr (wr.alloc (.cells #[.int .i64 po, .int .i64 pl, .int .i64 pc, .int .i64 pa] 40)) := (Below.refl _ _).alloc (Nat.le_refl _) _
          generalize wr.alloc (.cells #[.int .i64 po, .int .i64 pl, .int .i64 pc, .int .i64 pa] 40) = X at *
          have HBp := Lib.hid hBp
          have hsX := hBp.size
          obtain ⟨n0, n1, n2, n3⟩ := b4_facts hbp
          clear hbp p0 p1 p2 p3 hBp
          cases r with
          | none =>
            have HTk2 : Hid ((L.take (k + 1)).filterMap (aheadP off) = M0) := Lib.hid (by rw [HTk.out]; simp)
            clear HTk
            dsimp only [cutV] at HA
            go_wp2_with (go_at_call 60; refine (HA.out _).mono ?_; rintro e Y ⟨rfl, hBY⟩; have HBY : Hid (Below wr.heap.size wr (Y.alloc (.cells #[.int .i64 0, .int .i64 0, .int .i64 0, .int .i64 0] 40))) := Lib.hid ((HBp.out.trans (hBY.mono hsX)).alloc (by have := hBY.size; omega) _); clear hBY)
            exact ⟨⟨k + 1, v, by omega, by go_num, Lib.hid ((HBY.out.block O hOr).trans HO.out), Lib.hid ((HBY.out.block _ (by omega)).trans HR.out), Lib.hid ((HBY.out.block _ (by omega)).trans H0.out), Lib.hid (by rw [HTk2.out]; exact own_bel HW.out HBY.out), Lib.hid (blw HB.out HBY.out)⟩, by simp [intOf]; omega⟩
          | some x =>
            have HTk2 : Hid ((L.take (k + 1)).filterMap (aheadP off) = (M0) ++ [x]) := Lib.hid (by rw [HTk.out]; simp)
            clear HTk
            obtain ⟨xo, xl, xc, xa⟩ := x
            dsimp only [cutV] at HA
            generalize hMM : M0 = M at *
            clear hMM
            go_upto_region 16 with (go_at_call 60; refine (HA.out _).mono ?_; rintro e Y ⟨rfl, hBY⟩)
            have hby := heap_alloc_new Y (.cells #[.int .i64 xo, .int .i64 xl, .int .i64 xc, .int .i64 xa] 40)
            have hsY := hBY.size
            have HBY : Hid (Below wr.heap.size wr (Y.alloc (.cells #[.int .i64 xo, .int .i64 xl, .int .i64 xc, .int .i64 xa] 40))) := Lib.hid ((HBp.out.trans (hBY.mono hsX)).alloc (by omega) _)
            have hsZ : Y.heap.size < (Y.alloc (.cells #[.int .i64 xo, .int .i64 xl, .int .i64 xc, .int .i64 xa] 40)).heap.size := by simp
            generalize Y.alloc (.cells #[.int .i64 xo, .int .i64 xl, .int .i64 xc, .int .i64 xa] 40) = Z at *
            have HZO := Lib.hid ((HBY.out.block O hOr).trans HO.out)
            have HZR := Lib.hid ((HBY.out.block _ (by omega : w.heap.size + 1 < wr.heap.size)).trans HR.out)
            have HZ0 := Lib.hid ((HBY.out.block _ (by omega : w.heap.size < wr.heap.size)).trans H0.out)
            have HZW := Lib.hid (own_bel HW.out HBY.out)
            have HZB := Lib.hid (blw HB.out HBY.out)
            obtain ⟨o0, o1⟩ := b2_cells HZO.out
            obtain ⟨y0, y1, y2, y3⟩ := b4_facts hby
            clear hBY hby n0 n1 n2 n3 HA HBp HO HR H0 HW
            go_wp2_with (at_builtin; refine wpList_append_own _ rfl (.tmp 69) (.tmp 71) 35 rfl w.heap.size 40 i0 _ 4 32 Tryz.underlying35 hi hz0 hz1 hz2 rfl (by decide) _ _ _ rfl (own_bel HZW.out ((Below.refl _ _).alloc (Nat.le_refl _) _)) ⟨Z.heap.size, 0, none⟩ 1 1 [.int .i64 xo, .int .i64 xl, .int .i64 xc, .int .i64 xa] rfl rfl (new4 _ _ _ _ _ _ _ rfl) (encP_one ⟨xo, xl, xc, xa⟩) (by unfold maxLen; omega) (by omega) (by simp; omega) ?_; intro v' w5 hown' hgrow hnil; clear hnil; obtain ⟨a5, c5, rfl⟩ := own_form hown'; have HO5 := Lib.hid hown'; have hbZ : Below Z.heap.size Z (Z.alloc (.cells #[.int .i64 xo, .int .i64 xl, .int .i64 xc, .int .i64 xa] 40)) := (Below.refl _ _).alloc (Nat.le_refl _) _; have hn := own_bel HZW.out hbZ; have hO5 := (hgrow.block O (by simp; omega) (own_ne hn ((hbZ.block O (by omega)).trans HZO.out) (by decide))).trans ((hbZ.block O (by omega)).trans HZO.out); have hR5 := (hgrow.block (w.heap.size + 1) (by simp; omega) (own_ne hn ((hbZ.block _ (by omega)).trans HZR.out) (by decide))).trans ((hbZ.block _ (by omega)).trans HZR.out); have h05 := (hgrow.block w.heap.size (by simp; omega) (own_ne hn ((hbZ.block _ (by omega)).trans HZ0.out) (by decide))).trans ((hbZ.block _ (by omega)).trans HZ0.out); have HB5 : Hid (Below w.heap.size w w5) := Lib.hid (grown_below (HZB.out.alloc (by omega) _) (by simp; omega) hn hgrow); obtain ⟨c0, c1⟩ := b2_cells hO5; have cf := b2_fz hO5 1; have H5 := Lib.hid hO5; have HR5 := Lib.hid hR5; have H05 := Lib.hid h05; clear hown' hgrow hn hO5 hR5 h05 hbZ o0 o1 y0 y1 y2 y3)
            refine ⟨⟨k + 1, .slice a5 _ c5, by omega, by go_num, Lib.hid (heap_setCell_at H5.out 1 _), Lib.hid ((Below.heap_setCell _ _ _ _ (by show w.heap.size + 1 ≠ O; omega)).trans HR5.out), Lib.hid ((Below.heap_setCell _ _ _ _ (by show w.heap.size ≠ O; omega)).trans H05.out), Lib.hid ?_, Lib.hid (HB5.out.setCell (p := ⟨O, 1, none⟩) (by show w.heap.size ≤ O; omega) _)⟩, by simp [intOf]; omega⟩
            have h5 := own_set_other HO5.out H5.out (by decide) 1 (.slice a5 (M.length + 1) c5)
            rw [HTk2.out, List.length_append, List.length_singleton, cellsK_snoc]
            exact h5

        · obtain rfl : k = L.length := by omega
          have hlt' : decide ((L.length : Int) < (L.length : Int)) = false := by simp
          have ht : L.take L.length = L := List.take_length
          rw [ht] at HW
          have hA : (L.filterMap (aheadP off)).length ≤ 1000000000 := Nat.le_trans (List.length_filterMap_le _ _) hl
          obtain ⟨A, hA0⟩ : ∃ A, L.filterMap (aheadP off) = A := ⟨_, rfl⟩
          have HA0 := Lib.hid hA0
          rw [hA0] at HW hA
          clear hlt ht hA0
          have HSt1 := HO
          have HSt2 := HR
          have HSt3 := H0
          have HSt4 := HW
          have HSt5 := HB
          clear HO HR H0 HW HB
          go_wp2
          go_loopw [16, 78] (fun at1 i wr => ∃ (k : Nat) (v : Value), k ≤ l.length ∧ at1 = .int .i64 (off + sumP (l.take k)) ∧ i = .int .i64 (k : Int) ∧ Hid (wr.heap[O]? = some (.cells #[.int .i64 size, v] 47 (0, 0))) ∧ Hid (wr.heap[w.heap.size + 1]? = some (.cells #[.int .i64 0, .slice none 0 0] 47 (0, 0))) ∧ Hid (wr.heap[w.heap.size]? = some (.cells #[.int .i64 size, .slice a L.length c] 47 (0, 0))) ∧ Hid (wr.ownsRow w.heap.size 40 4 v (A ++ layP off (l.take k)).length (encP.cells (A ++ layP off (l.take k)))) ∧ Hid (Below w.heap.size w wr)) (fun _ i _ => l.length - (intOf i).toNat)
          case atStart => exact ⟨0, _, by omega, by simp [sumP], rfl, HSt1, HSt2, HSt3, by simpa [layP] using HSt4, HSt5⟩
          case round =>
            obtain ⟨k, v, hk, rfl, rfl, HO, HR, H0, HW, HB⟩ := hrel
            have hsr := HB.out.size
            have hOr := (Array.getElem?_eq_some_iff.1 HO.out).1
            by_cases hlt : k < l.length
            · obtain ⟨bb, o, rfl, p0, p1, p2, p3, hbl⟩ := SlPt_at (HS2.out.below HB.out) hlt
              have hki : (k : Int) < (l.length : Int) := by omega
              have hkc : (k : Int) < (c2 : Int) := by omega
              have HT := Lib.hid (sum_take hlt)
              have HTk := Lib.hid (lay_take hlt off)
              have b1 := HSB.out k
              have b2 := HSB.out (k + 1)
              have b3 := HF.out (l.getD k default) (by simp [List.getD, hlt])
              rw [HT.out] at b2
              have hml : (A ++ layP off (l.take k)).length ≤ 1100000000 := by rw [List.length_append, layP_len, List.length_take]; omega
              generalize layP off (l.take k) = M0 at *
              generalize sumP (l.take k) = sk at *
              generalize l.getD k default = p at *
              obtain ⟨po, pl, pc, pa⟩ := p
              dsimp only at p0 p1 p2 p3 HT HTk b2 b3
              obtain ⟨t1, ht1⟩ : ∃ x, x = off + sk := ⟨_, rfl⟩
              obtain ⟨t2, ht2⟩ : ∃ x, x = off + sk + pl := ⟨_, rfl⟩
              have HTk2 : Hid (A ++ layP off (l.take (k + 1)) = A ++ M0 ++ [⟨t1, pl, pc, pa⟩]) := Lib.hid (by rw [HTk.out, ht1]; simp)
              have HEn : Hid (∀ X, Calls Tryz.prog 87 #[.agg #[.int .i64 t1, .int .i64 pl, .int .i64 pc, .int .i64 pa]] X fun e w' => e = .returned (.int .i64 t2) ∧ Below X.heap.size X w') := Lib.hid fun X => by have := end_any ⟨t1, pl, pc, pa⟩ X (by dsimp only; omega) (by dsimp only; omega); rw [ht2, ← ht1]; exact this
              have HT2 : Hid (t2 = off + sumP (l.take (k + 1))) := Lib.hid (by rw [HT.out, ht2, Int.add_assoc])
              rw [← ht1]
              clear HTk HT b1 b2 b3 ht1 ht2
              generalize A ++ M0 = M at *
              go_upto_region 23 with (fail)
              have hbp := heap_alloc_new wr (.cells #[.int .i64 po, .int .i64 pl, .int .i64 pc, .int .i64 pa] 40)
              have hBp : Below wr.heap.size wr (wr.alloc (.cells #[.int .i64 po, .int .i64 pl, .int .i64 pc, .int .i64 pa] 40)) := (Below.refl _ _).alloc (Nat.le_refl _) _
              generalize wr.alloc (.cells #[.int .i64 po, .int .i64 pl, .int .i64 pc, .int .i64 pa] 40) = X at *
              have HBp := Lib.hid hBp
              have hsX := hBp.size
              obtain ⟨n0, n1, n2, n3⟩ := b4_facts hbp
              have nf := b4_froz hbp 0
              have HX1 := Lib.hid (heap_setCell_at hbp 0 (.int .i64 t1))
              have HB1 : Hid (Below wr.heap.size wr (X.setCell ⟨wr.heap.size, 0, none⟩ (.int .i64 t1))) := Lib.hid (hBp.setCell (p := ⟨wr.heap.size, 0, none⟩) (Nat.le_refl _) _)
              clear hbp p0 p1 p2 p3 hBp
              go_upto_region 24 with (fail)
              generalize X.setCell ⟨wr.heap.size, 0, none⟩ (.int .i64 t1) = X1 at *
              have hsX1 := HB1.out.size
              have hX1l := (Array.getElem?_eq_some_iff.1 HX1.out).1
              clear n0 n1 n2 n3 nf
              obtain ⟨n0, n1, n2, n3⟩ := b4_facts HX1.out
              go_upto_region 25 with (go_at_call 87; refine (HEn.out _).mono ?_; rintro e Z ⟨rfl, hBZ⟩)
              have HBY := Lib.hid (HB1.out.trans (hBZ.mono hsX1))
              have HZO := Lib.hid ((HBY.out.block O hOr).trans HO.out)
              have HZR := Lib.hid ((HBY.out.block _ (by omega : w.heap.size + 1 < wr.heap.size)).trans HR.out)
              have HZ0 := Lib.hid ((HBY.out.block _ (by omega : w.heap.size < wr.heap.size)).trans H0.out)
              have HZW := Lib.hid (own_bel HW.out HBY.out)
              have HZB := Lib.hid (blw HB.out HBY.out)
              have hsZ := hBZ.size
              obtain ⟨o0, o1'⟩ := b2_cells HZO.out
              clear n0 n1 n2 n3
              obtain ⟨y0, y1, y2, y3⟩ := b4_facts ((hBZ.block wr.heap.size hX1l).trans HX1.out)
              clear hBZ HBp HO HR H0 HW HX1 HB1 HEn
              go_wp2_with (at_builtin; refine wpList_append_own _ rfl (.tmp 87) (.tmp 89) 35 rfl w.heap.size 40 i0 _ 4 32 Tryz.underlying35 hi hz0 hz1 hz2 rfl (by decide) _ _ _ rfl (own_bel HZW.out ((Below.refl _ _).alloc (Nat.le_refl _) _)) ⟨Z.heap.size, 0, none⟩ 1 1 [.int .i64 t1, .int .i64 pl, .int .i64 pc, .int .i64 pa] rfl rfl (new4 _ _ _ _ _ _ _ rfl) (encP_one ⟨t1, pl, pc, pa⟩) (by unfold maxLen; omega) (by omega) (by simp; omega) ?_; intro v' w5 hown' hgrow hnil; clear hnil; obtain ⟨a5, c5, rfl⟩ := own_form hown'; have HO5 := Lib.hid hown'; have hbZ : Below Z.heap.size Z (Z.alloc (.cells #[.int .i64 t1, .int .i64 pl, .int .i64 pc, .int .i64 pa] 40)) := (Below.refl _ _).alloc (Nat.le_refl _) _; have hn := own_bel HZW.out hbZ; have hO5 := (hgrow.block O (by simp; omega) (own_ne hn ((hbZ.block O (by omega)).trans HZO.out) (by decide))).trans ((hbZ.block O (by omega)).trans HZO.out); have hR5 := (hgrow.block (w.heap.size + 1) (by simp; omega) (own_ne hn ((hbZ.block _ (by omega)).trans HZR.out) (by decide))).trans ((hbZ.block _ (by omega)).trans HZR.out); have h05 := (hgrow.block w.heap.size (by simp; omega) (own_ne hn ((hbZ.block _ (by omega)).trans HZ0.out) (by decide))).trans ((hbZ.block _ (by omega)).trans HZ0.out); have HB5 : Hid (Below w.heap.size w w5) := Lib.hid (grown_below (HZB.out.alloc (by omega) _) (by simp; omega) hn hgrow); obtain ⟨c0, c1⟩ := b2_cells hO5; have cf := b2_fz hO5 1; have H5 := Lib.hid hO5; have HR5 := Lib.hid hR5; have H05 := Lib.hid h05; clear hown' hgrow hn hO5 hR5 h05 hbZ o0 o1' y0 y1 y2 y3)
              refine ⟨⟨k + 1, .slice a5 _ c5, by omega, by rw [HT2.out], by go_num, Lib.hid (heap_setCell_at H5.out 1 _), Lib.hid ((Below.heap_setCell _ _ _ _ (by show w.heap.size + 1 ≠ O; omega)).trans HR5.out), Lib.hid ((Below.heap_setCell _ _ _ _ (by show w.heap.size ≠ O; omega)).trans H05.out), Lib.hid ?_, Lib.hid (HB5.out.setCell (p := ⟨O, 1, none⟩) (by show w.heap.size ≤ O; omega) _)⟩, by simp [intOf]; omega⟩
              have h5 := own_set_other HO5.out H5.out (by decide) 1 (.slice a5 (M.length + 1) c5)
              rw [HTk2.out, List.length_append, List.length_singleton, cellsK_snoc]
              exact h5
            · obtain rfl : k = l.length := by omega
              have hlt' : decide ((l.length : Int) < (l.length : Int)) = false := by simp
              have ht : l.take l.length = l := List.take_length
              rw [ht] at HW ⊢
              rw [HSS.out]
              have hG : (A ++ layP off l).length ≤ 1001000000 := by rw [List.length_append, layP_len]; omega
              obtain ⟨G, hG0⟩ : ∃ G, A ++ layP off l = G := ⟨_, rfl⟩
              have HG0 := Lib.hid hG0
              rw [hG0] at HW hG
              obtain ⟨t, ht⟩ : ∃ t, off + s = t := ⟨_, rfl⟩
              have HTT := Lib.hid ht
              have t1 : 0 ≤ t := by omega
              have t2 : t ≤ 1099511627776 := by omega
              rw [ht]
              obtain ⟨m0, m1⟩ := b2_cells H0.out
              clear hlt hG0 ht HSB HF o1 o2 hsl
              have HSt1 := HO
              have HSt2 := HR
              have HSt3 := H0
              have HSt4 := HW
              have HSt5 := HB
              clear HO HR H0 HW HB
              go_wp2
              go_loopw [96] (fun i wr => ∃ (k : Nat) (v : Value), k ≤ L.length ∧ i = .int .i64 (k : Int) ∧ Hid (wr.heap[O]? = some (.cells #[.int .i64 size, v] 47 (0, 0))) ∧ Hid (wr.heap[w.heap.size + 1]? = some (.cells #[.int .i64 0, .slice none 0 0] 47 (0, 0))) ∧ Hid (wr.heap[w.heap.size]? = some (.cells #[.int .i64 size, .slice a L.length c] 47 (0, 0))) ∧ Hid (wr.ownsRow w.heap.size 40 4 v (G ++ (L.take k).filterMap (behindP t)).length (encP.cells (G ++ (L.take k).filterMap (behindP t)))) ∧ Hid (Below w.heap.size w wr)) (fun i _ => L.length - (intOf i).toNat)
              case atStart => exact ⟨0, _, by omega, rfl, HSt1, HSt2, HSt3, by simpa using HSt4, HSt5⟩
              case round =>
                obtain ⟨k, v, hk, rfl, HO, HR, H0, HW, HB⟩ := hrel
                have hsr := HB.out.size
                have hOr := (Array.getElem?_eq_some_iff.1 HO.out).1
                by_cases hlt : k < L.length
                · obtain ⟨bb, o, rfl, p0, p1, p2, p3, hbl⟩ := SlPt_at (HS.out.below HB.out) hlt
                  have hki : (k : Int) < (L.length : Int) := by omega
                  have hkc : (k : Int) < (c : Int) := by omega
                  have hml : (G ++ (L.take k).filterMap (behindP t)).length ≤ 1500000000 + k := by have := List.length_filterMap_le (behindP t) (L.take k); rw [List.length_take] at this; (try simp only [List.length_append]); omega
                  have HTk := Lib.hid (behind_take hlt t)
                  have HA : Hid (∀ V, Calls Tryz.prog 91 #[.agg #[.int .i64 (L.getD k default).off, .int .i64 (L.getD k default).ln, .int .i64 (L.getD k default).ch, .int .i64 (L.getD k default).at_], .int .i64 t] V fun e w' => e = .returned (cutV (behindP t (L.getD k default))) ∧ Below V.heap.size V w') := Lib.hid fun V => behind_any _ _ V (HP.out _ (by simp [List.getD, hlt])) (by omega) (by omega)
                  generalize (L.take k).filterMap (behindP t) = M0 at *
                  generalize behindP t (L.getD k default) = r at *
                  generalize L.getD k default = p at *
                  obtain ⟨po, pl, pc, pa⟩ := p
                  dsimp only at p0 p1 p2 p3 HA
                  go_upto_region 30 with (fail)
                  have hbp := heap_alloc_new wr (.cells #[.int .i64 po, .int .i64 pl, .int .i64 pc, .int .i64 pa] 40)
                  have hBp : Below wr.heap.size wr (wr.alloc (.cells #[.int .i64 po, .int .i64 pl, .int .i64 pc, .int .i64 pa] 40)) := (Below.refl _ _).alloc (Nat.le_refl _) _
                  generalize wr.alloc (.cells #[.int .i64 po, .int .i64 pl, .int .i64 pc, .int .i64 pa] 40) = X at *
                  have HBp := Lib.hid hBp
                  have hsX := hBp.size
                  obtain ⟨n0, n1, n2, n3⟩ := b4_facts hbp
                  clear hbp p0 p1 p2 p3 hBp
                  cases r with
                  | none =>
                    have HTk2 : Hid ((L.take (k + 1)).filterMap (behindP t) = M0) := Lib.hid (by rw [HTk.out]; simp)
                    clear HTk
                    dsimp only [cutV] at HA
                    go_wp2_with (go_at_call 91; refine (HA.out _).mono ?_; rintro e Y ⟨rfl, hBY⟩; have HBY : Hid (Below wr.heap.size wr (Y.alloc (.cells #[.int .i64 0, .int .i64 0, .int .i64 0, .int .i64 0] 40))) := Lib.hid ((HBp.out.trans (hBY.mono hsX)).alloc (by have := hBY.size; omega) _); clear hBY)
                    exact ⟨⟨k + 1, v, by omega, by go_num, Lib.hid ((HBY.out.block O hOr).trans HO.out), Lib.hid ((HBY.out.block _ (by omega)).trans HR.out), Lib.hid ((HBY.out.block _ (by omega)).trans H0.out), Lib.hid (by rw [HTk2.out]; exact own_bel HW.out HBY.out), Lib.hid (blw HB.out HBY.out)⟩, by simp [intOf]; omega⟩
                  | some x =>
                    have HTk2 : Hid (G ++ (L.take (k + 1)).filterMap (behindP t) = (G ++ M0) ++ [x]) := Lib.hid (by rw [HTk.out]; simp)
                    clear HTk
                    obtain ⟨xo, xl, xc, xa⟩ := x
                    dsimp only [cutV] at HA
                    generalize hMM : G ++ M0 = M at *
                    clear hMM
                    go_upto_region 31 with (go_at_call 91; refine (HA.out _).mono ?_; rintro e Y ⟨rfl, hBY⟩)
                    have hby := heap_alloc_new Y (.cells #[.int .i64 xo, .int .i64 xl, .int .i64 xc, .int .i64 xa] 40)
                    have hsY := hBY.size
                    have HBY : Hid (Below wr.heap.size wr (Y.alloc (.cells #[.int .i64 xo, .int .i64 xl, .int .i64 xc, .int .i64 xa] 40))) := Lib.hid ((HBp.out.trans (hBY.mono hsX)).alloc (by omega) _)
                    have hsZ : Y.heap.size < (Y.alloc (.cells #[.int .i64 xo, .int .i64 xl, .int .i64 xc, .int .i64 xa] 40)).heap.size := by simp
                    generalize Y.alloc (.cells #[.int .i64 xo, .int .i64 xl, .int .i64 xc, .int .i64 xa] 40) = Z at *
                    have HZO := Lib.hid ((HBY.out.block O hOr).trans HO.out)
                    have HZR := Lib.hid ((HBY.out.block _ (by omega : w.heap.size + 1 < wr.heap.size)).trans HR.out)
                    have HZ0 := Lib.hid ((HBY.out.block _ (by omega : w.heap.size < wr.heap.size)).trans H0.out)
                    have HZW := Lib.hid (own_bel HW.out HBY.out)
                    have HZB := Lib.hid (blw HB.out HBY.out)
                    obtain ⟨o0, o1⟩ := b2_cells HZO.out
                    obtain ⟨y0, y1, y2, y3⟩ := b4_facts hby
                    clear hBY hby n0 n1 n2 n3 HA HBp HO HR H0 HW
                    go_wp2_with (at_builtin; refine wpList_append_own _ rfl (.tmp 108) (.tmp 110) 35 rfl w.heap.size 40 i0 _ 4 32 Tryz.underlying35 hi hz0 hz1 hz2 rfl (by decide) _ _ _ rfl (own_bel HZW.out ((Below.refl _ _).alloc (Nat.le_refl _) _)) ⟨Z.heap.size, 0, none⟩ 1 1 [.int .i64 xo, .int .i64 xl, .int .i64 xc, .int .i64 xa] rfl rfl (new4 _ _ _ _ _ _ _ rfl) (encP_one ⟨xo, xl, xc, xa⟩) (by unfold maxLen; omega) (by omega) (by simp; omega) ?_; intro v' w5 hown' hgrow hnil; clear hnil; obtain ⟨a5, c5, rfl⟩ := own_form hown'; have HO5 := Lib.hid hown'; have hbZ : Below Z.heap.size Z (Z.alloc (.cells #[.int .i64 xo, .int .i64 xl, .int .i64 xc, .int .i64 xa] 40)) := (Below.refl _ _).alloc (Nat.le_refl _) _; have hn := own_bel HZW.out hbZ; have hO5 := (hgrow.block O (by simp; omega) (own_ne hn ((hbZ.block O (by omega)).trans HZO.out) (by decide))).trans ((hbZ.block O (by omega)).trans HZO.out); have hR5 := (hgrow.block (w.heap.size + 1) (by simp; omega) (own_ne hn ((hbZ.block _ (by omega)).trans HZR.out) (by decide))).trans ((hbZ.block _ (by omega)).trans HZR.out); have h05 := (hgrow.block w.heap.size (by simp; omega) (own_ne hn ((hbZ.block _ (by omega)).trans HZ0.out) (by decide))).trans ((hbZ.block _ (by omega)).trans HZ0.out); have HB5 : Hid (Below w.heap.size w w5) := Lib.hid (grown_below (HZB.out.alloc (by omega) _) (by simp; omega) hn hgrow); obtain ⟨c0, c1⟩ := b2_cells hO5; have cf := b2_fz hO5 1; have H5 := Lib.hid hO5; have HR5 := Lib.hid hR5; have H05 := Lib.hid h05; clear hown' hgrow hn hO5 hR5 h05 hbZ o0 o1 y0 y1 y2 y3)
                    refine ⟨⟨k + 1, .slice a5 _ c5, by omega, by go_num, Lib.hid (heap_setCell_at H5.out 1 _), Lib.hid ((Below.heap_setCell _ _ _ _ (by show w.heap.size + 1 ≠ O; omega)).trans HR5.out), Lib.hid ((Below.heap_setCell _ _ _ _ (by show w.heap.size ≠ O; omega)).trans H05.out), Lib.hid ?_, Lib.hid (HB5.out.setCell (p := ⟨O, 1, none⟩) (by show w.heap.size ≤ O; omega) _)⟩, by simp [intOf]; omega⟩
                    have h5 := own_set_other HO5.out H5.out (by decide) 1 (.slice a5 (M.length + 1) c5)
                    rw [HTk2.out, List.length_append, List.length_singleton, cellsK_snoc]
                    exact h5
                · obtain rfl : k = L.length := by omega
                  have hlt' : decide ((L.length : Int) < (L.length : Int)) = false := by simp
                  have ht : L.take L.length = L := List.take_length
                  rw [ht] at HW
                  clear hlt ht
                  obtain ⟨D, hD0⟩ : ∃ D, G ++ L.filterMap (behindP t) = D := ⟨_, rfl⟩
                  have HD0 := Lib.hid hD0
                  rw [hD0] at HW
                  obtain ⟨av, cv, rfl⟩ := own_form HW.out
                  clear hD0
                  have hsr := HB.out.size
                  have hOr := (Array.getElem?_eq_some_iff.1 HO.out).1
                  by_cases hln : l = []
                  · subst hln
                    obtain ⟨m0, m1⟩ := b2_cells H0.out
                    go_upto_region 36 with (go_at_call 39; refine (HCl.out _ HB.out).mono ?_; rintro e Y ⟨vc, rfl, hOc, hBY⟩; obtain ⟨ac, cc, rfl⟩ := own_form hOc; have hoY := (hBY.block O hOr).trans HO.out; obtain ⟨o0, o1'⟩ := b2_cells hoY; have of := b2_fz hoY 1; have HOY := Lib.hid hoY; have HOc := Lib.hid hOc; have HBY := Lib.hid hBY; clear hoY hOc hBY)
                    have hY := heap_setCell_at HOY.out 1 (.slice ac L.length cc)
                    have HOn := Lib.hid (own_mono (own_set_other HOc.out HOY.out (by decide) 1 (.slice ac L.length cc)) hsr)
                    have hR := (Below.heap_setCell Y ⟨O, 1, none⟩ (.slice ac L.length cc) (w.heap.size + 1) (by show w.heap.size + 1 ≠ O; omega)).trans ((HBY.out.block (w.heap.size + 1) (by omega)).trans HR.out)
                    have HBn := Lib.hid ((blw HB.out HBY.out).setCell (p := ⟨O, 1, none⟩) (by show w.heap.size ≤ O; omega) (.slice ac L.length cc))
                    generalize Y.setCell ⟨O, 1, none⟩ (.slice ac L.length cc) = U at *
                    clear o0 o1' of
                    obtain ⟨o0, o1'⟩ := b2_cells hY
                    obtain ⟨r0, r1⟩ := b2_cells hR
                    have f0 := b2_fz hR 0
                    obtain ⟨s0, s1⟩ := b2_sf hR (.int .i64 size)
                    have HEnd := Lib.hid (b2_fin hR (.int .i64 size) (.slice ac L.length cc))
                    have HRR := Lib.hid hR
                    clear hY hR
                    go_wp2
                    obtain ⟨u0, u1⟩ := b2_cells HEnd.out
                    refine bodyPost_ret (v := .tuple #[.agg #[.int .i64 size, .slice ac L.length cc], .int .i64 0]) (by simp [results, Tryz.f59, go_sem, u0, u1]) rfl ?_
                    have e1 : zz = size := by rw [← HZZ.out]; simp
                    have e2 : RS = L := by rw [← HRS.out]; simp
                    rw [e1, e2]
                    exact ⟨_, rfl, own_set_other (own_set_other HOn.out HRR.out (by decide) 0 _) (heap_setCell_at HRR.out 0 _) (by decide) 1 _, below_s2 HBn.out (by omega) _ _⟩
                  · have hl0 : ((l.length : Int) == 0) = false := by
                      have : 0 < l.length := List.length_pos_iff.2 hln
                      simp
                      omega
                    have hl0' : decide ((l.length : Int) = 0) = false := by simpa using hl0
                    have HNe := Lib.hid hln
                    obtain ⟨o0, o1'⟩ := b2_cells HO.out
                    have of := b2_fz HO.out 0
                    obtain ⟨x, hx⟩ : ∃ x, max size t = x := ⟨_, rfl⟩
                    have HX := Lib.hid hx
                    clear hln
                    go_upto_region 38 with (fail)
                    clear hx
                    have hY := heap_setCell_at HO.out 0 (.int .i64 x)
                    have HOn := Lib.hid (own_set_other HW.out HO.out (by decide) 0 (.int .i64 x))
                    have hR := (Below.heap_setCell wr ⟨O, 0, none⟩ (.int .i64 x) (w.heap.size + 1) (by show w.heap.size + 1 ≠ O; omega)).trans HR.out
                    have HBn := Lib.hid (HB.out.setCell (p := ⟨O, 0, none⟩) (by show w.heap.size ≤ O; omega) (.int .i64 x))
                    generalize wr.setCell ⟨O, 0, none⟩ (.int .i64 x) = U at *
                    clear o0 o1' of
                    obtain ⟨o0, o1'⟩ := b2_cells hY
                    obtain ⟨r0, r1⟩ := b2_cells hR
                    have f0 := b2_fz hR 0
                    obtain ⟨s0, s1⟩ := b2_sf hR (.int .i64 x)
                    have HEnd := Lib.hid (b2_fin hR (.int .i64 x) (.slice av D.length cv))
                    have HRR := Lib.hid hR
                    clear hY hR
                    go_wp2
                    obtain ⟨u0, u1⟩ := b2_cells HEnd.out
                    refine bodyPost_ret (v := .tuple #[.agg #[.int .i64 x, .slice av D.length cv], .int .i64 0]) (by simp [results, Tryz.f59, go_sem, u0, u1]) rfl ?_
                    rw [← HZZ.out, ← HRS.out, if_neg HNe.out, if_neg HNe.out, HSS.out, HTT.out, HA0.out, HG0.out, HD0.out, HX.out]
                    exact ⟨_, rfl, own_set_other (own_set_other HOn.out HRR.out (by decide) 0 _) (heap_setCell_at HRR.out 0 _) (by decide) 1 _, below_s2 HBn.out (by omega) _ _⟩
set_option maxRecDepth 100000 in
set_option maxHeartbeats 16000000 in
theorem write_no (size off : Int) (L l : List Bp) (a a2 : Option Addr) (c c2 : Nat) (w : World) (x : Int) (hS : SlPt w a L) (hc : L.length ≤ c) (hl : L.length ≤ 1000000000) (hS2 : SlPt w a2 l) (hc2 : l.length ≤ c2) (hml : l.length ≤ 1000000) {m f : Bool} (hm : mayBd ⟨size, L⟩ = m) (hf : l.all fitsP = f) (hx : (m = false ∧ x = 1) ∨ (m = true ∧ f = false ∧ x = 1)) :
    Calls Tryz.prog 59 #[.agg #[.int .i64 size, .slice a L.length c], .int .i64 off, .slice a2 l.length c2] w fun e w' => e = .returned (.tuple #[.agg #[.int .i64 0, .slice none 0 0], .int .i64 x]) ∧ Below w.heap.size w w' := by
  have hb0 := Below.heap_alloc (w.alloc (.cells #[.int .i64 size, .slice a L.length c] 47)) (.cells #[.int .i64 0, .slice none 0 0] 47) w.heap.size (by simp)
  rw [heap_alloc_new] at hb0
  have hb1 := heap_alloc_new (w.alloc (.cells #[.int .i64 size, .slice a L.length c] 47)) (.cells #[.int .i64 0, .slice none 0 0] 47)
  have hsv1 : (w.alloc (.cells #[.int .i64 size, .slice a L.length c] 47)).heap.size = w.heap.size + 1 := by simp
  rw [hsv1] at hb1
  have hBV : Below w.heap.size w ((w.alloc (.cells #[.int .i64 size, .slice a L.length c] 47)).alloc (.cells #[.int .i64 0, .slice none 0 0] 47)) := ((Below.refl _ _).alloc (Nat.le_refl _) _).alloc (by omega) _
  have hsV : ((w.alloc (.cells #[.int .i64 size, .slice a L.length c] 47)).alloc (.cells #[.int .i64 0, .slice none 0 0] 47)).heap.size = w.heap.size + 2 := by simp
  have HMy : Hid (∀ V, SlPt V a L → Calls Tryz.prog 56 #[.agg #[.int .i64 size, .slice a L.length c]] V fun e w' => e = .returned (.bool m) ∧ Below V.heap.size V w') := Lib.hid fun V h => by have := bmay_any ⟨size, L⟩ a c V h hc hl; rw [hm] at this; exact this
  have HCo : Hid (∀ V, SlPt V a2 l → Calls Tryz.prog 89 #[.slice a2 l.length c2, .func (.func 90) #[] #[]] V fun e w' => e = .returned (.bool (!f)) ∧ Below V.heap.size V w') := Lib.hid fun V h => by have := contains_part l a2 c2 V h hc2 (by omega); rw [hf] at this; exact this
  have HS := Lib.hid hS
  have HS2 := Lib.hid hS2
  clear hS hS2 hm hf
  go_enter Tryz.func59, Tryz.ntmps59
  go_upto_region 1 with (fail)
  generalize (w.alloc (.cells #[.int .i64 size, .slice a L.length c] 47)).alloc (.cells #[.int .i64 0, .slice none 0 0] 47) = V at *
  clear hsv1
  obtain ⟨e0, e1⟩ := b2_cells hb0
  go_wp2_with fail
  with_reducible refine Calls.mono (HMy.out _ (HS.out.below hBV)) ?_
  rintro e V1 ⟨rfl, hB1⟩
  have k1 := (hB1.block (w.heap.size + 1) (by omega)).trans hb1
  have HB := Lib.hid (blw hBV hB1)
  have hs1 := hB1.size
  clear hBV hB1 hb0 hb1 e0 e1 HMy
  rcases hx with ⟨rfl, rfl⟩ | ⟨rfl, rfl, rfl⟩
  · obtain ⟨r0, r1⟩ := b2_cells k1
    have f0 := b2_fz k1 0
    obtain ⟨s0, s1⟩ := b2_sf k1 (.int .i64 0)
    have HEnd := Lib.hid (b2_fin k1 (.int .i64 0) (.slice none 0 0))
    clear k1
    go_wp2
    obtain ⟨u0, u1⟩ := b2_cells HEnd.out
    refine bodyPost_ret (v := .tuple #[.agg #[.int .i64 0, .slice none 0 0], .int .i64 1]) (by simp [results, Tryz.f59, go_sem, u0, u1]) rfl ?_
    exact ⟨rfl, below_s2 HB.out (by omega) _ _⟩
  · go_wp2_with fail
    with_reducible refine Calls.mono (HCo.out _ (HS2.out.below HB.out)) ?_
    rintro e V2 ⟨rfl, hB2⟩
    have k2 := (hB2.block (w.heap.size + 1) (by omega)).trans k1
    have HB2 := Lib.hid (blw HB.out hB2)
    obtain ⟨r0, r1⟩ := b2_cells k2
    have f0 := b2_fz k2 0
    obtain ⟨s0, s1⟩ := b2_sf k2 (.int .i64 0)
    have HEnd := Lib.hid (b2_fin k2 (.int .i64 0) (.slice none 0 0))
    clear k1 k2 hB2
    go_wp2
    obtain ⟨u0, u1⟩ := b2_cells HEnd.out
    refine bodyPost_ret (v := .tuple #[.agg #[.int .i64 0, .slice none 0 0], .int .i64 1]) (by simp [results, Tryz.f59, go_sem, u0, u1]) rfl ?_
    exact ⟨rfl, below_s2 HB2.out (by omega) _ _⟩
set_option maxRecDepth 100000 in
set_option maxHeartbeats 16000000 in
theorem write_far (size off : Int) (L l : List Bp) (a a2 : Option Addr) (c c2 : Nat) (w : World) (hS : SlPt w a L) (hc : L.length ≤ c) (hl : L.length ≤ 1000000000) (hS2 : SlPt w a2 l) (hc2 : l.length ≤ c2) (hml : l.length ≤ 1000000) (hm : mayBd ⟨size, L⟩ = true) (hf : l.all fitsP = true) (hq : off < 0 ∨ off > 1099511627776 - sumP l) :
    Calls Tryz.prog 59 #[.agg #[.int .i64 size, .slice a L.length c], .int .i64 off, .slice a2 l.length c2] w fun e w' => e = .returned (.tuple #[.agg #[.int .i64 0, .slice none 0 0], .int .i64 9]) ∧ Below w.heap.size w w' := by
  have hb0 := Below.heap_alloc (w.alloc (.cells #[.int .i64 size, .slice a L.length c] 47)) (.cells #[.int .i64 0, .slice none 0 0] 47) w.heap.size (by simp)
  rw [heap_alloc_new] at hb0
  have hb1 := heap_alloc_new (w.alloc (.cells #[.int .i64 size, .slice a L.length c] 47)) (.cells #[.int .i64 0, .slice none 0 0] 47)
  have hsv1 : (w.alloc (.cells #[.int .i64 size, .slice a L.length c] 47)).heap.size = w.heap.size + 1 := by simp
  rw [hsv1] at hb1
  have hBV : Below w.heap.size w ((w.alloc (.cells #[.int .i64 size, .slice a L.length c] 47)).alloc (.cells #[.int .i64 0, .slice none 0 0] 47)) := ((Below.refl _ _).alloc (Nat.le_refl _) _).alloc (by omega) _
  have hsV : ((w.alloc (.cells #[.int .i64 size, .slice a L.length c] 47)).alloc (.cells #[.int .i64 0, .slice none 0 0] 47)).heap.size = w.heap.size + 2 := by simp
  have HMy : Hid (∀ V, SlPt V a L → Calls Tryz.prog 56 #[.agg #[.int .i64 size, .slice a L.length c]] V fun e w' => e = .returned (.bool true) ∧ Below V.heap.size V w') := Lib.hid fun V h => by have := bmay_any ⟨size, L⟩ a c V h hc hl; rw [hm] at this; exact this
  have HCo : Hid (∀ V, SlPt V a2 l → Calls Tryz.prog 89 #[.slice a2 l.length c2, .func (.func 90) #[] #[]] V fun e w' => e = .returned (.bool false) ∧ Below V.heap.size V w') := Lib.hid fun V h => by have := contains_part l a2 c2 V h hc2 (by omega); rw [hf] at this; exact this
  have HS := Lib.hid hS
  have HS2 := Lib.hid hS2
  have hsl := sumP_le hf
  have HSB := Lib.hid (fun k => sum_between hf k)
  clear hS hS2 hm hf
  go_enter Tryz.func59, Tryz.ntmps59
  go_upto_region 1 with (fail)
  generalize (w.alloc (.cells #[.int .i64 size, .slice a L.length c] 47)).alloc (.cells #[.int .i64 0, .slice none 0 0] 47) = V at *
  clear hsv1
  obtain ⟨e0, e1⟩ := b2_cells hb0
  go_upto_region 3 with (first | (go_at_call 56; refine (HMy.out _ (HS.out.below hBV)).mono ?_; rintro e V1 ⟨rfl, hB1⟩) | (go_at_call 89; refine (HCo.out _ (HS2.out.below (blw hBV hB1))).mono ?_; rintro e V2 ⟨rfl, hB2⟩))
  have k1 := (hB2.block (w.heap.size + 1) (by have := hB1.size; omega)).trans ((hB1.block (w.heap.size + 1) (by omega)).trans hb1)
  have HB := Lib.hid (blw (blw hBV hB1) hB2)
  have hs1 := hB1.size
  have hs2 := hB2.size
  have HK1 := Lib.hid k1
  clear hBV hB1 hB2 hb0 hb1 e0 e1 HMy HCo k1
  go_wp2
  go_loopw [8, 33] (fun n i wr => ∃ k : Nat, k ≤ l.length ∧ n = .int .i64 (sumP (l.take k)) ∧ i = .int .i64 (k : Int) ∧ Hid (Below V2.heap.size V2 wr)) (fun _ i _ => l.length - (intOf i).toNat)
  case atStart => exact ⟨0, by omega, by simp [sumP], rfl, Lib.hid (Below.refl _ _)⟩
  case round =>
    obtain ⟨k, hk, rfl, rfl, HBr⟩ := hrel
    by_cases hlt : k < l.length
    · obtain ⟨bb, o, rfl, p0, p1, p2, p3, hbl⟩ := SlPt_at (HS2.out.below (blw HB.out HBr.out)) hlt
      have hki : (k : Int) < (l.length : Int) := by omega
      have hkc : (k : Int) < (c2 : Int) := by omega
      have HT := Lib.hid (sum_take hlt)
      have b1 := HSB.out k
      have b2 := HSB.out (k + 1)
      rw [HT.out] at b2
      generalize sumP (l.take k) = s at *
      generalize l.getD k default = p at *
      obtain ⟨po, pl, pc, pa⟩ := p
      dsimp only at p0 p1 p2 p3 HT b2
      have HS3 : Hid (wrap64 (s + pl) = s + pl) := Lib.hid (w64 (by omega) (by omega))
      clear b1 b2 hq
      go_upto_region 7 with (fail)
      have hbp := heap_alloc_new wr (.cells #[.int .i64 po, .int .i64 pl, .int .i64 pc, .int .i64 pa] 40)
      have HBp : Hid (Below V2.heap.size V2 (wr.alloc (.cells #[.int .i64 po, .int .i64 pl, .int .i64 pc, .int .i64 pa] 40))) := Lib.hid (HBr.out.alloc HBr.out.size _)
      generalize wr.alloc (.cells #[.int .i64 po, .int .i64 pl, .int .i64 pc, .int .i64 pa] 40) = Wp at *
      obtain ⟨n0, n1, n2, n3⟩ := b4_facts hbp
      clear hbp p0 p1 p2 p3 hsl
      go_wp2
      exact ⟨⟨k + 1, by omega, by rw [HT.out, HS3.out], by go_num, HBp⟩, by simp [intOf]; omega⟩
    · obtain rfl : k = l.length := by omega
      have hlt' : decide ((l.length : Int) < (l.length : Int)) = false := by simp
      have ht : l.take l.length = l := List.take_length
      rw [ht]
      have k1 := (HBr.out.block (w.heap.size + 1) (by omega)).trans HK1.out
      have HB' := Lib.hid (blw HB.out HBr.out)
      clear hlt ht HBr HB HK1 HSB
      generalize sumP l = s at *
      have hw : wrap64 (1099511627776 - s) = 1099511627776 - s := w64 (by omega) (by omega)
      obtain ⟨r0, r1⟩ := b2_cells k1
      have f0 := b2_fz k1 0
      obtain ⟨s0, s1⟩ := b2_sf k1 (.int .i64 0)
      have HEnd := Lib.hid (b2_fin k1 (.int .i64 0) (.slice none 0 0))
      clear k1
      by_cases h1 : off < 0
      · clear hq
        go_wp2
        obtain ⟨u0, u1⟩ := b2_cells HEnd.out
        refine bodyPost_ret (v := .tuple #[.agg #[.int .i64 0, .slice none 0 0], .int .i64 9]) (by simp [results, Tryz.f59, go_sem, u0, u1]) rfl ?_
        exact ⟨rfl, below_s2 HB'.out (by omega) _ _⟩
      · have hq1 : decide (off < 0) = false := by simpa using h1
        have hq2 : off > 1099511627776 - s := by omega
        clear hq h1
        go_wp2
        obtain ⟨u0, u1⟩ := b2_cells HEnd.out
        refine bodyPost_ret (v := .tuple #[.agg #[.int .i64 0, .slice none 0 0], .int .i64 9]) (by simp [results, Tryz.f59, go_sem, u0, u1]) rfl ?_
        exact ⟨rfl, below_s2 HB'.out (by omega) _ _⟩
/-- Write. -/
theorem bwrite_any (b : Bd) (off : Int) (l : List Bp) (a a2 : Option Addr) (c c2 : Nat) (w : World) (hS : SlPt w a b.parts) (hc : b.parts.length ≤ c) (hl : b.parts.length ≤ 1000000000) (hS2 : SlPt w a2 l) (hc2 : l.length ≤ c2) (hm : l.length ≤ 1000000) :
    Calls Tryz.prog 59 #[.agg #[.int .i64 b.size, .slice a b.parts.length c], .int .i64 off, .slice a2 l.length c2] w fun e w' => ∃ v, e = .returned (.tuple #[.agg #[.int .i64 (writeS b off l).1.size, v], .int .i64 (writeS b off l).2]) ∧
      w'.ownsRow w.heap.size 40 4 v (writeS b off l).1.parts.length (encP.cells (writeS b off l).1.parts) ∧ Below w.heap.size w w' := by
  obtain ⟨size, L⟩ := b
  dsimp only at hS hc hl ⊢
  unfold writeS
  by_cases h : mayBd ⟨size, L⟩ = true ∧ l.all fitsP = true
  · rw [if_pos h]
    by_cases h2 : off < 0 ∨ 1099511627776 - sumP l < off
    · rw [if_pos h2]
      refine (write_far size off L l a a2 c c2 w hS hc hl hS2 hc2 hm h.1 h.2 (by omega)).mono ?_
      rintro e w' ⟨rfl, hB⟩
      exact ⟨_, rfl, World.ownsRow_nil _ _ _ _, hB⟩
    · rw [if_neg h2]
      have := write_yes size off L l a a2 c c2 w hS hc hl hS2 hc2 hm h.1 h.2 (by omega) (by omega)
      by_cases h3 : l = []
      · rw [if_pos h3]
        rw [if_pos h3, if_pos h3] at this
        exact this
      · rw [if_neg h3]
        rw [if_neg h3, if_neg h3] at this
        exact this
  · rw [if_neg h]
    refine (write_no size off L l a a2 c c2 w 1 hS hc hl hS2 hc2 hm rfl rfl ?_).mono ?_
    · cases hA : mayBd ⟨size, L⟩ with
      | false => exact .inl ⟨rfl, rfl⟩
      | true =>
        cases hB : l.all fitsP with
        | false => exact .inr ⟨rfl, rfl, rfl⟩
        | true => exact absurd ⟨hA, hB⟩ h
    · rintro e w' ⟨rfl, hB⟩
      exact ⟨_, rfl, World.ownsRow_nil _ _ _ _, hB⟩
end Go.Proofs.YtiegadfhgccliaaGreatDoor
