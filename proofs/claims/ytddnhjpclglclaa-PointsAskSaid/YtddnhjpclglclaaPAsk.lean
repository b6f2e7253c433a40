/- Any points, any time, number, name: whether they may be, which point is meant, or none: the walk of treeringlaw18.PointsAsk. -/
import Derived.Test.YtddnhjpclglclaaAskL
import Derived.Test.YtddnhjpclglclaaPSeq
namespace Go.Proofs.Ytddnhjpclglclaa
open Go.RowKit Fl
theorem st_keep {W : World} {k B : Nat} {q : Pt} {o : Option Obj} (h : W.heap[k]? = o) (hk : k ≠ B) : (stPt W B q).heap[k]? = o := (stPt_other W B q hk).trans h
theorem heap_eqR {W W' : World} (h : W'.heap = W.heap) {k : Nat} {o : Option Obj} (g : W.heap[k]? = o) : W'.heap[k]? = o := by rw [h]; exact g
theorem blo_st {n B : Nat} {w W : World} {q : Pt} (h : Below n w W) (hB : n ≤ B) : Below n w (stPt W B q) :=
  ((h.setCell (p := ⟨B, 0, none⟩) hB _).setCell (p := ⟨B, 1, none⟩) hB _).setCell (p := ⟨B, 2, none⟩) hB _
set_option maxRecDepth 100000 in
set_option maxHeartbeats 4000000 in
theorem pointsAsk_bad (s : Option Addr) (cap : Nat) (L : List Pt) (t : Nat) (n0 n1 : Int) (w : World) (hI : SlP w (.slice s L.length cap) L) (hn : L.length < 9223372036854775807) (h100 : decide (100 < (L.length : Int)) = false) (hm : mayB L = false) :
    Calls Try.prog 7 #[.slice s L.length cap, .float .f64 t, .agg #[.int .i64 n0, .int .i64 n1]] w fun e w' => e = .returned (.bool true) ∧ Below w.heap.size w w' := by
  have HM := Lib.hid hm
  obtain ⟨nm, hname⟩ : ∃ nm : ByteArray, (nm = ⟨#[]⟩ ∧ decide (0 < (L.length : Int)) = false ∧ decide (0 < L.length) = false) ∨ (nm = ⟨#[]⟩ ∧ decide (0 < (L.length : Int)) = true ∧ decide (0 < L.length) = true ∧ decide (0 ≤ n1) = false) ∨
      (decide (0 < (L.length : Int)) = true ∧ decide (0 < L.length) = true ∧ decide (0 ≤ n1) = true ∧ ∃ k : Nat, k < L.length ∧ n1.tmod (L.length : Int) = k ∧ nm = (L.getD k default).mark) := by
    by_cases h1 : 0 < L.length
    · by_cases h2 : 0 ≤ n1
      · have e1 := Int.emod_nonneg n1 (show (L.length : Int) ≠ 0 by omega)
        have e2 := Int.emod_lt_of_pos n1 (show 0 < (L.length : Int) by omega)
        exact ⟨_, .inr (.inr ⟨decide_eq_true (by omega), decide_eq_true h1, decide_eq_true h2, (n1 % (L.length : Int)).toNat, by omega, by rw [Int.tmod_eq_emod_of_nonneg h2]; omega, rfl⟩)⟩
      · exact ⟨_, .inr (.inl ⟨rfl, decide_eq_true (by omega), decide_eq_true h1, decide_eq_false h2⟩)⟩
    · exact ⟨_, .inl ⟨rfl, decide_eq_false (by omega), decide_eq_false h1⟩⟩
  have z0 : (FloatKind.f64.format.order 0 0 == some .eq) = true := by decide +kernel
  have HA := Lib.hid (ask_bad (φ := phi_at t) hm)
  have HX := Lib.hid (ask_bad (φ := phi_seq n0) hm)
  have HY := Lib.hid (ask_bad (φ := phi_mark nm) hm)
  clear hm
  rcases hname with ⟨rfl, d1, d2⟩ | ⟨rfl, d1, d2, d3⟩ | ⟨d1, d2, d3, k, hk, hkn, hnm⟩
  · go_enter Try.func7, Try.ntmps7
    go_wp2_with (first
        | (go_at_call 18; refine (awake18 _).mono ?_; rintro e w1 ⟨rfl, hB1⟩; have hN1 := Lib.hid (keepB (World.alloc_heap_new w (.cells #[.int .i64 n0, .int .i64 n1] 40)) hB1); have hC1 := Lib.hid (blw (bal (Below.refl _ w) (.cells #[.int .i64 n0, .int .i64 n1] 40)) hB1); clear hB1)
        | (go_at_call 19; refine (rpmay_sl _ _ L _ (hI.below hC1.out) hn).mono ?_; rintro e w2 ⟨rfl, hB2⟩; rw [HM.out]; have hN2 := Lib.hid (keepB hN1.out hB2); have hC2 := Lib.hid (blw hC1.out hB2); clear hB2)
        | (go_at_call 20; refine (pat_any _ _ _ L _ (hI.below hC2.out) hn).mono ?_; rintro e w3 ⟨rfl, hB3⟩; rw [HA.out]; dsimp only [askV]; have hN3 := Lib.hid (keepA (.cells #[.int .i64 0, .float .f64 0, .string ⟨#[]⟩] 27) (keepB hN2.out hB3)); have hP3 := Lib.hid (World.alloc_heap_new w3 (.cells #[.int .i64 0, .float .f64 0, .string ⟨#[]⟩] 27)); have hC3 := Lib.hid (bal (blw hC2.out hB3) (.cells #[.int .i64 0, .float .f64 0, .string ⟨#[]⟩] 27)); clear hB3)
        | (go_at_call 27; refine (rat_any _ _ _ L _ (hI.below hC3.out) hn).mono ?_; rintro e w4 ⟨rfl, hB4⟩; rw [HA.out]; dsimp only [askV]; have hs34 := hB4.size; simp at hs34; have hN4 := Lib.hid (keepA (.cells #[.int .i64 0, .float .f64 0, .string ⟨#[]⟩] 27) (keepB hN3.out hB4)); have hP4 := Lib.hid (keepA (.cells #[.int .i64 0, .float .f64 0, .string ⟨#[]⟩] 27) (keepB hP3.out hB4)); have hQ4 := Lib.hid (World.alloc_heap_new w4 (.cells #[.int .i64 0, .float .f64 0, .string ⟨#[]⟩] 27)); have hC4 := Lib.hid (bal (blw hC3.out hB4) (.cells #[.int .i64 0, .float .f64 0, .string ⟨#[]⟩] 27)); clear hB4)
        | (go_at_call 22; refine (pmay_sl _ _ L _ (hI.below hC4.out) hn).mono ?_; rintro e w5 ⟨rfl, hB5⟩; rw [HM.out]; have hN5 := Lib.hid (keepB hN4.out hB5); have hP5 := Lib.hid (keepB hP4.out hB5); have hQ5 := Lib.hid (keepB hQ4.out hB5); have hC5 := Lib.hid (blw hC4.out hB5); clear hB5
           obtain ⟨n50, n51⟩ := two_cells hN5.out; obtain ⟨p50, p51, p52, _⟩ := three_cells hP5.out; obtain ⟨q50, q51, q52, _⟩ := three_cells hQ5.out)
        | (go_at_call 28; refine (pseq_any _ _ _ L _ (hI.below hC5.out) hn).mono ?_; rintro e w6 ⟨rfl, hB6⟩; rw [HX.out]; dsimp only [askV]; have HS6 := Lib.hid (show w.heap.size < w6.heap.size from Nat.lt_of_lt_of_le (Array.getElem?_eq_some_iff.1 hN5.out).1 hB6.size); have hN6 := Lib.hid (keepA (.cells #[.int .i64 0, .float .f64 0, .string ⟨#[]⟩] 27) (keepB hN5.out hB6)); have hP6 := Lib.hid (keepA (.cells #[.int .i64 0, .float .f64 0, .string ⟨#[]⟩] 27) (keepB hP5.out hB6)); have hX6 := Lib.hid (World.alloc_heap_new w6 (.cells #[.int .i64 0, .float .f64 0, .string ⟨#[]⟩] 27)); have hC6 := Lib.hid (bal (blw hC5.out hB6) (.cells #[.int .i64 0, .float .f64 0, .string ⟨#[]⟩] 27)); clear hB6)
        | (go_at_call 29; refine (pmark_any _ _ _ L _ (hI.below hC6.out) hn).mono ?_; rintro e w7 ⟨rfl, hB7⟩; rw [HY.out]; dsimp only [askV]; have hs67 := hB7.size; simp at hs67; have hN7 := Lib.hid (keepA (.cells #[.int .i64 0, .float .f64 0, .string ⟨#[]⟩] 27) (keepB hN6.out hB7)); have hP7 := Lib.hid (keepA (.cells #[.int .i64 0, .float .f64 0, .string ⟨#[]⟩] 27) (keepB hP6.out hB7)); have hX7 := Lib.hid (keepA (.cells #[.int .i64 0, .float .f64 0, .string ⟨#[]⟩] 27) (keepB hX6.out hB7)); have hY7 := Lib.hid (World.alloc_heap_new w7 (.cells #[.int .i64 0, .float .f64 0, .string ⟨#[]⟩] 27)); have hC7 := Lib.hid (bal (blw hC6.out hB7) (.cells #[.int .i64 0, .float .f64 0, .string ⟨#[]⟩] 27)); clear hB7; obtain ⟨p70, p71, p72, _⟩ := three_cells hP7.out))
    go_ret
    exact ⟨rfl, hC7.out⟩
  · go_enter Try.func7, Try.ntmps7
    go_wp2_with (first
        | (go_at_call 18; refine (awake18 _).mono ?_; rintro e w1 ⟨rfl, hB1⟩; have hN1 := Lib.hid (keepB (World.alloc_heap_new w (.cells #[.int .i64 n0, .int .i64 n1] 40)) hB1); have hC1 := Lib.hid (blw (bal (Below.refl _ w) (.cells #[.int .i64 n0, .int .i64 n1] 40)) hB1); clear hB1)
        | (go_at_call 19; refine (rpmay_sl _ _ L _ (hI.below hC1.out) hn).mono ?_; rintro e w2 ⟨rfl, hB2⟩; rw [HM.out]; have hN2 := Lib.hid (keepB hN1.out hB2); have hC2 := Lib.hid (blw hC1.out hB2); clear hB2)
        | (go_at_call 20; refine (pat_any _ _ _ L _ (hI.below hC2.out) hn).mono ?_; rintro e w3 ⟨rfl, hB3⟩; rw [HA.out]; dsimp only [askV]; have hN3 := Lib.hid (keepA (.cells #[.int .i64 0, .float .f64 0, .string ⟨#[]⟩] 27) (keepB hN2.out hB3)); have hP3 := Lib.hid (World.alloc_heap_new w3 (.cells #[.int .i64 0, .float .f64 0, .string ⟨#[]⟩] 27)); have hC3 := Lib.hid (bal (blw hC2.out hB3) (.cells #[.int .i64 0, .float .f64 0, .string ⟨#[]⟩] 27)); clear hB3)
        | (go_at_call 27; refine (rat_any _ _ _ L _ (hI.below hC3.out) hn).mono ?_; rintro e w4 ⟨rfl, hB4⟩; rw [HA.out]; dsimp only [askV]; have hs34 := hB4.size; simp at hs34; have hN4 := Lib.hid (keepA (.cells #[.int .i64 0, .float .f64 0, .string ⟨#[]⟩] 27) (keepB hN3.out hB4)); have hP4 := Lib.hid (keepA (.cells #[.int .i64 0, .float .f64 0, .string ⟨#[]⟩] 27) (keepB hP3.out hB4)); have hQ4 := Lib.hid (World.alloc_heap_new w4 (.cells #[.int .i64 0, .float .f64 0, .string ⟨#[]⟩] 27)); have hC4 := Lib.hid (bal (blw hC3.out hB4) (.cells #[.int .i64 0, .float .f64 0, .string ⟨#[]⟩] 27)); clear hB4)
        | (go_at_call 22; refine (pmay_sl _ _ L _ (hI.below hC4.out) hn).mono ?_; rintro e w5 ⟨rfl, hB5⟩; rw [HM.out]; have hN5 := Lib.hid (keepB hN4.out hB5); have hP5 := Lib.hid (keepB hP4.out hB5); have hQ5 := Lib.hid (keepB hQ4.out hB5); have hC5 := Lib.hid (blw hC4.out hB5); clear hB5
           obtain ⟨n50, n51⟩ := two_cells hN5.out; obtain ⟨p50, p51, p52, _⟩ := three_cells hP5.out; obtain ⟨q50, q51, q52, _⟩ := three_cells hQ5.out)
        | (go_at_call 28; refine (pseq_any _ _ _ L _ (hI.below hC5.out) hn).mono ?_; rintro e w6 ⟨rfl, hB6⟩; rw [HX.out]; dsimp only [askV]; have HS6 := Lib.hid (show w.heap.size < w6.heap.size from Nat.lt_of_lt_of_le (Array.getElem?_eq_some_iff.1 hN5.out).1 hB6.size); have hN6 := Lib.hid (keepA (.cells #[.int .i64 0, .float .f64 0, .string ⟨#[]⟩] 27) (keepB hN5.out hB6)); have hP6 := Lib.hid (keepA (.cells #[.int .i64 0, .float .f64 0, .string ⟨#[]⟩] 27) (keepB hP5.out hB6)); have hX6 := Lib.hid (World.alloc_heap_new w6 (.cells #[.int .i64 0, .float .f64 0, .string ⟨#[]⟩] 27)); have hC6 := Lib.hid (bal (blw hC5.out hB6) (.cells #[.int .i64 0, .float .f64 0, .string ⟨#[]⟩] 27)); clear hB6)
        | (go_at_call 29; refine (pmark_any _ _ _ L _ (hI.below hC6.out) hn).mono ?_; rintro e w7 ⟨rfl, hB7⟩; rw [HY.out]; dsimp only [askV]; have hs67 := hB7.size; simp at hs67; have hN7 := Lib.hid (keepA (.cells #[.int .i64 0, .float .f64 0, .string ⟨#[]⟩] 27) (keepB hN6.out hB7)); have hP7 := Lib.hid (keepA (.cells #[.int .i64 0, .float .f64 0, .string ⟨#[]⟩] 27) (keepB hP6.out hB7)); have hX7 := Lib.hid (keepA (.cells #[.int .i64 0, .float .f64 0, .string ⟨#[]⟩] 27) (keepB hX6.out hB7)); have hY7 := Lib.hid (World.alloc_heap_new w7 (.cells #[.int .i64 0, .float .f64 0, .string ⟨#[]⟩] 27)); have hC7 := Lib.hid (bal (blw hC6.out hB7) (.cells #[.int .i64 0, .float .f64 0, .string ⟨#[]⟩] 27)); clear hB7; obtain ⟨p70, p71, p72, _⟩ := three_cells hP7.out))
    go_ret
    exact ⟨rfl, hC7.out⟩
  · obtain ⟨b, off, rfl, hr⟩ : ∃ b off, s = some ⟨b, off, none⟩ ∧ RdP w b off L := by
      rcases hI with ⟨a', cap', e, rfl⟩ | ⟨b, off, cap', e, hr⟩
      · simp at hk
      · exact ⟨b, off, (Value.slice.inj e).1, hr⟩
    have HR := Lib.hid hr
    have hkl : (k : Int) < (L.length : Int) := by omega
    have hk0 : (0 : Int) ≤ (k : Int) := by omega
    have hne : (L.length : Int) ≠ 0 := by omega
    generalize hP : L.getD k default = pk at hnm
    obtain ⟨ks, kt, km⟩ := pk
    dsimp only at hnm
    subst hnm
    have HP := Lib.hid hP
    clear hP hr
    go_enter Try.func7, Try.ntmps7
    go_wp2_with (first
        | (go_at_call 18; refine (awake18 _).mono ?_; rintro e w1 ⟨rfl, hB1⟩; have hN1 := Lib.hid (keepB (World.alloc_heap_new w (.cells #[.int .i64 n0, .int .i64 n1] 40)) hB1); have hC1 := Lib.hid (blw (bal (Below.refl _ w) (.cells #[.int .i64 n0, .int .i64 n1] 40)) hB1); clear hB1)
        | (go_at_call 19; refine (rpmay_sl _ _ L _ (hI.below hC1.out) hn).mono ?_; rintro e w2 ⟨rfl, hB2⟩; rw [HM.out]; have hN2 := Lib.hid (keepB hN1.out hB2); have hC2 := Lib.hid (blw hC1.out hB2); clear hB2)
        | (go_at_call 20; refine (pat_any _ _ _ L _ (hI.below hC2.out) hn).mono ?_; rintro e w3 ⟨rfl, hB3⟩; rw [HA.out]; dsimp only [askV]; have hN3 := Lib.hid (keepA (.cells #[.int .i64 0, .float .f64 0, .string ⟨#[]⟩] 27) (keepB hN2.out hB3)); have hP3 := Lib.hid (World.alloc_heap_new w3 (.cells #[.int .i64 0, .float .f64 0, .string ⟨#[]⟩] 27)); have hC3 := Lib.hid (bal (blw hC2.out hB3) (.cells #[.int .i64 0, .float .f64 0, .string ⟨#[]⟩] 27)); clear hB3)
        | (go_at_call 27; refine (rat_any _ _ _ L _ (hI.below hC3.out) hn).mono ?_; rintro e w4 ⟨rfl, hB4⟩; rw [HA.out]; dsimp only [askV]; have hs34 := hB4.size; simp at hs34; have hN4 := Lib.hid (keepA (.cells #[.int .i64 0, .float .f64 0, .string ⟨#[]⟩] 27) (keepB hN3.out hB4)); have hP4 := Lib.hid (keepA (.cells #[.int .i64 0, .float .f64 0, .string ⟨#[]⟩] 27) (keepB hP3.out hB4)); have hQ4 := Lib.hid (World.alloc_heap_new w4 (.cells #[.int .i64 0, .float .f64 0, .string ⟨#[]⟩] 27)); have hC4 := Lib.hid (bal (blw hC3.out hB4) (.cells #[.int .i64 0, .float .f64 0, .string ⟨#[]⟩] 27)); clear hB4)
        | (go_at_call 22; refine (pmay_sl _ _ L _ (hI.below hC4.out) hn).mono ?_; rintro e w5 ⟨rfl, hB5⟩; rw [HM.out]; have hN5 := Lib.hid (keepB hN4.out hB5); have hP5 := Lib.hid (keepB hP4.out hB5); have hQ5 := Lib.hid (keepB hQ4.out hB5); have hC5 := Lib.hid (blw hC4.out hB5); clear hB5
           obtain ⟨n50, n51⟩ := two_cells hN5.out; obtain ⟨p50, p51, p52, _⟩ := three_cells hP5.out; obtain ⟨q50, q51, q52, _⟩ := three_cells hQ5.out; obtain ⟨k50, k51, k52⟩ := pcs (HR.out.below hC5.out) hk HP.out; have hbl5 := (HR.out.below hC5.out).lt)
        | (go_at_call 28; refine (pseq_any _ _ _ L _ (hI.below hC5.out) hn).mono ?_; rintro e w6 ⟨rfl, hB6⟩; rw [HX.out]; dsimp only [askV]; have HS6 := Lib.hid (show w.heap.size < w6.heap.size from Nat.lt_of_lt_of_le (Array.getElem?_eq_some_iff.1 hN5.out).1 hB6.size); have hN6 := Lib.hid (keepA (.cells #[.int .i64 0, .float .f64 0, .string ⟨#[]⟩] 27) (keepB hN5.out hB6)); have hP6 := Lib.hid (keepA (.cells #[.int .i64 0, .float .f64 0, .string ⟨#[]⟩] 27) (keepB hP5.out hB6)); have hX6 := Lib.hid (World.alloc_heap_new w6 (.cells #[.int .i64 0, .float .f64 0, .string ⟨#[]⟩] 27)); have hC6 := Lib.hid (bal (blw hC5.out hB6) (.cells #[.int .i64 0, .float .f64 0, .string ⟨#[]⟩] 27)); clear hB6)
        | (go_at_call 29; refine (pmark_any _ _ _ L _ (hI.below hC6.out) hn).mono ?_; rintro e w7 ⟨rfl, hB7⟩; rw [HY.out]; dsimp only [askV]; have hs67 := hB7.size; simp at hs67; have hN7 := Lib.hid (keepA (.cells #[.int .i64 0, .float .f64 0, .string ⟨#[]⟩] 27) (keepB hN6.out hB7)); have hP7 := Lib.hid (keepA (.cells #[.int .i64 0, .float .f64 0, .string ⟨#[]⟩] 27) (keepB hP6.out hB7)); have hX7 := Lib.hid (keepA (.cells #[.int .i64 0, .float .f64 0, .string ⟨#[]⟩] 27) (keepB hX6.out hB7)); have hY7 := Lib.hid (World.alloc_heap_new w7 (.cells #[.int .i64 0, .float .f64 0, .string ⟨#[]⟩] 27)); have hC7 := Lib.hid (bal (blw hC6.out hB7) (.cells #[.int .i64 0, .float .f64 0, .string ⟨#[]⟩] 27)); clear hB7; obtain ⟨p70, p71, p72, _⟩ := three_cells hP7.out))
    go_ret
    exact ⟨rfl, hC7.out⟩
set_option maxRecDepth 100000 in
set_option maxHeartbeats 4000000 in
theorem pointsAsk_may (s : Option Addr) (cap : Nat) (L : List Pt) (t : Nat) (n0 n1 : Int) (w : World) (hI : SlP w (.slice s L.length cap) L) (hn : L.length < 9223372036854775807) (h100 : decide (100 < (L.length : Int)) = false) (hm : mayB L = true) :
    Calls Try.prog 7 #[.slice s L.length cap, .float .f64 t, .agg #[.int .i64 n0, .int .i64 n1]] w fun e w' => e = .returned (.bool true) ∧ Below w.heap.size w w' := by
  have HM := Lib.hid hm
  obtain ⟨nm, hname⟩ : ∃ nm : ByteArray, (nm = ⟨#[]⟩ ∧ decide (0 < (L.length : Int)) = false ∧ decide (0 < L.length) = false) ∨ (nm = ⟨#[]⟩ ∧ decide (0 < (L.length : Int)) = true ∧ decide (0 < L.length) = true ∧ decide (0 ≤ n1) = false) ∨
      (decide (0 < (L.length : Int)) = true ∧ decide (0 < L.length) = true ∧ decide (0 ≤ n1) = true ∧ ∃ k : Nat, k < L.length ∧ n1.tmod (L.length : Int) = k ∧ nm = (L.getD k default).mark) := by
    by_cases h1 : 0 < L.length
    · by_cases h2 : 0 ≤ n1
      · have e1 := Int.emod_nonneg n1 (show (L.length : Int) ≠ 0 by omega)
        have e2 := Int.emod_lt_of_pos n1 (show 0 < (L.length : Int) by omega)
        exact ⟨_, .inr (.inr ⟨decide_eq_true (by omega), decide_eq_true h1, decide_eq_true h2, (n1 % (L.length : Int)).toNat, by omega, by rw [Int.tmod_eq_emod_of_nonneg h2]; omega, rfl⟩)⟩
      · exact ⟨_, .inr (.inl ⟨rfl, decide_eq_true (by omega), decide_eq_true h1, decide_eq_false h2⟩)⟩
    · exact ⟨_, .inl ⟨rfl, decide_eq_false (by omega), decide_eq_false h1⟩⟩
  obtain ⟨⟨ps, pt, pm⟩, pc, ha, _, prefl, _⟩ := fnd_all (φ := phi_at t) hm
  obtain ⟨⟨xs, xt, xm⟩, xc, hx, hxf, xrefl, hxw⟩ := fnd_all (φ := phi_seq n0) hm
  obtain ⟨⟨ys, yt, ym⟩, yc, hy, hyf, yrefl, hyw⟩ := fnd_all (φ := phi_mark nm) hm
  dsimp only at prefl xrefl yrefl hxw hyw
  have HA := Lib.hid ha
  have HX := Lib.hid hx
  have HY := Lib.hid hy
  have HXF := Lib.hid hxf
  have HYF := Lib.hid hyf
  have HXW := Lib.hid hxw
  have HYW := Lib.hid hyw
  clear hm ha hx hy hxf hyf hxw hyw
  rcases hname with ⟨rfl, d1, d2⟩ | ⟨rfl, d1, d2, d3⟩ | ⟨d1, d2, d3, k, hk, hkn, hnm⟩
  · go_enter Try.func7, Try.ntmps7
    go_wp2_with (first
        | (go_at_call 18; refine (awake18 _).mono ?_; rintro e w1 ⟨rfl, hB1⟩; have hN1 := Lib.hid (keepB (World.alloc_heap_new w (.cells #[.int .i64 n0, .int .i64 n1] 40)) hB1); have hC1 := Lib.hid (blw (bal (Below.refl _ w) (.cells #[.int .i64 n0, .int .i64 n1] 40)) hB1); clear hB1)
        | (go_at_call 19; refine (rpmay_sl _ _ L _ (hI.below hC1.out) hn).mono ?_; rintro e w2 ⟨rfl, hB2⟩; rw [HM.out]; have hN2 := Lib.hid (keepB hN1.out hB2); have hC2 := Lib.hid (blw hC1.out hB2); clear hB2)
        | (go_at_call 20; refine (pat_any _ _ _ L _ (hI.below hC2.out) hn).mono ?_; rintro e w3 ⟨rfl, hB3⟩; rw [HA.out]; dsimp only [askV]; have hN3 := Lib.hid (keepA (.cells #[.int .i64 ps, .float .f64 pt, .string pm] 27) (keepB hN2.out hB3)); have hP3 := Lib.hid (World.alloc_heap_new w3 (.cells #[.int .i64 ps, .float .f64 pt, .string pm] 27)); have hC3 := Lib.hid (bal (blw hC2.out hB3) (.cells #[.int .i64 ps, .float .f64 pt, .string pm] 27)); clear hB3)
        | (go_at_call 27; refine (rat_any _ _ _ L _ (hI.below hC3.out) hn).mono ?_; rintro e w4 ⟨rfl, hB4⟩; rw [HA.out]; dsimp only [askV]; have hs34 := hB4.size; simp at hs34; have hN4 := Lib.hid (keepA (.cells #[.int .i64 ps, .float .f64 pt, .string pm] 27) (keepB hN3.out hB4)); have hP4 := Lib.hid (keepA (.cells #[.int .i64 ps, .float .f64 pt, .string pm] 27) (keepB hP3.out hB4)); have hQ4 := Lib.hid (World.alloc_heap_new w4 (.cells #[.int .i64 ps, .float .f64 pt, .string pm] 27)); have hC4 := Lib.hid (bal (blw hC3.out hB4) (.cells #[.int .i64 ps, .float .f64 pt, .string pm] 27)); clear hB4)
        | (go_at_call 22; refine (pmay_sl _ _ L _ (hI.below hC4.out) hn).mono ?_; rintro e w5 ⟨rfl, hB5⟩; rw [HM.out]; have hN5 := Lib.hid (keepB hN4.out hB5); have hP5 := Lib.hid (keepB hP4.out hB5); have hQ5 := Lib.hid (keepB hQ4.out hB5); have hC5 := Lib.hid (blw hC4.out hB5); clear hB5
           obtain ⟨n50, n51⟩ := two_cells hN5.out; obtain ⟨p50, p51, p52, _⟩ := three_cells hP5.out; obtain ⟨q50, q51, q52, _⟩ := three_cells hQ5.out)
        | (go_at_call 28; refine (pseq_any _ _ _ L _ (hI.below hC5.out) hn).mono ?_; rintro e w6 ⟨rfl, hB6⟩; rw [HX.out]; dsimp only [askV]; have HS6 := Lib.hid (show w.heap.size < w6.heap.size from Nat.lt_of_lt_of_le (Array.getElem?_eq_some_iff.1 hN5.out).1 hB6.size); have hN6 := Lib.hid (keepA (.cells #[.int .i64 xs, .float .f64 xt, .string xm] 27) (keepB hN5.out hB6)); have hP6 := Lib.hid (keepA (.cells #[.int .i64 xs, .float .f64 xt, .string xm] 27) (keepB hP5.out hB6)); have hX6 := Lib.hid (World.alloc_heap_new w6 (.cells #[.int .i64 xs, .float .f64 xt, .string xm] 27)); have hC6 := Lib.hid (bal (blw hC5.out hB6) (.cells #[.int .i64 xs, .float .f64 xt, .string xm] 27)); clear hB6)
        | (go_at_call 29; refine (pmark_any _ _ _ L _ (hI.below hC6.out) hn).mono ?_; rintro e w7 ⟨rfl, hB7⟩; rw [HY.out]; dsimp only [askV]; have hs67 := hB7.size; simp at hs67; have hN7 := Lib.hid (keepA (.cells #[.int .i64 ys, .float .f64 yt, .string ym] 27) (keepB hN6.out hB7)); have hP7 := Lib.hid (keepA (.cells #[.int .i64 ys, .float .f64 yt, .string ym] 27) (keepB hP6.out hB7)); have hX7 := Lib.hid (keepA (.cells #[.int .i64 ys, .float .f64 yt, .string ym] 27) (keepB hX6.out hB7)); have hY7 := Lib.hid (World.alloc_heap_new w7 (.cells #[.int .i64 ys, .float .f64 yt, .string ym] 27)); have hC7 := Lib.hid (bal (blw hC6.out hB7) (.cells #[.int .i64 ys, .float .f64 yt, .string ym] 27)); clear hB7; obtain ⟨p70, p71, p72, _⟩ := three_cells hP7.out))
    have hs6 := HS6.out
    have HN8 := Lib.hid (keepA (ptObj ptZero) (keepA (ptObj ptZero) hN7.out))
    have HX8 := Lib.hid (keepA (ptObj ptZero) (keepA (ptObj ptZero) hX7.out))
    have HY8 := Lib.hid (keepA (ptObj ptZero) (keepA (ptObj ptZero) hY7.out))
    have HA8 : Hid ((((w7.alloc (.cells #[.int .i64 ys, .float .f64 yt, .string ym] 27)).alloc (ptObj ptZero)).alloc (ptObj ptZero)).heap[w7.heap.size + 1]? = some (ptObj ptZero)) := Lib.hid (keepA _ ((by simp : (w7.alloc (.cells #[.int .i64 ys, .float .f64 yt, .string ym] 27)).heap.size = w7.heap.size + 1) ▸ World.alloc_heap_new (w7.alloc (.cells #[.int .i64 ys, .float .f64 yt, .string ym] 27)) (ptObj ptZero)))
    have HB8 : Hid ((((w7.alloc (.cells #[.int .i64 ys, .float .f64 yt, .string ym] 27)).alloc (ptObj ptZero)).alloc (ptObj ptZero)).heap[w7.heap.size + 1 + 1]? = some (ptObj ptZero)) := Lib.hid ((by simp : ((w7.alloc (.cells #[.int .i64 ys, .float .f64 yt, .string ym] 27)).alloc (ptObj ptZero)).heap.size = w7.heap.size + 1 + 1) ▸ World.alloc_heap_new ((w7.alloc (.cells #[.int .i64 ys, .float .f64 yt, .string ym] 27)).alloc (ptObj ptZero)) (ptObj ptZero))
    have hC8 := Lib.hid (bal (bal hC7.out (ptObj ptZero)) (ptObj ptZero))
    clear hN1 hN2 hN3 hN4 hN5 hN6 hN7 hP3 hP4 hP5 hP6 hP7 hQ4 hQ5 hX6 hX7 hY7 hC1 hC2 hC3 hC4 hC5 hC6 hC7 n50 n51 p50 p51 p52 q50 q51 q52 p70 p71 p72
    go_loopw [19] (fun i wr => ∃ j : Nat, j ≤ L.length ∧ i = .int .i64 (j : Int) ∧ Hid (Below w.heap.size w wr) ∧ Hid (wr.heap[w.heap.size]? = some (.cells #[.int .i64 n0, .int .i64 n1] 40)) ∧ Hid (wr.heap[w6.heap.size]? = some (.cells #[.int .i64 xs, .float .f64 xt, .string xm] 27)) ∧ Hid (wr.heap[w7.heap.size]? = some (.cells #[.int .i64 ys, .float .f64 yt, .string ym] 27)) ∧
        Hid (wr.heap[w7.heap.size + 1]? = some (ptObj (fnd (phi_seq n0) L j))) ∧ Hid (wr.heap[w7.heap.size + 1 + 1]? = some (ptObj (fnd (phi_mark ⟨#[]⟩) L j)))) (fun i _ => L.length - (intOf i).toNat)
    case atStart => exact ⟨0, by omega, rfl, hC8, HN8, HX8, HY8, by rw [fnd_zero]; exact HA8, by rw [fnd_zero]; exact HB8⟩
    case round =>
      obtain ⟨j, hj, rfl, HC, HNB, HXB, HYB, HAB, HBB⟩ := hrel
      clear hC8 HN8 HX8 HY8 HA8 HB8
      by_cases hlt : j < L.length
      · exact absurd hlt (by have := of_decide_eq_false d2; omega)
      · obtain rfl : j = L.length := by omega
        have hA := HAB.out
        have hB := HBB.out
        rw [HXF.out] at hA
        rw [HYF.out] at hB
        obtain ⟨a0, a1, a2, _⟩ := three_cells hA
        obtain ⟨b0, b1, b2, _⟩ := three_cells hB
        obtain ⟨x0, x1, x2, _⟩ := three_cells HXB.out
        obtain ⟨y0, y1, y2, _⟩ := three_cells HYB.out
        clear hA hB
        rcases HXW.out with ⟨rfl, xw⟩ | ⟨rfl, xw⟩ <;> rcases HYW.out with ⟨rfl, yw⟩ | ⟨rfl, yw⟩
        all_goals
          go_wp2
          go_ret
          exact ⟨rfl, HC.out⟩
  · go_enter Try.func7, Try.ntmps7
    go_wp2_with (first
        | (go_at_call 18; refine (awake18 _).mono ?_; rintro e w1 ⟨rfl, hB1⟩; have hN1 := Lib.hid (keepB (World.alloc_heap_new w (.cells #[.int .i64 n0, .int .i64 n1] 40)) hB1); have hC1 := Lib.hid (blw (bal (Below.refl _ w) (.cells #[.int .i64 n0, .int .i64 n1] 40)) hB1); clear hB1)
        | (go_at_call 19; refine (rpmay_sl _ _ L _ (hI.below hC1.out) hn).mono ?_; rintro e w2 ⟨rfl, hB2⟩; rw [HM.out]; have hN2 := Lib.hid (keepB hN1.out hB2); have hC2 := Lib.hid (blw hC1.out hB2); clear hB2)
        | (go_at_call 20; refine (pat_any _ _ _ L _ (hI.below hC2.out) hn).mono ?_; rintro e w3 ⟨rfl, hB3⟩; rw [HA.out]; dsimp only [askV]; have hN3 := Lib.hid (keepA (.cells #[.int .i64 ps, .float .f64 pt, .string pm] 27) (keepB hN2.out hB3)); have hP3 := Lib.hid (World.alloc_heap_new w3 (.cells #[.int .i64 ps, .float .f64 pt, .string pm] 27)); have hC3 := Lib.hid (bal (blw hC2.out hB3) (.cells #[.int .i64 ps, .float .f64 pt, .string pm] 27)); clear hB3)
        | (go_at_call 27; refine (rat_any _ _ _ L _ (hI.below hC3.out) hn).mono ?_; rintro e w4 ⟨rfl, hB4⟩; rw [HA.out]; dsimp only [askV]; have hs34 := hB4.size; simp at hs34; have hN4 := Lib.hid (keepA (.cells #[.int .i64 ps, .float .f64 pt, .string pm] 27) (keepB hN3.out hB4)); have hP4 := Lib.hid (keepA (.cells #[.int .i64 ps, .float .f64 pt, .string pm] 27) (keepB hP3.out hB4)); have hQ4 := Lib.hid (World.alloc_heap_new w4 (.cells #[.int .i64 ps, .float .f64 pt, .string pm] 27)); have hC4 := Lib.hid (bal (blw hC3.out hB4) (.cells #[.int .i64 ps, .float .f64 pt, .string pm] 27)); clear hB4)
        | (go_at_call 22; refine (pmay_sl _ _ L _ (hI.below hC4.out) hn).mono ?_; rintro e w5 ⟨rfl, hB5⟩; rw [HM.out]; have hN5 := Lib.hid (keepB hN4.out hB5); have hP5 := Lib.hid (keepB hP4.out hB5); have hQ5 := Lib.hid (keepB hQ4.out hB5); have hC5 := Lib.hid (blw hC4.out hB5); clear hB5
           obtain ⟨n50, n51⟩ := two_cells hN5.out; obtain ⟨p50, p51, p52, _⟩ := three_cells hP5.out; obtain ⟨q50, q51, q52, _⟩ := three_cells hQ5.out)
        | (go_at_call 28; refine (pseq_any _ _ _ L _ (hI.below hC5.out) hn).mono ?_; rintro e w6 ⟨rfl, hB6⟩; rw [HX.out]; dsimp only [askV]; have HS6 := Lib.hid (show w.heap.size < w6.heap.size from Nat.lt_of_lt_of_le (Array.getElem?_eq_some_iff.1 hN5.out).1 hB6.size); have hN6 := Lib.hid (keepA (.cells #[.int .i64 xs, .float .f64 xt, .string xm] 27) (keepB hN5.out hB6)); have hP6 := Lib.hid (keepA (.cells #[.int .i64 xs, .float .f64 xt, .string xm] 27) (keepB hP5.out hB6)); have hX6 := Lib.hid (World.alloc_heap_new w6 (.cells #[.int .i64 xs, .float .f64 xt, .string xm] 27)); have hC6 := Lib.hid (bal (blw hC5.out hB6) (.cells #[.int .i64 xs, .float .f64 xt, .string xm] 27)); clear hB6)
        | (go_at_call 29; refine (pmark_any _ _ _ L _ (hI.below hC6.out) hn).mono ?_; rintro e w7 ⟨rfl, hB7⟩; rw [HY.out]; dsimp only [askV]; have hs67 := hB7.size; simp at hs67; have hN7 := Lib.hid (keepA (.cells #[.int .i64 ys, .float .f64 yt, .string ym] 27) (keepB hN6.out hB7)); have hP7 := Lib.hid (keepA (.cells #[.int .i64 ys, .float .f64 yt, .string ym] 27) (keepB hP6.out hB7)); have hX7 := Lib.hid (keepA (.cells #[.int .i64 ys, .float .f64 yt, .string ym] 27) (keepB hX6.out hB7)); have hY7 := Lib.hid (World.alloc_heap_new w7 (.cells #[.int .i64 ys, .float .f64 yt, .string ym] 27)); have hC7 := Lib.hid (bal (blw hC6.out hB7) (.cells #[.int .i64 ys, .float .f64 yt, .string ym] 27)); clear hB7; obtain ⟨p70, p71, p72, _⟩ := three_cells hP7.out))
    have hs6 := HS6.out
    have HN8 := Lib.hid (keepA (ptObj ptZero) (keepA (ptObj ptZero) hN7.out))
    have HX8 := Lib.hid (keepA (ptObj ptZero) (keepA (ptObj ptZero) hX7.out))
    have HY8 := Lib.hid (keepA (ptObj ptZero) (keepA (ptObj ptZero) hY7.out))
    have HA8 : Hid ((((w7.alloc (.cells #[.int .i64 ys, .float .f64 yt, .string ym] 27)).alloc (ptObj ptZero)).alloc (ptObj ptZero)).heap[w7.heap.size + 1]? = some (ptObj ptZero)) := Lib.hid (keepA _ ((by simp : (w7.alloc (.cells #[.int .i64 ys, .float .f64 yt, .string ym] 27)).heap.size = w7.heap.size + 1) ▸ World.alloc_heap_new (w7.alloc (.cells #[.int .i64 ys, .float .f64 yt, .string ym] 27)) (ptObj ptZero)))
    have HB8 : Hid ((((w7.alloc (.cells #[.int .i64 ys, .float .f64 yt, .string ym] 27)).alloc (ptObj ptZero)).alloc (ptObj ptZero)).heap[w7.heap.size + 1 + 1]? = some (ptObj ptZero)) := Lib.hid ((by simp : ((w7.alloc (.cells #[.int .i64 ys, .float .f64 yt, .string ym] 27)).alloc (ptObj ptZero)).heap.size = w7.heap.size + 1 + 1) ▸ World.alloc_heap_new ((w7.alloc (.cells #[.int .i64 ys, .float .f64 yt, .string ym] 27)).alloc (ptObj ptZero)) (ptObj ptZero))
    have hC8 := Lib.hid (bal (bal hC7.out (ptObj ptZero)) (ptObj ptZero))
    clear hN1 hN2 hN3 hN4 hN5 hN6 hN7 hP3 hP4 hP5 hP6 hP7 hQ4 hQ5 hX6 hX7 hY7 hC1 hC2 hC3 hC4 hC5 hC6 hC7 n50 n51 p50 p51 p52 q50 q51 q52 p70 p71 p72
    go_loopw [19] (fun i wr => ∃ j : Nat, j ≤ L.length ∧ i = .int .i64 (j : Int) ∧ Hid (Below w.heap.size w wr) ∧ Hid (wr.heap[w.heap.size]? = some (.cells #[.int .i64 n0, .int .i64 n1] 40)) ∧ Hid (wr.heap[w6.heap.size]? = some (.cells #[.int .i64 xs, .float .f64 xt, .string xm] 27)) ∧ Hid (wr.heap[w7.heap.size]? = some (.cells #[.int .i64 ys, .float .f64 yt, .string ym] 27)) ∧
        Hid (wr.heap[w7.heap.size + 1]? = some (ptObj (fnd (phi_seq n0) L j))) ∧ Hid (wr.heap[w7.heap.size + 1 + 1]? = some (ptObj (fnd (phi_mark ⟨#[]⟩) L j)))) (fun i _ => L.length - (intOf i).toNat)
    case atStart => exact ⟨0, by omega, rfl, hC8, HN8, HX8, HY8, by rw [fnd_zero]; exact HA8, by rw [fnd_zero]; exact HB8⟩
    case round =>
      obtain ⟨j, hj, rfl, HC, HNB, HXB, HYB, HAB, HBB⟩ := hrel
      clear hC8 HN8 HX8 HY8 HA8 HB8
      by_cases hlt : j < L.length
      · obtain ⟨b, off, rfl, hr⟩ : ∃ b off, s = some ⟨b, off, none⟩ ∧ RdP w b off L := by
          rcases hI with ⟨a', cap', e, rfl⟩ | ⟨b, off, cap', e, hr⟩
          · simp at hlt
          · exact ⟨b, off, (Value.slice.inj e).1, hr⟩
        have HR := Lib.hid hr
        clear hr
        have hjl : (j : Int) < (L.length : Int) := by omega
        have v2 : IntKind.i64.wrap ((j : Int) + 1) = (j : Int) + 1 := IntWalk.i64_in _ (by omega)
        generalize hPj : L.getD j default = pj
        obtain ⟨js, jt, jm⟩ := pj
        obtain ⟨c0, c1, c2⟩ := pcs (HR.out.below HC.out) hlt hPj
        have hbl := (HR.out.below HC.out).lt
        obtain ⟨m0, m1⟩ := two_cells HNB.out
        have FA := Lib.hid (@fnd_yes (phi_seq n0) L j hlt _ hPj)
        have FB := Lib.hid (@fnd_no (phi_seq n0) L j hlt _ hPj)
        have GA := Lib.hid (@fnd_yes (phi_mark ⟨#[]⟩) L j hlt _ hPj)
        have GB := Lib.hid (@fnd_no (phi_mark ⟨#[]⟩) L j hlt _ hPj)
        have HPj := Lib.hid hPj
        clear hPj
        have g1 := Lib.hid (show phi_mark ⟨#[]⟩ ⟨js, jt, jm⟩ = false by unfold phi_mark; rw [show (⟨#[]⟩ : ByteArray).toList.isEmpty = true by decide +kernel]; rfl)
        cases e1 : decide (js = n0)
        · skip
          have e1b : (js == n0) = false := by simpa using e1
          go_wp2
          go_quiet (fail)
          generalize hwq : wr.drewN nq = wq
          have HC' := Lib.hid (show Below w.heap.size w wq from hwq ▸ below_drewN HC.out nq)
          have hwh : wq.heap = wr.heap := hwq ▸ rfl
          have HNB' := Lib.hid (heap_eqR hwh HNB.out)
          have HXB' := Lib.hid (heap_eqR hwh HXB.out)
          have HYB' := Lib.hid (heap_eqR hwh HYB.out)
          have HAB' := Lib.hid (heap_eqR hwh HAB.out)
          have HBB' := Lib.hid (heap_eqR hwh HBB.out)
          clear hwh hwq HC HNB HXB HYB HAB HBB c0 c1 c2 m0 m1 hbl
          obtain ⟨c0, c1, c2⟩ := pcs (HR.out.below HC'.out) hlt HPj.out
          have hbl := (HR.out.below HC'.out).lt
          go_wp2
          exact ⟨⟨j + 1, by omega, by go_num, Lib.hid HC'.out, Lib.hid (show wq.heap[_]? = _ from HNB'.out), Lib.hid (show wq.heap[_]? = _ from HXB'.out), Lib.hid (show wq.heap[_]? = _ from HYB'.out), by rw [FB.out e1]; exact Lib.hid (show wq.heap[_]? = _ from HAB'.out), by rw [GB.out g1.out]; exact Lib.hid (show wq.heap[_]? = _ from HBB'.out)⟩, by simp [intOf]; omega⟩
        · skip
          have e1b : (js == n0) = true := by simpa using e1
          go_wp2
          go_quiet (fail)
          generalize hwq : wr.drewN nq = wq
          have HC' := Lib.hid (show Below w.heap.size w wq from hwq ▸ below_drewN HC.out nq)
          have hwh : wq.heap = wr.heap := hwq ▸ rfl
          have HNB' := Lib.hid (heap_eqR hwh HNB.out)
          have HXB' := Lib.hid (heap_eqR hwh HXB.out)
          have HYB' := Lib.hid (heap_eqR hwh HYB.out)
          have HAB' := Lib.hid (heap_eqR hwh HAB.out)
          have HBB' := Lib.hid (heap_eqR hwh HBB.out)
          clear hwh hwq HC HNB HXB HYB HAB HBB c0 c1 c2 m0 m1 hbl
          obtain ⟨c0, c1, c2⟩ := pcs (HR.out.below HC'.out) hlt HPj.out
          have hbl := (HR.out.below HC'.out).lt
          obtain ⟨⟨a0, a1⟩, ⟨b0, b1⟩, d0, d1⟩ := sfacts (W := wq) (B := w7.heap.size + 1) (p := fnd (phi_seq n0) L j) HAB'.out js jt
          have sc := pcs (L := L) (HR.out.below (blo_st HC'.out (q := ⟨js, jt, jm⟩) (B := w7.heap.size + 1) (by omega))) hlt HPj.out
          unfold stPt at sc
          obtain ⟨s0, s1, s2⟩ := sc
          go_wp2
          exact ⟨⟨j + 1, by omega, by go_num, Lib.hid (blo_st HC'.out (q := ⟨js, jt, jm⟩) (B := w7.heap.size + 1) (by omega)), Lib.hid (st_keep (show wq.heap[_]? = _ from HNB'.out) (q := ⟨js, jt, jm⟩) (B := w7.heap.size + 1) (by omega)), Lib.hid (st_keep (show wq.heap[_]? = _ from HXB'.out) (q := ⟨js, jt, jm⟩) (B := w7.heap.size + 1) (by omega)), Lib.hid (st_keep (show wq.heap[_]? = _ from HYB'.out) (q := ⟨js, jt, jm⟩) (B := w7.heap.size + 1) (by omega)), by rw [FA.out e1]; exact Lib.hid (stPt_heap (show wq.heap[_]? = _ from HAB'.out) ⟨js, jt, jm⟩), by rw [GB.out g1.out]; exact Lib.hid (st_keep (show wq.heap[_]? = _ from HBB'.out) (q := ⟨js, jt, jm⟩) (B := w7.heap.size + 1) (by omega))⟩, by simp [intOf]; omega⟩
      · obtain rfl : j = L.length := by omega
        have hA := HAB.out
        have hB := HBB.out
        rw [HXF.out] at hA
        rw [HYF.out] at hB
        obtain ⟨a0, a1, a2, _⟩ := three_cells hA
        obtain ⟨b0, b1, b2, _⟩ := three_cells hB
        obtain ⟨x0, x1, x2, _⟩ := three_cells HXB.out
        obtain ⟨y0, y1, y2, _⟩ := three_cells HYB.out
        clear hA hB
        rcases HXW.out with ⟨rfl, xw⟩ | ⟨rfl, xw⟩ <;> rcases HYW.out with ⟨rfl, yw⟩ | ⟨rfl, yw⟩
        all_goals
          go_wp2
          go_ret
          exact ⟨rfl, HC.out⟩
  · obtain ⟨b, off, rfl, hr⟩ : ∃ b off, s = some ⟨b, off, none⟩ ∧ RdP w b off L := by
      rcases hI with ⟨a', cap', e, rfl⟩ | ⟨b, off, cap', e, hr⟩
      · simp at hk
      · exact ⟨b, off, (Value.slice.inj e).1, hr⟩
    have HR := Lib.hid hr
    have hkl : (k : Int) < (L.length : Int) := by omega
    have hk0 : (0 : Int) ≤ (k : Int) := by omega
    have hne : (L.length : Int) ≠ 0 := by omega
    generalize hP : L.getD k default = pk at hnm
    obtain ⟨ks, kt, km⟩ := pk
    dsimp only at hnm
    subst hnm
    have HP := Lib.hid hP
    clear hP hr
    go_enter Try.func7, Try.ntmps7
    go_wp2_with (first
        | (go_at_call 18; refine (awake18 _).mono ?_; rintro e w1 ⟨rfl, hB1⟩; have hN1 := Lib.hid (keepB (World.alloc_heap_new w (.cells #[.int .i64 n0, .int .i64 n1] 40)) hB1); have hC1 := Lib.hid (blw (bal (Below.refl _ w) (.cells #[.int .i64 n0, .int .i64 n1] 40)) hB1); clear hB1)
        | (go_at_call 19; refine (rpmay_sl _ _ L _ (hI.below hC1.out) hn).mono ?_; rintro e w2 ⟨rfl, hB2⟩; rw [HM.out]; have hN2 := Lib.hid (keepB hN1.out hB2); have hC2 := Lib.hid (blw hC1.out hB2); clear hB2)
        | (go_at_call 20; refine (pat_any _ _ _ L _ (hI.below hC2.out) hn).mono ?_; rintro e w3 ⟨rfl, hB3⟩; rw [HA.out]; dsimp only [askV]; have hN3 := Lib.hid (keepA (.cells #[.int .i64 ps, .float .f64 pt, .string pm] 27) (keepB hN2.out hB3)); have hP3 := Lib.hid (World.alloc_heap_new w3 (.cells #[.int .i64 ps, .float .f64 pt, .string pm] 27)); have hC3 := Lib.hid (bal (blw hC2.out hB3) (.cells #[.int .i64 ps, .float .f64 pt, .string pm] 27)); clear hB3)
        | (go_at_call 27; refine (rat_any _ _ _ L _ (hI.below hC3.out) hn).mono ?_; rintro e w4 ⟨rfl, hB4⟩; rw [HA.out]; dsimp only [askV]; have hs34 := hB4.size; simp at hs34; have hN4 := Lib.hid (keepA (.cells #[.int .i64 ps, .float .f64 pt, .string pm] 27) (keepB hN3.out hB4)); have hP4 := Lib.hid (keepA (.cells #[.int .i64 ps, .float .f64 pt, .string pm] 27) (keepB hP3.out hB4)); have hQ4 := Lib.hid (World.alloc_heap_new w4 (.cells #[.int .i64 ps, .float .f64 pt, .string pm] 27)); have hC4 := Lib.hid (bal (blw hC3.out hB4) (.cells #[.int .i64 ps, .float .f64 pt, .string pm] 27)); clear hB4)
        | (go_at_call 22; refine (pmay_sl _ _ L _ (hI.below hC4.out) hn).mono ?_; rintro e w5 ⟨rfl, hB5⟩; rw [HM.out]; have hN5 := Lib.hid (keepB hN4.out hB5); have hP5 := Lib.hid (keepB hP4.out hB5); have hQ5 := Lib.hid (keepB hQ4.out hB5); have hC5 := Lib.hid (blw hC4.out hB5); clear hB5
           obtain ⟨n50, n51⟩ := two_cells hN5.out; obtain ⟨p50, p51, p52, _⟩ := three_cells hP5.out; obtain ⟨q50, q51, q52, _⟩ := three_cells hQ5.out; obtain ⟨k50, k51, k52⟩ := pcs (HR.out.below hC5.out) hk HP.out; have hbl5 := (HR.out.below hC5.out).lt)
        | (go_at_call 28; refine (pseq_any _ _ _ L _ (hI.below hC5.out) hn).mono ?_; rintro e w6 ⟨rfl, hB6⟩; rw [HX.out]; dsimp only [askV]; have HS6 := Lib.hid (show w.heap.size < w6.heap.size from Nat.lt_of_lt_of_le (Array.getElem?_eq_some_iff.1 hN5.out).1 hB6.size); have hN6 := Lib.hid (keepA (.cells #[.int .i64 xs, .float .f64 xt, .string xm] 27) (keepB hN5.out hB6)); have hP6 := Lib.hid (keepA (.cells #[.int .i64 xs, .float .f64 xt, .string xm] 27) (keepB hP5.out hB6)); have hX6 := Lib.hid (World.alloc_heap_new w6 (.cells #[.int .i64 xs, .float .f64 xt, .string xm] 27)); have hC6 := Lib.hid (bal (blw hC5.out hB6) (.cells #[.int .i64 xs, .float .f64 xt, .string xm] 27)); clear hB6)
        | (go_at_call 29; refine (pmark_any _ _ _ L _ (hI.below hC6.out) hn).mono ?_; rintro e w7 ⟨rfl, hB7⟩; rw [HY.out]; dsimp only [askV]; have hs67 := hB7.size; simp at hs67; have hN7 := Lib.hid (keepA (.cells #[.int .i64 ys, .float .f64 yt, .string ym] 27) (keepB hN6.out hB7)); have hP7 := Lib.hid (keepA (.cells #[.int .i64 ys, .float .f64 yt, .string ym] 27) (keepB hP6.out hB7)); have hX7 := Lib.hid (keepA (.cells #[.int .i64 ys, .float .f64 yt, .string ym] 27) (keepB hX6.out hB7)); have hY7 := Lib.hid (World.alloc_heap_new w7 (.cells #[.int .i64 ys, .float .f64 yt, .string ym] 27)); have hC7 := Lib.hid (bal (blw hC6.out hB7) (.cells #[.int .i64 ys, .float .f64 yt, .string ym] 27)); clear hB7; obtain ⟨p70, p71, p72, _⟩ := three_cells hP7.out))
    have hs6 := HS6.out
    have HN8 := Lib.hid (keepA (ptObj ptZero) (keepA (ptObj ptZero) hN7.out))
    have HX8 := Lib.hid (keepA (ptObj ptZero) (keepA (ptObj ptZero) hX7.out))
    have HY8 := Lib.hid (keepA (ptObj ptZero) (keepA (ptObj ptZero) hY7.out))
    have HA8 : Hid ((((w7.alloc (.cells #[.int .i64 ys, .float .f64 yt, .string ym] 27)).alloc (ptObj ptZero)).alloc (ptObj ptZero)).heap[w7.heap.size + 1]? = some (ptObj ptZero)) := Lib.hid (keepA _ ((by simp : (w7.alloc (.cells #[.int .i64 ys, .float .f64 yt, .string ym] 27)).heap.size = w7.heap.size + 1) ▸ World.alloc_heap_new (w7.alloc (.cells #[.int .i64 ys, .float .f64 yt, .string ym] 27)) (ptObj ptZero)))
    have HB8 : Hid ((((w7.alloc (.cells #[.int .i64 ys, .float .f64 yt, .string ym] 27)).alloc (ptObj ptZero)).alloc (ptObj ptZero)).heap[w7.heap.size + 1 + 1]? = some (ptObj ptZero)) := Lib.hid ((by simp : ((w7.alloc (.cells #[.int .i64 ys, .float .f64 yt, .string ym] 27)).alloc (ptObj ptZero)).heap.size = w7.heap.size + 1 + 1) ▸ World.alloc_heap_new ((w7.alloc (.cells #[.int .i64 ys, .float .f64 yt, .string ym] 27)).alloc (ptObj ptZero)) (ptObj ptZero))
    have hC8 := Lib.hid (bal (bal hC7.out (ptObj ptZero)) (ptObj ptZero))
    clear hN1 hN2 hN3 hN4 hN5 hN6 hN7 hP3 hP4 hP5 hP6 hP7 hQ4 hQ5 hX6 hX7 hY7 hC1 hC2 hC3 hC4 hC5 hC6 hC7 n50 n51 p50 p51 p52 q50 q51 q52 p70 p71 p72 k50 k51 k52 hbl5
    go_loopw [19] (fun i wr => ∃ j : Nat, j ≤ L.length ∧ i = .int .i64 (j : Int) ∧ Hid (Below w.heap.size w wr) ∧ Hid (wr.heap[w.heap.size]? = some (.cells #[.int .i64 n0, .int .i64 n1] 40)) ∧ Hid (wr.heap[w6.heap.size]? = some (.cells #[.int .i64 xs, .float .f64 xt, .string xm] 27)) ∧ Hid (wr.heap[w7.heap.size]? = some (.cells #[.int .i64 ys, .float .f64 yt, .string ym] 27)) ∧
        Hid (wr.heap[w7.heap.size + 1]? = some (ptObj (fnd (phi_seq n0) L j))) ∧ Hid (wr.heap[w7.heap.size + 1 + 1]? = some (ptObj (fnd (phi_mark nm) L j)))) (fun i _ => L.length - (intOf i).toNat)
    case atStart => exact ⟨0, by omega, rfl, hC8, HN8, HX8, HY8, by rw [fnd_zero]; exact HA8, by rw [fnd_zero]; exact HB8⟩
    case round =>
      obtain ⟨j, hj, rfl, HC, HNB, HXB, HYB, HAB, HBB⟩ := hrel
      clear hC8 HN8 HX8 HY8 HA8 HB8
      by_cases hlt : j < L.length
      · have hjl : (j : Int) < (L.length : Int) := by omega
        have v2 : IntKind.i64.wrap ((j : Int) + 1) = (j : Int) + 1 := IntWalk.i64_in _ (by omega)
        generalize hPj : L.getD j default = pj
        obtain ⟨js, jt, jm⟩ := pj
        obtain ⟨c0, c1, c2⟩ := pcs (HR.out.below HC.out) hlt hPj
        have hbl := (HR.out.below HC.out).lt
        obtain ⟨m0, m1⟩ := two_cells HNB.out
        have FA := Lib.hid (@fnd_yes (phi_seq n0) L j hlt _ hPj)
        have FB := Lib.hid (@fnd_no (phi_seq n0) L j hlt _ hPj)
        have GA := Lib.hid (@fnd_yes (phi_mark nm) L j hlt _ hPj)
        have GB := Lib.hid (@fnd_no (phi_mark nm) L j hlt _ hPj)
        have HPj := Lib.hid hPj
        clear hPj
        cases e2 : nm.toList.isEmpty
        · cases e3 : (jm.toList == nm.toList)
          · have g1 := Lib.hid (show phi_mark nm ⟨js, jt, jm⟩ = false by unfold phi_mark; rw [e2]; exact e3)
            cases e1 : decide (js = n0)
            · skip
              have e1b : (js == n0) = false := by simpa using e1
              go_wp2
              go_quiet (fail)
              generalize hwq : wr.drewN nq = wq
              have HC' := Lib.hid (show Below w.heap.size w wq from hwq ▸ below_drewN HC.out nq)
              have hwh : wq.heap = wr.heap := hwq ▸ rfl
              have HNB' := Lib.hid (heap_eqR hwh HNB.out)
              have HXB' := Lib.hid (heap_eqR hwh HXB.out)
              have HYB' := Lib.hid (heap_eqR hwh HYB.out)
              have HAB' := Lib.hid (heap_eqR hwh HAB.out)
              have HBB' := Lib.hid (heap_eqR hwh HBB.out)
              clear hwh hwq HC HNB HXB HYB HAB HBB c0 c1 c2 m0 m1 hbl
              obtain ⟨c0, c1, c2⟩ := pcs (HR.out.below HC'.out) hlt HPj.out
              have hbl := (HR.out.below HC'.out).lt
              go_wp2
              exact ⟨⟨j + 1, by omega, by go_num, Lib.hid HC'.out, Lib.hid (show wq.heap[_]? = _ from HNB'.out), Lib.hid (show wq.heap[_]? = _ from HXB'.out), Lib.hid (show wq.heap[_]? = _ from HYB'.out), by rw [FB.out e1]; exact Lib.hid (show wq.heap[_]? = _ from HAB'.out), by rw [GB.out g1.out]; exact Lib.hid (show wq.heap[_]? = _ from HBB'.out)⟩, by simp [intOf]; omega⟩
            · skip
              have e1b : (js == n0) = true := by simpa using e1
              go_wp2
              go_quiet (fail)
              generalize hwq : wr.drewN nq = wq
              have HC' := Lib.hid (show Below w.heap.size w wq from hwq ▸ below_drewN HC.out nq)
              have hwh : wq.heap = wr.heap := hwq ▸ rfl
              have HNB' := Lib.hid (heap_eqR hwh HNB.out)
              have HXB' := Lib.hid (heap_eqR hwh HXB.out)
              have HYB' := Lib.hid (heap_eqR hwh HYB.out)
              have HAB' := Lib.hid (heap_eqR hwh HAB.out)
              have HBB' := Lib.hid (heap_eqR hwh HBB.out)
              clear hwh hwq HC HNB HXB HYB HAB HBB c0 c1 c2 m0 m1 hbl
              obtain ⟨c0, c1, c2⟩ := pcs (HR.out.below HC'.out) hlt HPj.out
              have hbl := (HR.out.below HC'.out).lt
              obtain ⟨⟨a0, a1⟩, ⟨b0, b1⟩, d0, d1⟩ := sfacts (W := wq) (B := w7.heap.size + 1) (p := fnd (phi_seq n0) L j) HAB'.out js jt
              have sc := pcs (L := L) (HR.out.below (blo_st HC'.out (q := ⟨js, jt, jm⟩) (B := w7.heap.size + 1) (by omega))) hlt HPj.out
              unfold stPt at sc
              obtain ⟨s0, s1, s2⟩ := sc
              go_wp2
              exact ⟨⟨j + 1, by omega, by go_num, Lib.hid (blo_st HC'.out (q := ⟨js, jt, jm⟩) (B := w7.heap.size + 1) (by omega)), Lib.hid (st_keep (show wq.heap[_]? = _ from HNB'.out) (q := ⟨js, jt, jm⟩) (B := w7.heap.size + 1) (by omega)), Lib.hid (st_keep (show wq.heap[_]? = _ from HXB'.out) (q := ⟨js, jt, jm⟩) (B := w7.heap.size + 1) (by omega)), Lib.hid (st_keep (show wq.heap[_]? = _ from HYB'.out) (q := ⟨js, jt, jm⟩) (B := w7.heap.size + 1) (by omega)), by rw [FA.out e1]; exact Lib.hid (stPt_heap (show wq.heap[_]? = _ from HAB'.out) ⟨js, jt, jm⟩), by rw [GB.out g1.out]; exact Lib.hid (st_keep (show wq.heap[_]? = _ from HBB'.out) (q := ⟨js, jt, jm⟩) (B := w7.heap.size + 1) (by omega))⟩, by simp [intOf]; omega⟩
          · have g1 := Lib.hid (show phi_mark nm ⟨js, jt, jm⟩ = true by unfold phi_mark; rw [e2]; exact e3)
            cases e1 : decide (js = n0)
            · skip
              have e1b : (js == n0) = false := by simpa using e1
              go_wp2
              go_quiet (fail)
              generalize hwq : wr.drewN nq = wq
              have HC' := Lib.hid (show Below w.heap.size w wq from hwq ▸ below_drewN HC.out nq)
              have hwh : wq.heap = wr.heap := hwq ▸ rfl
              have HNB' := Lib.hid (heap_eqR hwh HNB.out)
              have HXB' := Lib.hid (heap_eqR hwh HXB.out)
              have HYB' := Lib.hid (heap_eqR hwh HYB.out)
              have HAB' := Lib.hid (heap_eqR hwh HAB.out)
              have HBB' := Lib.hid (heap_eqR hwh HBB.out)
              clear hwh hwq HC HNB HXB HYB HAB HBB c0 c1 c2 m0 m1 hbl
              obtain ⟨c0, c1, c2⟩ := pcs (HR.out.below HC'.out) hlt HPj.out
              have hbl := (HR.out.below HC'.out).lt
              obtain ⟨⟨a2, a3⟩, ⟨b2, b3⟩, d2, d3⟩ := sfacts (W := wq) (B := w7.heap.size + 1 + 1) (p := fnd (phi_mark nm) L j) HBB'.out js jt
              go_wp2
              exact ⟨⟨j + 1, by omega, by go_num, Lib.hid (blo_st HC'.out (q := ⟨js, jt, jm⟩) (B := w7.heap.size + 1 + 1) (by omega)), Lib.hid (st_keep (show wq.heap[_]? = _ from HNB'.out) (q := ⟨js, jt, jm⟩) (B := w7.heap.size + 1 + 1) (by omega)), Lib.hid (st_keep (show wq.heap[_]? = _ from HXB'.out) (q := ⟨js, jt, jm⟩) (B := w7.heap.size + 1 + 1) (by omega)), Lib.hid (st_keep (show wq.heap[_]? = _ from HYB'.out) (q := ⟨js, jt, jm⟩) (B := w7.heap.size + 1 + 1) (by omega)), by rw [FB.out e1]; exact Lib.hid (st_keep (show wq.heap[_]? = _ from HAB'.out) (q := ⟨js, jt, jm⟩) (B := w7.heap.size + 1 + 1) (by omega)), by rw [GA.out g1.out]; exact Lib.hid (stPt_heap (show wq.heap[_]? = _ from HBB'.out) ⟨js, jt, jm⟩)⟩, by simp [intOf]; omega⟩
            · skip
              have e1b : (js == n0) = true := by simpa using e1
              go_wp2
              go_quiet (fail)
              generalize hwq : wr.drewN nq = wq
              have HC' := Lib.hid (show Below w.heap.size w wq from hwq ▸ below_drewN HC.out nq)
              have hwh : wq.heap = wr.heap := hwq ▸ rfl
              have HNB' := Lib.hid (heap_eqR hwh HNB.out)
              have HXB' := Lib.hid (heap_eqR hwh HXB.out)
              have HYB' := Lib.hid (heap_eqR hwh HYB.out)
              have HAB' := Lib.hid (heap_eqR hwh HAB.out)
              have HBB' := Lib.hid (heap_eqR hwh HBB.out)
              clear hwh hwq HC HNB HXB HYB HAB HBB c0 c1 c2 m0 m1 hbl
              obtain ⟨c0, c1, c2⟩ := pcs (HR.out.below HC'.out) hlt HPj.out
              have hbl := (HR.out.below HC'.out).lt
              obtain ⟨⟨a0, a1⟩, ⟨b0, b1⟩, d0, d1⟩ := sfacts (W := wq) (B := w7.heap.size + 1) (p := fnd (phi_seq n0) L j) HAB'.out js jt
              obtain ⟨⟨a2, a3⟩, ⟨b2, b3⟩, d2, d3⟩ := sfacts (W := (((wq.setCell ⟨w7.heap.size + 1, 0, none⟩ (.int .i64 js)).setCell ⟨w7.heap.size + 1, 1, none⟩ (.float .f64 jt)).setCell ⟨w7.heap.size + 1, 2, none⟩ (.string jm))) (B := w7.heap.size + 1 + 1) (p := fnd (phi_mark nm) L j) ((stPt_other wq (w7.heap.size + 1) ⟨js, jt, jm⟩ (by omega)).trans HBB'.out) js jt
              have sc := pcs (L := L) (HR.out.below (blo_st HC'.out (q := ⟨js, jt, jm⟩) (B := w7.heap.size + 1) (by omega))) hlt HPj.out
              unfold stPt at sc
              obtain ⟨s0, s1, s2⟩ := sc
              go_wp2
              exact ⟨⟨j + 1, by omega, by go_num, Lib.hid (blo_st (blo_st HC'.out (q := ⟨js, jt, jm⟩) (B := w7.heap.size + 1) (by omega)) (q := ⟨js, jt, jm⟩) (B := w7.heap.size + 1 + 1) (by omega)), Lib.hid (st_keep (st_keep (show wq.heap[_]? = _ from HNB'.out) (q := ⟨js, jt, jm⟩) (B := w7.heap.size + 1) (by omega)) (q := ⟨js, jt, jm⟩) (B := w7.heap.size + 1 + 1) (by omega)), Lib.hid (st_keep (st_keep (show wq.heap[_]? = _ from HXB'.out) (q := ⟨js, jt, jm⟩) (B := w7.heap.size + 1) (by omega)) (q := ⟨js, jt, jm⟩) (B := w7.heap.size + 1 + 1) (by omega)), Lib.hid (st_keep (st_keep (show wq.heap[_]? = _ from HYB'.out) (q := ⟨js, jt, jm⟩) (B := w7.heap.size + 1) (by omega)) (q := ⟨js, jt, jm⟩) (B := w7.heap.size + 1 + 1) (by omega)), by rw [FA.out e1]; exact Lib.hid (st_keep (stPt_heap (show wq.heap[_]? = _ from HAB'.out) ⟨js, jt, jm⟩) (q := ⟨js, jt, jm⟩) (B := w7.heap.size + 1 + 1) (by omega)), by rw [GA.out g1.out]; exact Lib.hid (stPt_heap (st_keep (show wq.heap[_]? = _ from HBB'.out) (q := ⟨js, jt, jm⟩) (B := w7.heap.size + 1) (by omega)) ⟨js, jt, jm⟩)⟩, by simp [intOf]; omega⟩
        · have g1 := Lib.hid (show phi_mark nm ⟨js, jt, jm⟩ = false by unfold phi_mark; rw [e2]; rfl)
          cases e1 : decide (js = n0)
          · skip
            have e1b : (js == n0) = false := by simpa using e1
            go_wp2
            go_quiet (fail)
            generalize hwq : wr.drewN nq = wq
            have HC' := Lib.hid (show Below w.heap.size w wq from hwq ▸ below_drewN HC.out nq)
            have hwh : wq.heap = wr.heap := hwq ▸ rfl
            have HNB' := Lib.hid (heap_eqR hwh HNB.out)
            have HXB' := Lib.hid (heap_eqR hwh HXB.out)
            have HYB' := Lib.hid (heap_eqR hwh HYB.out)
            have HAB' := Lib.hid (heap_eqR hwh HAB.out)
            have HBB' := Lib.hid (heap_eqR hwh HBB.out)
            clear hwh hwq HC HNB HXB HYB HAB HBB c0 c1 c2 m0 m1 hbl
            obtain ⟨c0, c1, c2⟩ := pcs (HR.out.below HC'.out) hlt HPj.out
            have hbl := (HR.out.below HC'.out).lt
            go_wp2
            exact ⟨⟨j + 1, by omega, by go_num, Lib.hid HC'.out, Lib.hid (show wq.heap[_]? = _ from HNB'.out), Lib.hid (show wq.heap[_]? = _ from HXB'.out), Lib.hid (show wq.heap[_]? = _ from HYB'.out), by rw [FB.out e1]; exact Lib.hid (show wq.heap[_]? = _ from HAB'.out), by rw [GB.out g1.out]; exact Lib.hid (show wq.heap[_]? = _ from HBB'.out)⟩, by simp [intOf]; omega⟩
          · skip
            have e1b : (js == n0) = true := by simpa using e1
            go_wp2
            go_quiet (fail)
            generalize hwq : wr.drewN nq = wq
            have HC' := Lib.hid (show Below w.heap.size w wq from hwq ▸ below_drewN HC.out nq)
            have hwh : wq.heap = wr.heap := hwq ▸ rfl
            have HNB' := Lib.hid (heap_eqR hwh HNB.out)
            have HXB' := Lib.hid (heap_eqR hwh HXB.out)
            have HYB' := Lib.hid (heap_eqR hwh HYB.out)
            have HAB' := Lib.hid (heap_eqR hwh HAB.out)
            have HBB' := Lib.hid (heap_eqR hwh HBB.out)
            clear hwh hwq HC HNB HXB HYB HAB HBB c0 c1 c2 m0 m1 hbl
            obtain ⟨c0, c1, c2⟩ := pcs (HR.out.below HC'.out) hlt HPj.out
            have hbl := (HR.out.below HC'.out).lt
            obtain ⟨⟨a0, a1⟩, ⟨b0, b1⟩, d0, d1⟩ := sfacts (W := wq) (B := w7.heap.size + 1) (p := fnd (phi_seq n0) L j) HAB'.out js jt
            have sc := pcs (L := L) (HR.out.below (blo_st HC'.out (q := ⟨js, jt, jm⟩) (B := w7.heap.size + 1) (by omega))) hlt HPj.out
            unfold stPt at sc
            obtain ⟨s0, s1, s2⟩ := sc
            go_wp2
            exact ⟨⟨j + 1, by omega, by go_num, Lib.hid (blo_st HC'.out (q := ⟨js, jt, jm⟩) (B := w7.heap.size + 1) (by omega)), Lib.hid (st_keep (show wq.heap[_]? = _ from HNB'.out) (q := ⟨js, jt, jm⟩) (B := w7.heap.size + 1) (by omega)), Lib.hid (st_keep (show wq.heap[_]? = _ from HXB'.out) (q := ⟨js, jt, jm⟩) (B := w7.heap.size + 1) (by omega)), Lib.hid (st_keep (show wq.heap[_]? = _ from HYB'.out) (q := ⟨js, jt, jm⟩) (B := w7.heap.size + 1) (by omega)), by rw [FA.out e1]; exact Lib.hid (stPt_heap (show wq.heap[_]? = _ from HAB'.out) ⟨js, jt, jm⟩), by rw [GB.out g1.out]; exact Lib.hid (st_keep (show wq.heap[_]? = _ from HBB'.out) (q := ⟨js, jt, jm⟩) (B := w7.heap.size + 1) (by omega))⟩, by simp [intOf]; omega⟩
      · obtain rfl : j = L.length := by omega
        have hA := HAB.out
        have hB := HBB.out
        rw [HXF.out] at hA
        rw [HYF.out] at hB
        obtain ⟨a0, a1, a2, _⟩ := three_cells hA
        obtain ⟨b0, b1, b2, _⟩ := three_cells hB
        obtain ⟨x0, x1, x2, _⟩ := three_cells HXB.out
        obtain ⟨y0, y1, y2, _⟩ := three_cells HYB.out
        clear hA hB
        rcases HXW.out with ⟨rfl, xw⟩ | ⟨rfl, xw⟩ <;> rcases HYW.out with ⟨rfl, yw⟩ | ⟨rfl, yw⟩
        all_goals
          go_wp2
          go_ret
          exact ⟨rfl, HC.out⟩
set_option maxRecDepth 100000 in
set_option maxHeartbeats 4000000 in
theorem pointsAsk_walk (s : Option Addr) (cap : Nat) (L : List Pt) (t : Nat) (n0 n1 : Int) (w : World) (hI : SlP w (.slice s L.length cap) L) (_ : L.length ≤ cap) (_ : t < 18446744073709551616) (_ : -9223372036854775808 ≤ n0 ∧ n0 ≤ 9223372036854775807) (_ : -9223372036854775808 ≤ n1 ∧ n1 ≤ 9223372036854775807) :
    Calls Try.prog 7 #[.slice s L.length cap, .float .f64 t, .agg #[.int .i64 n0, .int .i64 n1]] w fun e w' => e = .returned (.bool true) ∧ Below w.heap.size w w' := by
  cases h100 : decide (100 < (L.length : Int))
  · have hn : L.length < 9223372036854775807 := by simp at h100; omega
    cases hm : mayB L
    · exact pointsAsk_bad s cap L t n0 n1 w hI hn h100 hm
    · exact pointsAsk_may s cap L t n0 n1 w hI hn h100 hm
  · go_enter Try.func7, Try.ntmps7
    go_wp2_with (first
      | (go_at_call 18; refine (awake18 _).mono ?_; rintro e w1 ⟨rfl, hB1⟩))
    go_ret
    exact ⟨rfl, blw (bal (Below.refl _ w) (.cells #[.int .i64 n0, .int .i64 n1] 40)) hB1⟩
end Go.Proofs.Ytddnhjpclglclaa
