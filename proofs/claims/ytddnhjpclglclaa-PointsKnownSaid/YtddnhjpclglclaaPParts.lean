/- Of points that may be each beginning and each end may be, and what is meant among the first ones is never later: the walk of treeringlaw18.PointsParts. -/
import Derived.Test.YtddnhjpclglclaaPartsL
import Derived.Test.YtddnhjpclglclaaPOrd
namespace Go.Proofs.Ytddnhjpclglclaa
open Go.RowKit Fl
theorem sl_take {w : World} {b o cap : Nat} {L : List Pt} (hr : RdP w b o L) {k : Nat} (hk : k ≤ L.length) : SlP w (.slice (some ⟨b, o, none⟩) k cap) (L.take k) := by
  have hl : (L.take k).length = k := by simp; omega
  refine .inr ⟨b, o, cap, by rw [hl], ⟨fun i hi => ?_, hr.lt, fun i hi => ?_⟩⟩
  · rw [hl] at hi; rw [getD_take hi]; exact hr.at_ i (by omega)
  · rw [hl] at hi; rw [getD_take hi]; exact hr.fit i (by omega)
theorem sl_drop {w : World} {b o cap : Nat} {L : List Pt} (hr : RdP w b o L) {k : Nat} (hk : k ≤ L.length) (hcap : L.length ≤ cap) : SlP w (.slice (if cap = k then some ⟨b, o, none⟩ else some ⟨b, o + k * 3, none⟩) (L.length - k) (cap - k)) (L.drop k) := by
  have hl : (L.drop k).length = L.length - k := by simp
  by_cases e : k = L.length
  · refine .inl ⟨if cap = k then some ⟨b, o, none⟩ else some ⟨b, o + k * 3, none⟩, cap - k, ?_, by rw [e]; simp⟩
    have : L.length - k = 0 := by omega
    rw [this]
  · rw [if_neg (by omega)]
    refine .inr ⟨b, o + k * 3, cap - k, by rw [hl], ⟨fun i hi => ?_, hr.lt, fun i hi => ?_⟩⟩
    · rw [hl] at hi
      rw [getD_drop, show o + k * 3 + i * 3 = o + (k + i) * 3 by omega]; exact hr.at_ (k + i) (by omega)
    · rw [hl] at hi; rw [getD_drop]; exact hr.fit (k + i) (by omega)
theorem pat_n {n : Nat} {L : List Pt} (t : Nat) (a : Option Addr) (cap : Nat) (w : World) (en : n = L.length) (hI : SlP w (.slice a n cap) L) (hn : n < 9223372036854775807) :
    Calls Try.prog 20 #[.slice a n cap, .float .f64 t] w fun e w' => e = .returned (askV (askR (phi_at t) L)) ∧ Below w.heap.size w w' := by
  subst en; exact pat_any t a cap L w hI hn
theorem pmay_n {n : Nat} {L : List Pt} (a : Option Addr) (cap : Nat) (w : World) (en : n = L.length) (hI : SlP w (.slice a n cap) L) (hn : n < 9223372036854775807) :
    Calls Try.prog 22 #[.slice a n cap] w fun e w' => e = .returned (.bool (mayB L)) ∧ Below w.heap.size w w' := by
  subst en; exact pmay_sl a cap L w hI hn
theorem take_len {L : List Pt} {k : Nat} (h : k ≤ L.length) : k = (L.take k).length := by simp; omega
theorem drop_len {L : List Pt} {k : Nat} : L.length - k = (L.drop k).length := by simp
set_option maxRecDepth 100000 in
set_option maxHeartbeats 4000000 in
theorem pointsParts_full (b o : Nat) (cap : Nat) (L : List Pt) (c : Int) (t : Nat) (w : World) (hr : RdP w b o L) (hcap : L.length ≤ cap) (hc0 : 0 ≤ c) (hc1 : c ≤ 255) (h100 : decide (100 < (L.length : Int)) = false) (hn : L.length < 9223372036854775807) (hm : mayB L = true) :
    Calls Try.prog 4 #[.slice (some ⟨b, o, none⟩) L.length cap, .int .u8 c, .float .f64 t] w fun e w' => e = .returned (.bool true) ∧ Below w.heap.size w w' := by
  obtain ⟨k, hk, hkl⟩ : ∃ k : Nat, c % ((L.length : Int) + 1) = k ∧ k ≤ L.length := by
    have h1 := Int.emod_nonneg c (show ((L.length : Int) + 1) ≠ 0 by omega)
    have h2 := Int.emod_lt_of_pos c (show 0 < ((L.length : Int) + 1) by omega)
    exact ⟨(c % ((L.length : Int) + 1)).toNat, by omega, by omega⟩
  have hI : SlP w (.slice (some ⟨b, o, none⟩) L.length cap) L := .inr ⟨b, o, cap, rfl, hr⟩
  have HM := Lib.hid hm
  obtain ⟨m1, m2, hways⟩ := parts_ways (phi_at t) hm hkl
  have HM1 := Lib.hid m1
  have HM2 := Lib.hid m2
  have hrefl := fun p => @ask_refl L (phi_at t) p hm
  clear hm m1 m2
  rcases hways with ⟨⟨xs, xt, xm⟩, hx, hz, ⟨⟨ys, yt, ym⟩, hy⟩ | ⟨⟨ys, yt, ym⟩, hy, g1⟩⟩ | ⟨⟨xs, xt, xm⟩, ⟨zs, zt, zm⟩, hx, hz, hy⟩ | ⟨⟨xs, xt, xm⟩, ⟨zs, zt, zm⟩, ⟨ys, yt, ym⟩, hx, hz, hy⟩
  · have HX := Lib.hid hx
    have HY := Lib.hid hy
    have HZ := Lib.hid hz
    have g2 := hrefl _ hx
    dsimp only at g2
    clear hx hy hz hrefl
    go_enter Try.func4, Try.ntmps4
    go_wp2_with (first
        | (go_at_call 18; refine (awake18 _).mono ?_; rintro e w1 ⟨rfl, hB1⟩)
        | (go_at_call 19; refine (rpmay_sl _ _ L _ (hI.below hB1) hn).mono ?_; rintro e w2 ⟨rfl, hB2⟩; rw [HM.out])
        | (go_at_call 20; first
            | (have hr5b := hr5; refine (pat_n (n := L.length - k) (L := L.drop k) t _ _ _ drop_len (sl_drop hr5 hkl hcap) (by omega)).mono ?_; rintro e w5 ⟨rfl, hB5⟩; rw [HZ.out]; dsimp only [askV]; have hr6 := (hr5.below hB5).below (bal (Below.refl _ w5) (.cells #[.int .i64 xs, .float .f64 xt, .string xm] 27)); have hC6 := Lib.hid (bal (blw hC5.out hB5) (.cells #[.int .i64 xs, .float .f64 xt, .string xm] 27))
               have hS5 : w4.heap.size < w5.heap.size := by have := hB5.size; simp at this; omega
               obtain ⟨s0, s1, s2, _⟩ := pt_cells (p := ⟨xs, xt, xm⟩) ((Below.heap_alloc w5 (.cells #[.int .i64 xs, .float .f64 xt, .string xm] 27) _ (by omega)).trans ((hB5.block w3.heap.size (by simp; omega)).trans ((Below.heap_alloc _ _ _ (by omega)).trans ((hB4.block w3.heap.size (by simp)).trans (World.alloc_heap_new w3 _)))))
               obtain ⟨r0, r1, r2, _⟩ := pt_cells (p := ⟨ys, yt, ym⟩) ((Below.heap_alloc w5 (.cells #[.int .i64 xs, .float .f64 xt, .string xm] 27) _ (by omega)).trans ((hB5.block w4.heap.size (by simp)).trans (World.alloc_heap_new w4 _))))
            | (have hr4 := hr3.below (bal (Below.refl _ w3) (.cells #[.int .i64 xs, .float .f64 xt, .string xm] 27)); refine (pat_n (n := k) (L := L.take k) t _ cap _ (take_len hkl) (sl_take hr4 hkl) (by omega)).mono ?_; rintro e w4 ⟨rfl, hB4⟩; rw [HY.out]; dsimp only [askV]; have hr5 := (hr4.below hB4).below (bal (Below.refl _ w4) (.cells #[.int .i64 ys, .float .f64 yt, .string ym] 27)); have hC5 := Lib.hid (bal (blw (bal hC3.out (.cells #[.int .i64 xs, .float .f64 xt, .string xm] 27)) hB4) (.cells #[.int .i64 ys, .float .f64 yt, .string ym] 27))
               have hS4 : w3.heap.size < w4.heap.size := by have := hB4.size; simp at this; omega)
            | (refine (pat_any t _ _ L _ (hI.below (blw hB1 hB2)) hn).mono ?_; rintro e w3 ⟨rfl, hB3⟩; rw [HX.out]; dsimp only [askV]; have hr3 := hr.below (blw (blw hB1 hB2) hB3); have hC3 := Lib.hid (blw (blw hB1 hB2) hB3)))
        | (go_at_call 22; first
            | (have hr7 := hr6.below hB6; refine (pmay_n (n := L.length - k) (L := L.drop k) _ _ _ drop_len (sl_drop hr7 hkl hcap) (by omega)).mono ?_; rintro e w7 ⟨rfl, hB7⟩; rw [HM2.out])
            | (refine (pmay_n (n := k) (L := L.take k) _ cap _ (take_len hkl) (sl_take hr6 hkl) (by omega)).mono ?_; rintro e w6 ⟨rfl, hB6⟩; rw [HM1.out])))
    all_goals
      go_ret
      exact ⟨rfl, blw (blw hC6.out hB6) hB7⟩
  · have HX := Lib.hid hx
    have HY := Lib.hid hy
    have HZ := Lib.hid hz
    have g2 := hrefl _ hx
    dsimp only at g2
    dsimp only at g1
    clear hx hy hz hrefl
    go_enter Try.func4, Try.ntmps4
    go_wp2_with (first
        | (go_at_call 18; refine (awake18 _).mono ?_; rintro e w1 ⟨rfl, hB1⟩)
        | (go_at_call 19; refine (rpmay_sl _ _ L _ (hI.below hB1) hn).mono ?_; rintro e w2 ⟨rfl, hB2⟩; rw [HM.out])
        | (go_at_call 20; first
            | (have hr5b := hr5; refine (pat_n (n := L.length - k) (L := L.drop k) t _ _ _ drop_len (sl_drop hr5 hkl hcap) (by omega)).mono ?_; rintro e w5 ⟨rfl, hB5⟩; rw [HZ.out]; dsimp only [askV]; have hr6 := (hr5.below hB5).below (bal (Below.refl _ w5) (.cells #[.int .i64 xs, .float .f64 xt, .string xm] 27)); have hC6 := Lib.hid (bal (blw hC5.out hB5) (.cells #[.int .i64 xs, .float .f64 xt, .string xm] 27))
               have hS5 : w4.heap.size < w5.heap.size := by have := hB5.size; simp at this; omega
               obtain ⟨s0, s1, s2, _⟩ := pt_cells (p := ⟨xs, xt, xm⟩) ((Below.heap_alloc w5 (.cells #[.int .i64 xs, .float .f64 xt, .string xm] 27) _ (by omega)).trans ((hB5.block w3.heap.size (by simp; omega)).trans ((Below.heap_alloc _ _ _ (by omega)).trans ((hB4.block w3.heap.size (by simp)).trans (World.alloc_heap_new w3 _)))))
               obtain ⟨r0, r1, r2, _⟩ := pt_cells (p := ⟨ys, yt, ym⟩) ((Below.heap_alloc w5 (.cells #[.int .i64 xs, .float .f64 xt, .string xm] 27) _ (by omega)).trans ((hB5.block w4.heap.size (by simp)).trans (World.alloc_heap_new w4 _))))
            | (have hr4 := hr3.below (bal (Below.refl _ w3) (.cells #[.int .i64 xs, .float .f64 xt, .string xm] 27)); refine (pat_n (n := k) (L := L.take k) t _ cap _ (take_len hkl) (sl_take hr4 hkl) (by omega)).mono ?_; rintro e w4 ⟨rfl, hB4⟩; rw [HY.out]; dsimp only [askV]; have hr5 := (hr4.below hB4).below (bal (Below.refl _ w4) (.cells #[.int .i64 ys, .float .f64 yt, .string ym] 27)); have hC5 := Lib.hid (bal (blw (bal hC3.out (.cells #[.int .i64 xs, .float .f64 xt, .string xm] 27)) hB4) (.cells #[.int .i64 ys, .float .f64 yt, .string ym] 27))
               have hS4 : w3.heap.size < w4.heap.size := by have := hB4.size; simp at this; omega)
            | (refine (pat_any t _ _ L _ (hI.below (blw hB1 hB2)) hn).mono ?_; rintro e w3 ⟨rfl, hB3⟩; rw [HX.out]; dsimp only [askV]; have hr3 := hr.below (blw (blw hB1 hB2) hB3); have hC3 := Lib.hid (blw (blw hB1 hB2) hB3)))
        | (go_at_call 22; first
            | (have hr7 := hr6.below hB6; refine (pmay_n (n := L.length - k) (L := L.drop k) _ _ _ drop_len (sl_drop hr7 hkl hcap) (by omega)).mono ?_; rintro e w7 ⟨rfl, hB7⟩; rw [HM2.out])
            | (refine (pmay_n (n := k) (L := L.take k) _ cap _ (take_len hkl) (sl_take hr6 hkl) (by omega)).mono ?_; rintro e w6 ⟨rfl, hB6⟩; rw [HM1.out])))
    all_goals
      go_ret
      exact ⟨rfl, blw (blw hC6.out hB6) hB7⟩
  · have HX := Lib.hid hx
    have HY := Lib.hid hy
    have HZ := Lib.hid hz
    have g2 := hrefl _ hx
    dsimp only at g2
    clear hx hy hz hrefl
    go_enter Try.func4, Try.ntmps4
    go_wp2_with (first
        | (go_at_call 18; refine (awake18 _).mono ?_; rintro e w1 ⟨rfl, hB1⟩)
        | (go_at_call 19; refine (rpmay_sl _ _ L _ (hI.below hB1) hn).mono ?_; rintro e w2 ⟨rfl, hB2⟩; rw [HM.out])
        | (go_at_call 20; first
            | (have hr5b := hr5; refine (pat_n (n := L.length - k) (L := L.drop k) t _ _ _ drop_len (sl_drop hr5 hkl hcap) (by omega)).mono ?_; rintro e w5 ⟨rfl, hB5⟩; rw [HZ.out]; dsimp only [askV]; have hr6 := (hr5.below hB5).below (bal (Below.refl _ w5) (.cells #[.int .i64 zs, .float .f64 zt, .string zm] 27)); have hC6 := Lib.hid (bal (blw hC5.out hB5) (.cells #[.int .i64 zs, .float .f64 zt, .string zm] 27))
               have hS5 : w4.heap.size < w5.heap.size := by have := hB5.size; simp at this; omega
               obtain ⟨s0, s1, s2, _⟩ := pt_cells (p := ⟨xs, xt, xm⟩) ((Below.heap_alloc w5 (.cells #[.int .i64 zs, .float .f64 zt, .string zm] 27) _ (by omega)).trans ((hB5.block w3.heap.size (by simp; omega)).trans ((Below.heap_alloc _ _ _ (by omega)).trans ((hB4.block w3.heap.size (by simp)).trans (World.alloc_heap_new w3 _)))))
               obtain ⟨r0, r1, r2, _⟩ := pt_cells (p := ⟨xs, xt, xm⟩) ((Below.heap_alloc w5 (.cells #[.int .i64 zs, .float .f64 zt, .string zm] 27) _ (by omega)).trans ((hB5.block w4.heap.size (by simp)).trans (World.alloc_heap_new w4 _))))
            | (have hr4 := hr3.below (bal (Below.refl _ w3) (.cells #[.int .i64 xs, .float .f64 xt, .string xm] 27)); refine (pat_n (n := k) (L := L.take k) t _ cap _ (take_len hkl) (sl_take hr4 hkl) (by omega)).mono ?_; rintro e w4 ⟨rfl, hB4⟩; rw [HY.out]; dsimp only [askV]; have hr5 := (hr4.below hB4).below (bal (Below.refl _ w4) (.cells #[.int .i64 xs, .float .f64 xt, .string xm] 27)); have hC5 := Lib.hid (bal (blw (bal hC3.out (.cells #[.int .i64 xs, .float .f64 xt, .string xm] 27)) hB4) (.cells #[.int .i64 xs, .float .f64 xt, .string xm] 27))
               have hS4 : w3.heap.size < w4.heap.size := by have := hB4.size; simp at this; omega)
            | (refine (pat_any t _ _ L _ (hI.below (blw hB1 hB2)) hn).mono ?_; rintro e w3 ⟨rfl, hB3⟩; rw [HX.out]; dsimp only [askV]; have hr3 := hr.below (blw (blw hB1 hB2) hB3); have hC3 := Lib.hid (blw (blw hB1 hB2) hB3)))
        | (go_at_call 22; first
            | (have hr7 := hr6.below hB6; refine (pmay_n (n := L.length - k) (L := L.drop k) _ _ _ drop_len (sl_drop hr7 hkl hcap) (by omega)).mono ?_; rintro e w7 ⟨rfl, hB7⟩; rw [HM2.out])
            | (refine (pmay_n (n := k) (L := L.take k) _ cap _ (take_len hkl) (sl_take hr6 hkl) (by omega)).mono ?_; rintro e w6 ⟨rfl, hB6⟩; rw [HM1.out])))
    all_goals
      go_ret
      exact ⟨rfl, blw (blw hC6.out hB6) hB7⟩
  · have HX := Lib.hid hx
    have HY := Lib.hid hy
    have HZ := Lib.hid hz
    clear hx hy hz hrefl
    go_enter Try.func4, Try.ntmps4
    go_wp2_with (first
        | (go_at_call 18; refine (awake18 _).mono ?_; rintro e w1 ⟨rfl, hB1⟩)
        | (go_at_call 19; refine (rpmay_sl _ _ L _ (hI.below hB1) hn).mono ?_; rintro e w2 ⟨rfl, hB2⟩; rw [HM.out])
        | (go_at_call 20; first
            | (have hr5b := hr5; refine (pat_n (n := L.length - k) (L := L.drop k) t _ _ _ drop_len (sl_drop hr5 hkl hcap) (by omega)).mono ?_; rintro e w5 ⟨rfl, hB5⟩; rw [HZ.out]; dsimp only [askV]; have hr6 := (hr5.below hB5).below (bal (Below.refl _ w5) (.cells #[.int .i64 zs, .float .f64 zt, .string zm] 27)); have hC6 := Lib.hid (bal (blw hC5.out hB5) (.cells #[.int .i64 zs, .float .f64 zt, .string zm] 27))
               have hS5 : w4.heap.size < w5.heap.size := by have := hB5.size; simp at this; omega
               obtain ⟨s0, s1, s2, _⟩ := pt_cells (p := ⟨xs, xt, xm⟩) ((Below.heap_alloc w5 (.cells #[.int .i64 zs, .float .f64 zt, .string zm] 27) _ (by omega)).trans ((hB5.block w3.heap.size (by simp; omega)).trans ((Below.heap_alloc _ _ _ (by omega)).trans ((hB4.block w3.heap.size (by simp)).trans (World.alloc_heap_new w3 _)))))
               obtain ⟨r0, r1, r2, _⟩ := pt_cells (p := ⟨ys, yt, ym⟩) ((Below.heap_alloc w5 (.cells #[.int .i64 zs, .float .f64 zt, .string zm] 27) _ (by omega)).trans ((hB5.block w4.heap.size (by simp)).trans (World.alloc_heap_new w4 _))))
            | (have hr4 := hr3.below (bal (Below.refl _ w3) (.cells #[.int .i64 xs, .float .f64 xt, .string xm] 27)); refine (pat_n (n := k) (L := L.take k) t _ cap _ (take_len hkl) (sl_take hr4 hkl) (by omega)).mono ?_; rintro e w4 ⟨rfl, hB4⟩; rw [HY.out]; dsimp only [askV]; have hr5 := (hr4.below hB4).below (bal (Below.refl _ w4) (.cells #[.int .i64 ys, .float .f64 yt, .string ym] 27)); have hC5 := Lib.hid (bal (blw (bal hC3.out (.cells #[.int .i64 xs, .float .f64 xt, .string xm] 27)) hB4) (.cells #[.int .i64 ys, .float .f64 yt, .string ym] 27))
               have hS4 : w3.heap.size < w4.heap.size := by have := hB4.size; simp at this; omega)
            | (refine (pat_any t _ _ L _ (hI.below (blw hB1 hB2)) hn).mono ?_; rintro e w3 ⟨rfl, hB3⟩; rw [HX.out]; dsimp only [askV]; have hr3 := hr.below (blw (blw hB1 hB2) hB3); have hC3 := Lib.hid (blw (blw hB1 hB2) hB3)))
        | (go_at_call 22; first
            | (have hr7 := hr6.below hB6; refine (pmay_n (n := L.length - k) (L := L.drop k) _ _ _ drop_len (sl_drop hr7 hkl hcap) (by omega)).mono ?_; rintro e w7 ⟨rfl, hB7⟩; rw [HM2.out])
            | (refine (pmay_n (n := k) (L := L.take k) _ cap _ (take_len hkl) (sl_take hr6 hkl) (by omega)).mono ?_; rintro e w6 ⟨rfl, hB6⟩; rw [HM1.out])))
    all_goals
      go_ret
      exact ⟨rfl, blw (blw hC6.out hB6) hB7⟩
theorem ask_nil (φ : Pt → Bool) : askR φ [] = (⟨0, 0, ⟨#[]⟩⟩, 14) := by simp [askR, mayB_nil, ptZero]
theorem sl_nil (w : World) (a : Option Addr) (cap : Nat) : SlP w (.slice a 0 cap) [] := .inl ⟨a, cap, rfl, rfl⟩
set_option maxRecDepth 100000 in
set_option maxHeartbeats 4000000 in
theorem pointsParts_nil (s : Option Addr) (cap : Nat) (c : Int) (t : Nat) (w : World) :
    Calls Try.prog 4 #[.slice s 0 cap, .int .u8 c, .float .f64 t] w fun e w' => e = .returned (.bool true) ∧ Below w.heap.size w w' := by
  have hm : mayB [] = true := mayB_nil
  have HM := Lib.hid hm
  have HX := Lib.hid (ask_nil (phi_at t))
  have hk : c % ((0 : Int) + 1) = 0 := by omega
  have hn : ([] : List Pt).length < 9223372036854775807 := by decide
  clear hm
  cases s
  all_goals
    go_enter Try.func4, Try.ntmps4
    go_wp2_with (first
        | (go_at_call 18; refine (awake18 _).mono ?_; rintro e w1 ⟨rfl, hB1⟩)
        | (go_at_call 19; refine (rpmay_sl _ _ [] _ (sl_nil _ _ _) hn).mono ?_; rintro e w2 ⟨rfl, hB2⟩; rw [HM.out])
        | (go_at_call 20; first
            | (have hC5 := bal hC4.out (.cells #[.int .i64 0, .float .f64 0, .string ⟨#[]⟩] 27); refine (pat_any t _ _ [] _ (sl_nil _ _ _) hn).mono ?_; rintro e w5 ⟨rfl, hB5⟩; rw [HX.out]; dsimp only [askV]; have hC6 := Lib.hid (bal (blw hC5 hB5) (.cells #[.int .i64 0, .float .f64 0, .string ⟨#[]⟩] 27)); clear hC5)
            | (have hC4' := bal hC3.out (.cells #[.int .i64 0, .float .f64 0, .string ⟨#[]⟩] 27); refine (pat_any t _ _ [] _ (sl_nil _ _ _) hn).mono ?_; rintro e w4 ⟨rfl, hB4⟩; rw [HX.out]; dsimp only [askV]; have hC4 := Lib.hid (blw hC4' hB4); clear hC4')
            | (refine (pat_any t _ _ [] _ (sl_nil _ _ _) hn).mono ?_; rintro e w3 ⟨rfl, hB3⟩; rw [HX.out]; dsimp only [askV]; have hC3 := Lib.hid (blw (blw hB1 hB2) hB3)))
        | (go_at_call 22; first
            | (have hC7 := Lib.hid (blw hC6.out hB6); refine (pmay_sl _ _ [] _ (sl_nil _ _ _) hn).mono ?_; rintro e w7 ⟨rfl, hB7⟩; rw [HM.out])
            | (refine (pmay_sl _ _ [] _ (sl_nil _ _ _) hn).mono ?_; rintro e w6 ⟨rfl, hB6⟩; rw [HM.out])))
    all_goals
      go_ret
      exact ⟨rfl, blw (blw hC6.out hB6) hB7⟩
set_option maxRecDepth 100000 in
set_option maxHeartbeats 4000000 in
theorem pointsParts_walk (s : Option Addr) (cap : Nat) (L : List Pt) (c : Int) (t : Nat) (w : World) (hI : SlP w (.slice s L.length cap) L) (hcap : L.length ≤ cap) (hc0 : 0 ≤ c) (hc1 : c ≤ 255) (_ : t < 18446744073709551616) :
    Calls Try.prog 4 #[.slice s L.length cap, .int .u8 c, .float .f64 t] w fun e w' => e = .returned (.bool true) ∧ Below w.heap.size w w' := by
  cases h100 : decide (100 < (L.length : Int))
  · have hn : L.length < 9223372036854775807 := by simp at h100; omega
    cases hm : mayB L
    · go_enter Try.func4, Try.ntmps4
      go_wp2_with (first
        | (go_at_call 18; refine (awake18 _).mono ?_; rintro e w1 ⟨rfl, hB1⟩)
        | (go_at_call 19; refine (rpmay_sl _ _ L _ (hI.below hB1) hn).mono ?_; rintro e w2 ⟨rfl, hB2⟩; rw [hm]))
      go_ret
      exact ⟨rfl, blw hB1 hB2⟩
    · by_cases hz : L = []
      · subst hz
        exact pointsParts_nil s cap c t w
      · obtain ⟨bb, o, rfl, hr⟩ : ∃ b off, s = some ⟨b, off, none⟩ ∧ RdP w b off L := by
          rcases hI with ⟨a', cap', e, rfl⟩ | ⟨b, off, cap', e, hr⟩
          · exact absurd rfl hz
          · exact ⟨b, off, (Value.slice.inj e).1, hr⟩
        exact pointsParts_full bb o cap L c t w hr hcap hc0 hc1 h100 hn hm
  · go_enter Try.func4, Try.ntmps4
    go_wp2_with (first
      | (go_at_call 18; refine (awake18 _).mono ?_; rintro e w1 ⟨rfl, hB1⟩))
    go_ret
    exact ⟨rfl, hB1⟩
end Go.Proofs.Ytddnhjpclglclaa
