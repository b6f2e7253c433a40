/- treeringlaw18.PointsOrder: the walk. -/
import Derived.Test.YtddnhjpclglclaaAwake18
namespace Go.Proofs.Ytddnhjpclglclaa
open Go.RowKit Fl

theorem order_ways {L : List Pt} {a b : Nat} (hm : mayB L = true) (ha : a < 18446744073709551616) (hb : b < 18446744073709551616) :
    (∃ z, askR (phi_at a) L = (z, 14)) ∨ ∃ p, askR (phi_at a) L = (p, 0) ∧ askR (phi_at p.st) L = (p, 0) ∧ (FloatKind.f64.format.order p.st a == some .gt) = false ∧ (FloatKind.f64.format.order a a != some .eq) = false ∧ (FloatKind.f64.format.order p.st p.st == some .eq) = true ∧
      ((FloatKind.f64.format.order a b == some .lt || FloatKind.f64.format.order a b == some .eq) = false ∨ ((FloatKind.f64.format.order a b == some .lt || FloatKind.f64.format.order a b == some .eq) = true ∧ ∃ q, askR (phi_at b) L = (q, 0) ∧ decide (q.seq < p.seq) = false)) := by
  have hM := mayB_true.1 hm
  rcases ask_ways (φ := phi_at a) hm with ⟨e, _⟩ | ⟨k, hk, e, hx, hl⟩
  · left; exact ⟨_, e⟩
  · right
    have hn := hM.nn hk
    obtain ⟨na, ka⟩ := (phi_iff hn ha).1 hx
    have hst : (L.getD k default).st < 18446744073709551616 := by rcases hn with h | h <;> omega
    refine ⟨_, e, ?_, by rw [f_gtr hn na]; exact decide_eq_false (by omega), by rw [f_neq na na]; simp, by rw [f_eql hn hn]; simp, ?_⟩
    · refine ask_at hm hk ((phi_iff hn hst).2 ⟨hn, Nat.le_refl _⟩) fun j h1 h2 => ?_
      have hj := hl j h1 h2
      cases h : phi_at (L.getD k default).st (L.getD j default)
      · rfl
      · have := ((phi_iff (hM.nn h2) hst).1 h).2
        rw [(phi_iff (hM.nn h2) ha).2 ⟨na, by omega⟩] at hj
        cases hj
    · cases h : (FloatKind.f64.format.order a b == some .lt || FloatKind.f64.format.order a b == some .eq)
      · left; rfl
      · right
        have nb : NN b := by
          by_cases h' : NN b
          · exact h'
          · rw [f_leq_bad na hb h'] at h; cases h
        rw [f_leq na nb] at h
        have hab : key a ≤ key b := by simpa using h
        refine ⟨rfl, ?_⟩
        rcases ask_ways (φ := phi_at b) hm with ⟨_, hno⟩ | ⟨i, hi, e', hx', hl'⟩
        · have := hno k hk
          rw [(phi_iff hn hb).2 ⟨nb, by omega⟩] at this
          cases this
        · refine ⟨_, e', ?_⟩
          have : ¬ i < k := by
            intro hik
            have := hl' k hik hk
            rw [(phi_iff hn hb).2 ⟨nb, by omega⟩] at this
            cases this
          by_cases hik : i = k
          · subst hik; exact decide_eq_false (by omega)
          · have := (hM.lt (show k < i by omega) hi).1
            exact decide_eq_false (by omega)

/-- The points behind the first, as Go slices them (no room behind the first: the address stays). -/
theorem sl_tail {w : World} {b o cap : Nat} {L : List Pt} (h : SlP w (.slice (some ⟨b, o, none⟩) L.length cap) L) (hpos : 0 < L.length) (hcap : L.length ≤ cap) :
    SlP w (.slice (if cap = 1 then some ⟨b, o, none⟩ else some ⟨b, o + 3, none⟩) (L.length - 1) (cap - 1)) L.tail := by
  rcases h with ⟨_, _, _, rfl⟩ | ⟨b', o', cap', e, hr⟩
  · simp at hpos
  · obtain ⟨e1, _, _⟩ := Value.slice.inj e
    obtain ⟨rfl, rfl⟩ : b = b' ∧ o = o' := by simpa using e1
    cases L with
    | nil => simp at hpos
    | cons q M =>
      rw [List.tail_cons]
      simp only [List.length_cons, Nat.add_sub_cancel] at hcap ⊢
      cases M with
      | nil => exact .inl ⟨_, _, rfl, rfl⟩
      | cons q2 M =>
        rw [if_neg (by simp at hcap; omega)]
        refine .inr ⟨b, o + 3, cap - 1, rfl, ⟨fun k hk => ?_, hr.lt, fun k hk => ?_⟩⟩
        · have := hr.at_ (k + 1) (by simp at hk ⊢; omega)
          rw [show o + (k + 1) * 3 = o + 3 + k * 3 by omega] at this
          simpa using this
        · have := hr.fit (k + 1) (by simp at hk ⊢; omega)
          simpa using this
theorem tl_len {L : List Pt} : L.tail.length = L.length - 1 := List.length_tail
theorem tl_lt {L : List Pt} (h : L.length < 9223372036854775807) : L.length - 1 < 9223372036854775807 := by omega
theorem psame_n {n m : Nat} {L M : List Pt} (a : Option Addr) (cap : Nat) (a' : Option Addr) (cap' : Nat) (w : World) (en : n = L.length) (em : m = M.length) (hI : SlP w (.slice a n cap) L) (hJ : SlP w (.slice a' m cap') M) (hn : n < 9223372036854775807) (hm : m < 9223372036854775807) :
    Calls Try.prog 21 #[.slice a n cap, .slice a' m cap'] w fun e w' => e = .returned (.bool (sameB L M)) ∧ Below w.heap.size w w' := by
  subst en; subst em
  exact psame_any a cap L a' cap' M w hI hJ hn hm
set_option maxRecDepth 100000 in
set_option maxHeartbeats 4000000 in
theorem pointsOrder_walk (s : Option Addr) (cap : Nat) (L : List Pt) (a b : Nat) (w : World) (hI : SlP w (.slice s L.length cap) L) (hcap : L.length ≤ cap) (ha : a < 18446744073709551616) (hb : b < 18446744073709551616) :
    Calls Try.prog 3 #[.slice s L.length cap, .float .f64 a, .float .f64 b] w fun e w' => e = .returned (.bool true) ∧ Below w.heap.size w w' := by
  cases h100 : decide (100 < (L.length : Int))
  · have hn : L.length < 9223372036854775807 := by simp at h100; omega
    cases hm : mayB L
    · go_enter Try.func3, Try.ntmps3
      go_wp2_with (first
        | (go_at_call 18; refine (awake18 _).mono ?_; rintro e w1 ⟨rfl, hB1⟩)
        | (go_at_call 19; refine (rpmay_sl _ _ L _ (hI.below hB1) hn).mono ?_; rintro e w2 ⟨rfl, hB2⟩; rw [hm]))
      go_ret
      exact ⟨rfl, blw hB1 hB2⟩
    · have HM := Lib.hid hm
      rcases order_ways hm ha hb with ⟨z, e⟩ | ⟨p, e, e2, g1, g2, g3, hrest⟩
      · generalize hB : askR (phi_at b) L = B
        obtain ⟨⟨qs, qt, qm⟩, qc⟩ := B
        obtain ⟨zs, zt, zm⟩ := z
        have HA := Lib.hid e
        have HB := Lib.hid hB
        have HS := Lib.hid (same_self hm)
        clear e hB hm
        by_cases hz : L = []
        · subst hz
          cases t1 : (FloatKind.f64.format.order a b == some .lt || FloatKind.f64.format.order a b == some .eq) <;> cases t2 : (FloatKind.f64.format.order a a != some .eq)
          all_goals
            go_enter Try.func3, Try.ntmps3
            go_wp2_with (first
              | (go_at_call 18; refine (awake18 _).mono ?_; rintro e w1 ⟨rfl, hB1⟩)
              | (go_at_call 19; refine (rpmay_sl _ _ [] _ (hI.below hB1) hn).mono ?_; rintro e w2 ⟨rfl, hB2⟩; rw [HM.out]; have hI2 := hI.below (blw hB1 hB2); have hC2 := Lib.hid (blw hB1 hB2))
              | (go_at_call 20; first
                  | (refine (pat_any b _ _ [] _ (hI3.below ((Below.refl _ _).alloc (Nat.le_refl _) _)) hn).mono ?_; rintro e w4 ⟨rfl, hB4⟩; rw [HB.out]; dsimp only [askV]; have hI4 := (hI3.below ((Below.refl _ _).alloc (Nat.le_refl _) _)).below (hB4.alloc hB4.size (.cells #[.int .i64 qs, .float .f64 qt, .string qm] 27)); have hC4 := Lib.hid (bal (blw (bal hC3.out _) hB4) (.cells #[.int .i64 qs, .float .f64 qt, .string qm] 27)))
                  | (refine (pat_any a _ _ [] _ hI2 hn).mono ?_; rintro e w3 ⟨rfl, hB3⟩; rw [HA.out]; dsimp only [askV]; have hI3 := hI2.below hB3; have hC3 := Lib.hid (blw hC2.out hB3)))
              | (go_at_call 21; first
                  | (refine (psame_n (n := 0) (m := 0) (L := []) (M := []) _ cap _ cap _ rfl rfl hI4 hI4 hn hn).mono ?_; rintro e w5 ⟨rfl, hB5⟩; rw [HS.out])))
            all_goals
              go_ret
              exact ⟨rfl, blw hC4.out hB5⟩
        · obtain ⟨bb, o, rfl, hr⟩ : ∃ b off, s = some ⟨b, off, none⟩ ∧ RdP w b off L := by
            rcases hI with ⟨a', cap', e, rfl⟩ | ⟨b, off, cap', e, hr⟩
            · exact absurd rfl hz
            · exact ⟨b, off, (Value.slice.inj e).1, hr⟩
          have hpos : 0 < L.length := List.length_pos_iff.2 hz
          have hlb := hr.lt
          have HT := Lib.hid (same_tail hpos)
          have hz1 : ((L.length : Int) == 0) = false := by simpa using hz
          cases t1 : (FloatKind.f64.format.order a b == some .lt || FloatKind.f64.format.order a b == some .eq) <;> cases t2 : (FloatKind.f64.format.order a a != some .eq)
          all_goals
            go_enter Try.func3, Try.ntmps3
            go_wp2_with (first
              | (go_at_call 18; refine (awake18 _).mono ?_; rintro e w1 ⟨rfl, hB1⟩)
              | (go_at_call 19; refine (rpmay_sl _ _ L _ (hI.below hB1) hn).mono ?_; rintro e w2 ⟨rfl, hB2⟩; rw [HM.out]; have hI2 := hI.below (blw hB1 hB2); have hC2 := Lib.hid (blw hB1 hB2))
              | (go_at_call 20; first
                  | (refine (pat_any b _ _ L _ (hI3.below ((Below.refl _ _).alloc (Nat.le_refl _) _)) hn).mono ?_; rintro e w4 ⟨rfl, hB4⟩; rw [HB.out]; dsimp only [askV]; have hI4 := (hI3.below ((Below.refl _ _).alloc (Nat.le_refl _) _)).below (hB4.alloc hB4.size (.cells #[.int .i64 qs, .float .f64 qt, .string qm] 27)); have hC4 := Lib.hid (bal (blw (bal hC3.out _) hB4) (.cells #[.int .i64 qs, .float .f64 qt, .string qm] 27)))
                  | (refine (pat_any a _ _ L _ hI2 hn).mono ?_; rintro e w3 ⟨rfl, hB3⟩; rw [HA.out]; dsimp only [askV]; have hI3 := hI2.below hB3; have hC3 := Lib.hid (blw hC2.out hB3)))
              | (go_at_call 21; first
                  | (have hI5 := hI4.below hB5; refine (psame_n (n := L.length) (m := L.length - 1) (L := L) (M := L.tail) _ cap _ (cap - 1) w5 rfl tl_len.symm hI5 (sl_tail hI5 hpos hcap) hn (tl_lt hn)).mono ?_; rintro e w6 ⟨rfl, hB6⟩; rw [HT.out])
                  | (refine (psame_n (n := L.length) (m := L.length) (L := L) (M := L) _ cap _ cap _ rfl rfl hI4 hI4 hn hn).mono ?_; rintro e w5 ⟨rfl, hB5⟩; rw [HS.out])))
            all_goals
              go_ret
              exact ⟨rfl, blw (blw hC4.out hB5) hB6⟩
      · by_cases hz : L = []
        · subst hz
          simp [askR, mayB_nil] at e
        · obtain ⟨bb, o, rfl, hr⟩ : ∃ b off, s = some ⟨b, off, none⟩ ∧ RdP w b off L := by
            rcases hI with ⟨a', cap', e, rfl⟩ | ⟨b, off, cap', e, hr⟩
            · exact absurd rfl hz
            · exact ⟨b, off, (Value.slice.inj e).1, hr⟩
          have hpos : 0 < L.length := List.length_pos_iff.2 hz
          have hlb := hr.lt
          have HT := Lib.hid (same_tail hpos)
          have hz1 : ((L.length : Int) == 0) = false := by simpa using hz
          obtain ⟨ps, pt, pm⟩ := p
          dsimp only at g1 g3 hrest e2
          have HA := Lib.hid e
          have HP := Lib.hid e2
          have HS := Lib.hid (same_self hm)
          rcases hrest with t1 | ⟨t1, ⟨qs, qt, qm⟩, e3, t2⟩
          · generalize hB : askR (phi_at b) L = B
            obtain ⟨⟨qs, qt, qm⟩, qc⟩ := B
            have HB := Lib.hid hB
            clear e e2 hB hm
            go_enter Try.func3, Try.ntmps3
            go_wp2_with (first
              | (go_at_call 18; refine (awake18 _).mono ?_; rintro e w1 ⟨rfl, hB1⟩)
              | (go_at_call 19; refine (rpmay_sl _ _ L _ (hI.below hB1) hn).mono ?_; rintro e w2 ⟨rfl, hB2⟩; rw [HM.out]; have hI2 := hI.below (blw hB1 hB2); have hC2 := Lib.hid (blw hB1 hB2))
              | (go_at_call 20; first
                  | (refine (pat_any pt _ _ L _ hI4 hn).mono ?_; rintro e w7 ⟨rfl, hB7⟩; rw [HP.out]; dsimp only [askV]; have hI7 := hI4.below (hB7.alloc hB7.size (.cells #[.int .i64 ps, .float .f64 pt, .string pm] 27)); have hC7 := Lib.hid (bal (blw hC4.out hB7) (.cells #[.int .i64 ps, .float .f64 pt, .string pm] 27)); obtain ⟨q0, q1, q2, _⟩ := pt_cells (p := ⟨ps, pt, pm⟩) ((hB7.block w3.heap.size (by simp; omega)).trans ((Below.heap_alloc _ _ _ (by omega)).trans ((hB4.block w3.heap.size (by simp)).trans (World.alloc_heap_new w3 _)))); have hS7 : w3.heap.size < w7.heap.size := by have := hB7.size; simp at this; omega)
                    | (refine (pat_any b _ _ L _ (hI3.below ((Below.refl _ _).alloc (Nat.le_refl _) _)) hn).mono ?_; rintro e w4 ⟨rfl, hB4⟩; rw [HB.out]; dsimp only [askV]; have hI4 := (hI3.below ((Below.refl _ _).alloc (Nat.le_refl _) _)).below (hB4.alloc hB4.size (.cells #[.int .i64 qs, .float .f64 qt, .string qm] 27)); have hC4 := Lib.hid (bal (blw (bal hC3.out _) hB4) (.cells #[.int .i64 qs, .float .f64 qt, .string qm] 27)); have hS4 : w3.heap.size < w4.heap.size := (by have := hB4.size; simp at this; omega); obtain ⟨r0, r1, r2, _⟩ := pt_cells (p := ⟨ps, pt, pm⟩) ((hB4.block w3.heap.size (by simp)).trans (World.alloc_heap_new w3 _)))
                  | (refine (pat_any a _ _ L _ hI2 hn).mono ?_; rintro e w3 ⟨rfl, hB3⟩; rw [HA.out]; dsimp only [askV]; have hI3 := hI2.below hB3; have hC3 := Lib.hid (blw hC2.out hB3)))
              | (go_at_call 21; first
                  | (have hI5 := hI7.below hB5; refine (psame_n (n := L.length) (m := L.length - 1) (L := L) (M := L.tail) _ cap _ (cap - 1) w5 rfl tl_len.symm hI5 (sl_tail hI5 hpos hcap) hn (tl_lt hn)).mono ?_; rintro e w6 ⟨rfl, hB6⟩; rw [HT.out])
                  | (refine (psame_n (n := L.length) (m := L.length) (L := L) (M := L) _ cap _ cap _ rfl rfl hI7 hI7 hn hn).mono ?_; rintro e w5 ⟨rfl, hB5⟩; rw [HS.out])))
            all_goals
              go_ret
              exact ⟨rfl, blw (blw hC7.out hB5) hB6⟩
          · have HB := Lib.hid e3
            dsimp only at t2
            clear e e2 e3 hm
            go_enter Try.func3, Try.ntmps3
            go_wp2_with (first
              | (go_at_call 18; refine (awake18 _).mono ?_; rintro e w1 ⟨rfl, hB1⟩)
              | (go_at_call 19; refine (rpmay_sl _ _ L _ (hI.below hB1) hn).mono ?_; rintro e w2 ⟨rfl, hB2⟩; rw [HM.out]; have hI2 := hI.below (blw hB1 hB2); have hC2 := Lib.hid (blw hB1 hB2))
              | (go_at_call 20; first
                  | (refine (pat_any pt _ _ L _ hI4 hn).mono ?_; rintro e w7 ⟨rfl, hB7⟩; rw [HP.out]; dsimp only [askV]; have hI7 := hI4.below (hB7.alloc hB7.size (.cells #[.int .i64 ps, .float .f64 pt, .string pm] 27)); have hC7 := Lib.hid (bal (blw hC4.out hB7) (.cells #[.int .i64 ps, .float .f64 pt, .string pm] 27)); obtain ⟨q0, q1, q2, _⟩ := pt_cells (p := ⟨ps, pt, pm⟩) ((hB7.block w3.heap.size (by simp; omega)).trans ((Below.heap_alloc _ _ _ (by omega)).trans ((hB4.block w3.heap.size (by simp)).trans (World.alloc_heap_new w3 _)))); have hS7 : w3.heap.size < w7.heap.size := by have := hB7.size; simp at this; omega)
                    | (refine (pat_any b _ _ L _ (hI3.below ((Below.refl _ _).alloc (Nat.le_refl _) _)) hn).mono ?_; rintro e w4 ⟨rfl, hB4⟩; rw [HB.out]; dsimp only [askV]; have hI4 := (hI3.below ((Below.refl _ _).alloc (Nat.le_refl _) _)).below (hB4.alloc hB4.size (.cells #[.int .i64 qs, .float .f64 qt, .string qm] 27)); have hC4 := Lib.hid (bal (blw (bal hC3.out _) hB4) (.cells #[.int .i64 qs, .float .f64 qt, .string qm] 27)); have hS4 : w3.heap.size < w4.heap.size := (by have := hB4.size; simp at this; omega); obtain ⟨r0, r1, r2, _⟩ := pt_cells (p := ⟨ps, pt, pm⟩) ((hB4.block w3.heap.size (by simp)).trans (World.alloc_heap_new w3 _)))
                  | (refine (pat_any a _ _ L _ hI2 hn).mono ?_; rintro e w3 ⟨rfl, hB3⟩; rw [HA.out]; dsimp only [askV]; have hI3 := hI2.below hB3; have hC3 := Lib.hid (blw hC2.out hB3)))
              | (go_at_call 21; first
                  | (have hI5 := hI7.below hB5; refine (psame_n (n := L.length) (m := L.length - 1) (L := L) (M := L.tail) _ cap _ (cap - 1) w5 rfl tl_len.symm hI5 (sl_tail hI5 hpos hcap) hn (tl_lt hn)).mono ?_; rintro e w6 ⟨rfl, hB6⟩; rw [HT.out])
                  | (refine (psame_n (n := L.length) (m := L.length) (L := L) (M := L) _ cap _ cap _ rfl rfl hI7 hI7 hn hn).mono ?_; rintro e w5 ⟨rfl, hB5⟩; rw [HS.out])))
            all_goals
              go_ret
              exact ⟨rfl, blw (blw hC7.out hB5) hB6⟩
  · go_enter Try.func3, Try.ntmps3
    go_wp2_with (go_at_call 18; refine (awake18 _).mono ?_; rintro e w1 ⟨rfl, hB1⟩)
    go_ret
    exact ⟨rfl, hB1⟩
end Go.Proofs.Ytddnhjpclglclaa
