/- Walks of the statements AgeSums and AgeBuckets. -/
import Derived.Test.YtddnhjpclglclaaAgeL
import Derived.Test.YtddnhjpclglclaaFloat4
namespace Go.Proofs.Ytddnhjpclglclaa
open Go.RowKit Fl

set_option maxHeartbeats 1000000 in
theorem ageSums_walk (a b c : Int) (a0 : 0 ≤ a) (a1 : a ≤ 65535) (b0 : 0 ≤ b) (b1 : b ≤ 65535) (c0 : 0 ≤ c) (c1 : c ≤ 65535) (w : World) :
    Calls Try.prog 6 #[.int .u16 a, .int .u16 b, .int .u16 c] w fun e w' => e = .returned (.bool true) ∧ w = w' := by
  obtain ⟨A, rfl⟩ := Int.eq_ofNat_of_zero_le a0
  obtain ⟨B, rfl⟩ := Int.eq_ofNat_of_zero_le b0
  obtain ⟨C, rfl⟩ := Int.eq_ofNat_of_zero_le c0
  have hA : A ≤ 65535 := by omega
  have hB : B ≤ 65535 := by omega
  have hC : C ≤ 65535 := by omega
  have vA := floatOfInt_nat A
  have vB := floatOfInt_nat B
  have vC := floatOfInt_nat C
  have q : ∀ k : Nat, k ≤ 65535 → ∀ w, (binOp .quo 23 (.float .f64 (dy k 0)) (.float .f64 4616189618054758400)).run Try.prog w = .ok (.float .f64 (dy k 2)) w := by
    intro k hk w
    have := run_quo (P := Try.prog) 23 (quo_dy (a := k) (d := 4) (s := 0) (t := 0) (c := k) (u := 2) (by omega) (by omega) (by decide) (by omega) (by omega) (by omega) (by omega) (by omega) (by omega)) w
    rw [← four_dy] at this
    exact this
  have q1 := q A hA
  have q2 := q B hB
  have q3 := q C hC
  clear q
  have ad : ∀ i j : Nat, i ≤ 200000 → j ≤ 200000 → ∀ w, (binOp .add 23 (.float .f64 (dy i 2)) (.float .f64 (dy j 2))).run Try.prog w = .ok (.float .f64 (dy (i + j) 2)) w := by
    intro i j hi hj w
    have := run_add (P := Try.prog) w 23 (dy_T (k := i) (s := 2) (by omega)) (dy_T (k := j) (s := 2) (by omega)) (by have := (dy_spec (k := i) (s := 2) (by omega)).1; omega)
    rw [rnd_add_dy (by omega)] at this
    exact this
  have s1 := ad B C (by omega) (by omega)
  clear ad
  obtain ⟨x1, x2⟩ := after_dy (a := A) (b := B) (s := 2) (by omega)
  obtain ⟨y1, y2⟩ := after_dy (a := A + B) (b := C) (s := 2) (by omega)
  obtain ⟨z1, z2⟩ := after_dy (a := A) (b := B + C) (s := 2) (by omega)
  have g1 := ageOf_dy (a := A + B + C) (b := A) (s := 2) (by omega) (by omega)
  have g2 := ageOf_dy (a := A + B) (b := A) (s := 2) (by omega) (by omega)
  have g3 := ageOf_dy (a := A) (b := A + B + C) (s := 2) (by omega) (by omega)
  have i1 : A + B + C - A = B + C := by omega
  have i2 : A + B - A = B := by omega
  have i3 : A - (A + B + C) = 0 := by omega
  have i4 : A + (B + C) = A + B + C := by omega
  rw [i1] at g1
  rw [i2] at g2
  rw [i3, dy_zero] at g3
  rw [i4] at z1
  have TT : ∀ i : Nat, i ≤ 200000 → T (dy i 2) ∧ NN (dy i 2) ∧ dy i 2 < 18446744073709551616 := fun i hi => ⟨dy_T (by omega), (dy_T (by omega)).nn, key_wf (dy_T (by omega)).nn⟩
  obtain ⟨t1, n1, w1⟩ := TT A (by omega)
  obtain ⟨t2, n2, w2⟩ := TT B (by omega)
  obtain ⟨t3, n3, w3⟩ := TT C (by omega)
  obtain ⟨t4, n4, w4⟩ := TT (A + B) (by omega)
  obtain ⟨t5, n5, w5⟩ := TT (A + B + C) (by omega)
  obtain ⟨t6, n6, w6⟩ := TT (B + C) (by omega)
  clear TT
  have o1 : (FloatKind.f64.format.order (dy (A + B + C) 2) (dy (A + B + C) 2) == some .eq) = true := by rw [f_eql n5 n5]; simp
  have o2 : (FloatKind.f64.format.order (dy (B + C) 2) (dy (B + C) 2) == some .eq) = true := by rw [f_eql n6 n6]; simp
  have o3 : (FloatKind.f64.format.order (dy B 2) (dy (B + C) 2) == some .lt || FloatKind.f64.format.order (dy B 2) (dy (B + C) 2) == some .eq) = true := by
    rw [f_leq n2 n6, key_dy (by omega), key_dy (by omega)]
    have := (dy_le (k := B) (l := B + C) (s := 2) (by omega) (by omega)).2 (by omega)
    simpa using this
  have o4 : (FloatKind.f64.format.order 0 0 == some .eq) = true := by decide +kernel
  clear i1 i2 i3 i4 n1 n2 n3 n4 n5 n6 hA hB hC a0 a1 b0 b1 c0 c1
  generalize dy (A + B + C) 2 = DV at *
  generalize dy (A + B) 2 = DU at *
  generalize dy (B + C) 2 = DS at *
  generalize dy A 2 = DA at *
  generalize dy B 2 = DB at *
  generalize dy C 2 = DC at *
  generalize dy A 0 = EA at *
  generalize dy B 0 = EB at *
  generalize dy C 0 = EC at *
  go_enter Try.func6, Try.ntmps6
  go_wp2_with (first | (go_at_call 23; refine (awake3 _).mono ?_; rintro e w' ⟨rfl, rfl⟩) | (go_at_call 25; refine (after_T _ _ (by assumption) (by assumption) _).mono ?_; rintro e w' ⟨rfl, rfl⟩) | (go_at_call 26; refine (of_any _ _ (by assumption) (by assumption) _).mono ?_; rintro e w' ⟨rfl, rfl⟩))
  all_goals (go_ret; exact ⟨rfl, rfl⟩)

theorem quarter_dy : ∀ G : Nat, 1 ≤ G → G ≤ 256 → dy G 2 = dy (2 * G) 3 := by
  intro G _ _
  have := dy_shift (k := G) (s := 2) (j := 1) (by omega)
  rw [← this, Nat.pow_one, Nat.mul_comm]

set_option maxHeartbeats 1000000 in
theorem ageBuckets_walk (a b g : Int) (a0 : 0 ≤ a) (a1 : a ≤ 65535) (b0 : 0 ≤ b) (b1 : b ≤ 65535) (c0 : 0 ≤ g) (c1 : g ≤ 255) (w : World) :
    Calls Try.prog 5 #[.int .u16 a, .int .u16 b, .int .u8 g] w fun e w' => e = .returned (.bool true) ∧ w = w' := by
  obtain ⟨A, rfl⟩ := Int.eq_ofNat_of_zero_le a0
  obtain ⟨B, rfl⟩ := Int.eq_ofNat_of_zero_le b0
  obtain ⟨G, rfl⟩ := Int.eq_ofNat_of_zero_le c0
  have hA : A ≤ 65535 := by omega
  have hB : B ≤ 65535 := by omega
  have hG : G ≤ 255 := by omega
  have vA := floatOfInt_nat A
  have vB := floatOfInt_nat B
  have vG : floatOfInt .f64 (1 + (G : Int)) = dy (1 + G) 0 := floatOfInt_nat (1 + G)
  have q : ∀ k : Nat, k ≤ 65535 → ∀ w, (binOp .quo 23 (.float .f64 (dy k 0)) (.float .f64 4620693217682128896)).run Try.prog w = .ok (.float .f64 (dy k 3)) w := by
    intro k hk w
    have := run_quo (P := Try.prog) 23 (quo_dy (a := k) (d := 8) (s := 0) (t := 0) (c := k) (u := 3) (by omega) (by omega) (by decide) (by omega) (by omega) (by omega) (by omega) (by omega) (by omega)) w
    rw [← eight_dy] at this
    exact this
  have q1 := q A hA
  have q2 := q B hB
  clear q
  have q3 : ∀ w, (binOp .quo 23 (.float .f64 (dy (1 + G) 0)) (.float .f64 4616189618054758400)).run Try.prog w = .ok (.float .f64 (dy (1 + G) 2)) w := by
    intro w
    have := run_quo (P := Try.prog) 23 (quo_dy (a := 1 + G) (d := 4) (s := 0) (t := 0) (c := 1 + G) (u := 2) (by omega) (by omega) (by decide) (by omega) (by omega) (by omega) (by omega) (by omega) (by omega)) w
    rw [← four_dy] at this
    exact this
  have r1 := bk_dy (a := A) (G := 1 + G) hA (by omega) (by omega)
  have r2 := bk_dy (a := B) (G := 1 + G) hB (by omega) (by omega)
  have hdm := Nat.div_add_mod A (2 * (1 + G))
  have hml := Nat.mod_lt A (show 0 < 2 * (1 + G) by omega)
  have hdm2 := Nat.div_add_mod B (2 * (1 + G))
  have hml2 := Nat.mod_lt B (show 0 < 2 * (1 + G) by omega)
  have kA : A / (2 * (1 + G)) ≤ 65535 := Nat.le_trans (Nat.div_le_self _ _) hA
  have kB : B / (2 * (1 + G)) ≤ 65535 := Nat.le_trans (Nat.div_le_self _ _) hB
  have mono : A ≤ B → A / (2 * (1 + G)) ≤ B / (2 * (1 + G)) := fun h => Nat.div_le_div_right h
  have apart : 2 * (1 + G) ≤ B - A → A / (2 * (1 + G)) ≠ B / (2 * (1 + G)) := by
    intro h he
    rw [← he] at hdm2
    generalize 2 * (1 + G) * (A / (2 * (1 + G))) = z at *
    omega
  have lo : A / (2 * (1 + G)) * (1 + G) * 2 ≤ A := by
    have : A / (2 * (1 + G)) * (1 + G) * 2 = 2 * (1 + G) * (A / (2 * (1 + G))) := by rw [Nat.mul_comm _ 2, Nat.mul_comm (A / _), ← Nat.mul_assoc]
    omega
  have hi : A < (A / (2 * (1 + G)) + 1) * (1 + G) * 2 := by
    have : (A / (2 * (1 + G)) + 1) * (1 + G) * 2 = 2 * (1 + G) * (A / (2 * (1 + G))) + 2 * (1 + G) := by rw [Nat.mul_comm _ 2, Nat.mul_comm (A / _ + 1), ← Nat.mul_assoc, Nat.mul_succ]
    omega
  clear hdm hml hdm2 hml2
  generalize A / (2 * (1 + G)) = P at *
  generalize B / (2 * (1 + G)) = Q at *
  have big : P * (1 + G) < 9007199254740992 := by omega
  have big2 : (P + 1) * (1 + G) ≤ 16777216 := (Nat.mul_le_mul (by omega : P + 1 ≤ 65536) (by omega : 1 + G ≤ 256))
  have m1 : ∀ w, (binOp .mul 23 (.float .f64 (dy P 0)) (.float .f64 (dy (1 + G) 2))).run Try.prog w = .ok (.float .f64 (dy (P * (1 + G) * 2) 3)) w := by
    intro w
    have := run_mul (P := Try.prog) 23 (mul_dy (a := P) (b := 1 + G) (s := 0) (t := 2) (by omega) (by omega) big (by omega)) w
    rw [show dy (P * (1 + G) * 2) 3 = dy (P * (1 + G)) (0 + 2) from dy_shift (k := P * (1 + G)) (s := 2) (j := 1) (by omega)]
    exact this
  have m2 : ∀ w, (binOp .mul 23 (.float .f64 (dy (P + 1) 0)) (.float .f64 (dy (1 + G) 2))).run Try.prog w = .ok (.float .f64 (dy ((P + 1) * (1 + G) * 2) 3)) w := by
    intro w
    have := run_mul (P := Try.prog) 23 (mul_dy (a := P + 1) (b := 1 + G) (s := 0) (t := 2) (by omega) (by omega) (by omega) (by omega)) w
    rw [show dy ((P + 1) * (1 + G) * 2) 3 = dy ((P + 1) * (1 + G)) (0 + 2) from dy_shift (k := (P + 1) * (1 + G)) (s := 2) (j := 1) (by omega)]
    exact this
  have ad : ∀ w, (binOp .add 23 (.float .f64 (dy P 0)) (.float .f64 4607182418800017408)).run Try.prog w = .ok (.float .f64 (dy (P + 1) 0)) w := by
    intro w
    have := run_add (P := Try.prog) w 23 (dy_T (k := P) (s := 0) (by omega)) (dy_T (k := 1) (s := 0) (by omega)) (by have := (dy_spec (k := P) (s := 0) (by omega)).1; omega)
    rw [rnd_add_dy (by omega), ← one_dy] at this
    exact this
  have nn : ∀ k s, k < 9007199254740992 → NN (dy k s) := fun k s h => (dy_T h).nn
  have o1 := f_leq (nn A 3 (by omega)) (nn B 3 (by omega))
  have o2 := f_gtr (nn P 0 (by omega)) (nn Q 0 (by omega))
  have o4 := f_eql (nn P 0 (by omega)) (nn Q 0 (by omega))
  have o5 : (FloatKind.f64.format.order (dy (P * (1 + G) * 2) 3) (dy A 3) == some .lt || FloatKind.f64.format.order (dy (P * (1 + G) * 2) 3) (dy A 3) == some .eq) = true := by
    rw [f_leq (nn _ 3 (by omega)) (nn A 3 (by omega)), key_dy (by omega), key_dy (by omega)]
    simpa using (dy_le (by omega) (by omega)).2 lo
  have o6 : (FloatKind.f64.format.order (dy A 3) (dy ((P + 1) * (1 + G) * 2) 3) == some .lt) = true := by
    rw [f_lss (nn A 3 (by omega)) (nn _ 3 (by omega)), key_dy (by omega), key_dy (by omega)]
    simpa using (dy_lt (by omega) (by omega)).2 hi
  rw [key_dy (by omega), key_dy (by omega)] at o1 o2 o4
  have hpq : ((FloatKind.f64.format.order (dy A 3) (dy B 3) == some .lt || FloatKind.f64.format.order (dy A 3) (dy B 3) == some .eq) = true ∧ (FloatKind.f64.format.order (dy P 0) (dy Q 0) == some .gt) = false) ∨ (FloatKind.f64.format.order (dy A 3) (dy B 3) == some .lt || FloatKind.f64.format.order (dy A 3) (dy B 3) == some .eq) = false := by
    by_cases h : A ≤ B
    · left
      refine ⟨by rw [o1]; simpa using (dy_le (by omega) (by omega)).2 h, ?_⟩
      rw [o2]
      have := mono h
      simpa using (dy_le (k := P) (l := Q) (s := 0) (by omega) (by omega)).2 this
    · right
      rw [o1]
      have := (dy_lt (k := B) (l := A) (s := 3) (by omega) (by omega)).2 (by omega)
      simpa using this
  obtain ⟨r, hsub, hrs⟩ : ∃ r, (∀ w : World, (binOp .sub 23 (.float .f64 (dy B 3)) (.float .f64 (dy A 3))).run Try.prog w = .ok (.float .f64 r) w) ∧ (((FloatKind.f64.format.order r (dy (1 + G) 2) == some .gt || FloatKind.f64.format.order r (dy (1 + G) 2) == some .eq) = true ∧ (FloatKind.f64.format.order (dy P 0) (dy Q 0) == some .eq) = false) ∨ (FloatKind.f64.format.order r (dy (1 + G) 2) == some .gt || FloatKind.f64.format.order r (dy (1 + G) 2) == some .eq) = false) := by
    by_cases h : A < B
    · refine ⟨_, fun w => run_sub w 23 (dy_T (by omega)) (dy_T (by omega)) (by rw [key_dy (by omega), key_dy (by omega)]; exact (dy_lt (by omega) (by omega)).2 h), ?_⟩
      rw [rnd_sub_dy (by omega) (by omega), f_geq (nn _ 3 (by omega)) (nn _ 2 (by omega)), key_dy (by omega), key_dy (by omega), quarter_dy (1 + G) (by omega) (by omega)]
      by_cases hd : 2 * (1 + G) ≤ B - A
      · left
        refine ⟨by simpa using (dy_le (by omega) (by omega)).2 hd, ?_⟩
        rw [o4]
        have := fun e => apart hd ((dy_inj (k := P) (l := Q) (s := 0) (by omega) (by omega)).1 e)
        simpa using this
      · right
        have := (dy_lt (k := B - A) (l := 2 * (1 + G)) (s := 3) (by omega) (by omega)).2 (by omega)
        simpa using this
    · obtain ⟨r, h1, h2⟩ := run_sub_le (P := Try.prog) 23 (dy_T (k := B) (s := 3) (by omega)) (dy_T (k := A) (s := 3) (by omega)) (by rw [key_dy (by omega), key_dy (by omega)]; exact (dy_le (by omega) (by omega)).2 (by omega))
      refine ⟨r, h1, .inr (h2 _ (nn _ 2 (by omega)) ?_)⟩
      rw [key_dy (by omega)]
      have := dy_norm (k := 1 + G) (s := 2) (by omega) (by omega) (by omega)
      omega
  have t1 := dy_T (k := A) (s := 3) (by omega)
  have t2 := dy_T (k := B) (s := 3) (by omega)
  have t3 := nn (1 + G) 2 (by omega)
  have t4 : 0 < key (dy (1 + G) 2) := by
    rw [key_dy (by omega)]
    have := dy_norm (k := 1 + G) (s := 2) (by omega) (by omega) (by omega)
    omega
  clear o1 o2 o4 nn big big2 lo hi mono apart kA kB hA hB a0 a1 b0 b1
  generalize dy (P * (1 + G) * 2) 3 = X1 at *
  generalize dy ((P + 1) * (1 + G) * 2) 3 = X2 at *
  generalize dy (P + 1) 0 = X3 at *
  generalize dy (1 + G) 2 = X4 at *
  generalize dy (1 + G) 0 = X5 at *
  generalize dy A 3 = X6 at *
  generalize dy B 3 = X7 at *
  generalize dy A 0 = X8 at *
  generalize dy B 0 = X9 at *
  generalize dy P 0 = X10 at *
  generalize dy Q 0 = X11 at *
  rcases hpq with ⟨p1, p2⟩ | p1 <;> rcases hrs with ⟨s1, s2⟩ | s1
  all_goals
    go_enter Try.func5, Try.ntmps5
    go_wp2_with (first | (go_at_call 23; refine (awake3 _).mono ?_; rintro e w' ⟨rfl, rfl⟩) | (go_at_call 24; refine (bucket_T _ _ (by assumption) (by assumption) (by assumption) _).mono ?_; rintro e w' ⟨rfl, rfl⟩))
    all_goals (go_ret; exact ⟨rfl, rfl⟩)
end Go.Proofs.Ytddnhjpclglclaa
