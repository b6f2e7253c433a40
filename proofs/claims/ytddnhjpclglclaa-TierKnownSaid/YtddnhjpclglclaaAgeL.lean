/- Walks of the statements on package age that take no slices. -/
import Derived.Test.YtddnhjpclglclaaAgeW
namespace Go.Proofs.Ytddnhjpclglclaa
open Go.RowKit Fl

theorem ageOf_nn (a b : Nat) : NN (ageOf a b) ∧ key (ageOf a b) = ageOf a b := by
  have : ageOf a b ≤ 9218868437227405312 := by unfold ageOf; split; exact rnd_le _; omega
  exact ⟨.inl this, key_of_le this⟩
theorem ageOf_anti {n a b : Nat} (hn : T n) (ha : T a) (h : key a ≤ key b) : ageOf n b ≤ ageOf n a := by
  unfold ageOf
  by_cases h2 : T n ∧ T b ∧ key b < key n
  · rw [if_pos h2, if_pos ⟨hn, ha, by omega⟩]
    apply rnd_mono
    have : tv a ≤ tv b := V_le h
    omega
  · rw [if_neg h2]; omega
theorem ageOf_mono {n m a : Nat} (hm : T m) (h : key n ≤ key m) : ageOf n a ≤ ageOf m a := by
  unfold ageOf
  by_cases h2 : T n ∧ T a ∧ key a < key n
  · rw [if_pos h2, if_pos ⟨hm, h2.2.1, by omega⟩]
    apply rnd_mono
    have : tv n ≤ tv m := V_le h
    omega
  · rw [if_neg h2]; omega
theorem ageOf_self (a : Nat) : ageOf a a = 0 := by unfold ageOf; rw [if_neg (by omega)]

set_option maxHeartbeats 400000 in
theorem awake3 (w : World) :
    Calls Try.prog 23 #[] w fun e w' => e = .returned (.bool true) ∧ w = w' := by
  have k1 : afterV 4607182418800017408 4602678819172646912 = 4609434218613702656 := by decide +kernel
  have k2 : afterE 4607182418800017408 4602678819172646912 = 0 := by decide +kernel
  have k3 : bk 4620130267728707584 4611686018427387904 = 4613937818241073152 := by decide +kernel
  have k4 : tmay 0 = true := by decide +kernel
  have k5 : tmay 9221120237041090561 = false := by decide +kernel
  have k6 : ageOf 4617315517961601024 4611686018427387904 = 4613937818241073152 := by decide +kernel
  have o1 : (FloatKind.f64.format.order 4613937818241073152 4613937818241073152 == some .eq) = true := by decide +kernel
  have o2 : (FloatKind.f64.format.order 4609434218613702656 4609434218613702656 == some .eq) = true := by decide +kernel
  go_enter Try.func23, Try.ntmps23
  go_wp2_with (first | (go_at_call 25; refine (after_T _ _ (by decide) (by decide) _).mono ?_; rintro e w' ⟨rfl, rfl⟩) | (go_at_call 24; refine (bucket_T _ _ (by decide) (by decide) (by decide) _).mono ?_; rintro e w' ⟨rfl, rfl⟩) | (go_at_call 30; refine (may_any _ (by decide) _).mono ?_; rintro e w' ⟨rfl, rfl⟩) | (go_at_call 26; refine (of_any _ _ (by decide) (by decide) _).mono ?_; rintro e w' ⟨rfl, rfl⟩) | (go_at_call 32; refine (nan_any _).mono ?_; rintro e w' ⟨rfl, rfl⟩))
  all_goals (go_ret; exact ⟨rfl, rfl⟩)

theorem one_dy : 4607182418800017408 = dy 1 0 := by decide +kernel
theorem four_dy : 4616189618054758400 = dy 4 0 := by decide +kernel
theorem eight_dy : 4620693217682128896 = dy 8 0 := by decide +kernel

set_option maxHeartbeats 1000000 in
theorem ageOrder_walk (a b : Nat) (n : Int) (wa : a < 18446744073709551616) (wb : b < 18446744073709551616) (h0 : 0 ≤ n) (h1 : n ≤ 65535) (w : World) :
    Calls Try.prog 9 #[.float .f64 a, .float .f64 b, .int .u16 n] w fun e w' => e = .returned (.bool true) ∧ w = w' := by
  obtain ⟨N, rfl⟩ := Int.eq_ofNat_of_zero_le h0
  have hN : N ≤ 65535 := by omega
  have c1 := floatOfInt_nat N
  by_cases ha : T a
  · have m1 : tmay a = true := tmay_iff.2 ha
    by_cases hb : T b
    · have m2 : tmay b = true := tmay_iff.2 hb
      have tN : T (dy N 0) := dy_T (by omega)
      have tN1 : T (dy (N + 1) 0) := dy_T (by omega)
      have wN := key_wf tN.nn
      have wN1 := key_wf tN1.nn
      obtain ⟨x1, x2⟩ := ageOf_nn (dy N 0) a
      obtain ⟨y1, y2⟩ := ageOf_nn (dy N 0) b
      obtain ⟨z1, z2⟩ := ageOf_nn (dy (N + 1) 0) a
      have e1 := f_leq ha.nn hb.nn
      have e2 := f_lss x1 y1
      have e3 : fsame a b = decide (key a = key b) := fsame_nn ha.nn hb.nn
      have e4 := f_neq x1 y1
      have e5 : (FloatKind.f64.format.order (ageOf (dy N 0) a) 0 == some .lt) = false := by rw [f_lss x1 nn_zero, key_zero]; simp
      have e6 : (FloatKind.f64.format.order (ageOf (dy (N + 1) 0) a) (ageOf (dy N 0) a) == some .gt || FloatKind.f64.format.order (ageOf (dy (N + 1) 0) a) (ageOf (dy N 0) a) == some .eq) = true := by
        rw [f_geq z1 x1, x2, z2]
        have := ageOf_mono (n := dy N 0) (a := a) tN1 (by rw [key_dy (by omega), key_dy (by omega)]; exact (dy_le (by omega) (by omega)).2 (by omega))
        simpa using this
      have e7 : ageOf a a = 0 := ageOf_self a
      have e8 : (FloatKind.f64.format.order 0 0 == some .eq) = true := by decide +kernel
      have hadd : ∀ w, (binOp .add 23 (.float .f64 (dy N 0)) (.float .f64 4607182418800017408)).run Try.prog w = .ok (.float .f64 (dy (N + 1) 0)) w := by
        intro w
        have := run_add (P := Try.prog) w 23 tN (dy_T (k := 1) (s := 0) (by omega)) (by have := key_lt tN; rw [key_dy (by omega)] at this; omega)
        rw [rnd_add_dy (by omega), ← one_dy] at this
        exact this
      rw [x2, y2] at e2 e4
      have hpq : ((FloatKind.f64.format.order a b == some .lt || FloatKind.f64.format.order a b == some .eq) = true ∧ (FloatKind.f64.format.order (ageOf (dy N 0) a) (ageOf (dy N 0) b) == some .lt) = false) ∨ (FloatKind.f64.format.order a b == some .lt || FloatKind.f64.format.order a b == some .eq) = false := by
        by_cases hle : key a ≤ key b
        · left
          have hxy : ¬ ageOf (dy N 0) a < ageOf (dy N 0) b := by have := ageOf_anti tN ha hle; omega
          exact ⟨by rw [e1]; simp [hle], by rw [e2]; simp; omega⟩
        · right; rw [e1]; simp; omega
      have hsr : (fsame a b = true ∧ (FloatKind.f64.format.order (ageOf (dy N 0) a) (ageOf (dy N 0) b) != some .eq) = false) ∨ fsame a b = false := by
        by_cases hs : key a = key b
        · left
          have h1 := ageOf_anti tN hb (Nat.le_of_eq hs.symm)
          have h2 := ageOf_anti tN ha (Nat.le_of_eq hs)
          exact ⟨by rw [e3]; simp [hs], by rw [e4]; simp; omega⟩
        · right; rw [e3]; simp [hs]
      clear e1 e2 e3 e4 x1 x2 y1 y2 z1 z2 ha hb tN tN1
      generalize dy (N + 1) 0 = N1 at *
      generalize dy N 0 = N0 at *
      rcases hpq with ⟨p1, p2⟩ | p1 <;> rcases hsr with ⟨s1, s2⟩ | s1 <;> cases g1 : (FloatKind.f64.format.order a 4786511204640096256 == some .gt) <;> cases g2 : (FloatKind.f64.format.order b 4786511204640096256 == some .gt)
      all_goals
        go_enter Try.func9, Try.ntmps9
        go_wp2_with (first | (go_at_call 23; refine (awake3 _).mono ?_; rintro e w' ⟨rfl, rfl⟩) | (go_at_call 30; refine (may_any _ (by assumption) _).mono ?_; rintro e w' ⟨rfl, rfl⟩) | (go_at_call 26; refine (of_any _ _ (by assumption) (by assumption) _).mono ?_; rintro e w' ⟨rfl, rfl⟩) | (go_at_call 31; refine (same_any _ _ _).mono ?_; rintro e w' ⟨rfl, rfl⟩))
        all_goals (go_ret; exact ⟨rfl, rfl⟩)
    · have m2 : tmay b = false := tmay_false.2 hb
      clear ha hb
      go_enter Try.func9, Try.ntmps9
      go_wp2_with (first | (go_at_call 23; refine (awake3 _).mono ?_; rintro e w' ⟨rfl, rfl⟩) | (go_at_call 30; refine (may_any _ (by assumption) _).mono ?_; rintro e w' ⟨rfl, rfl⟩))
      all_goals (go_ret; exact ⟨rfl, rfl⟩)
  · have m1 : tmay a = false := tmay_false.2 ha
    clear ha
    go_enter Try.func9, Try.ntmps9
    go_wp2_with (first | (go_at_call 23; refine (awake3 _).mono ?_; rintro e w' ⟨rfl, rfl⟩) | (go_at_call 30; refine (may_any _ (by assumption) _).mono ?_; rintro e w' ⟨rfl, rfl⟩))
    all_goals (go_ret; exact ⟨rfl, rfl⟩)
end Go.Proofs.Ytddnhjpclglclaa
