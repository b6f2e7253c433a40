/- Walks of the reference's times, and of math.Signbit. -/
import Derived.Test.YtddnhjpclglclaaAgeW
import Derived.Lib.Hide
namespace Go.Proofs.Ytddnhjpclglclaa
open Go.RowKit Fl

set_option maxHeartbeats 400000 in
theorem signbit_any (a : Nat) (ha : a < 18446744073709551616) (w : World) :
    Calls Try.prog 36 #[.float .f64 a] w fun e w' => e = .returned (.bool (decide (9223372036854775808 ≤ a))) ∧ w = w' := by
  have h59 := ext_bits
  by_cases h : 9223372036854775808 ≤ a
  · have hw : IntKind.i64.wrap (a : Int) = (a : Int) - 18446744073709551616 := by
      simp only [IntKind.wrap, IntKind.bits, IntKind.signed]; simp; omega
    have hd : decide ((a : Int) - 18446744073709551616 < 0) = true := by simp; omega
    have hr : decide (9223372036854775808 ≤ a) = true := by simp [h]
    clear ha h
    go_enter Try.func36, Try.ntmps36
    go_wp2
    go_ret
    exact ⟨by rw [hr]; rfl, rfl⟩
  · have hw : IntKind.i64.wrap (a : Int) = (a : Int) := by
      simp only [IntKind.wrap, IntKind.bits, IntKind.signed]; simp; omega
    have hd : decide ((a : Int) < 0) = false := by simp
    have hr : decide (9223372036854775808 ≤ a) = false := by simp; omega
    clear ha h
    go_enter Try.func36, Try.ntmps36
    go_wp2
    go_ret
    exact ⟨by rw [hr]; rfl, rfl⟩

set_option maxHeartbeats 400000 in
theorem rmay_any (a : Nat) (ha : a < 18446744073709551616) (w : World) :
    Calls Try.prog 46 #[.float .f64 a] w fun e w' => e = .returned (.bool (tmay a)) ∧ w = w' := by
  have h1 := f_may ha
  by_cases hn : NN a
  · have h2 := f_leq hn max_nn
    rw [max_key] at h2
    have e1 : (FloatKind.f64.format.order a 0 == some .gt || FloatKind.f64.format.order a 0 == some .eq) = true := by rw [h1]; simp [hn]
    have e3 : tmay a = (FloatKind.f64.format.order a 9218868437227405311 == some .lt || FloatKind.f64.format.order a 9218868437227405311 == some .eq) := by
      rw [h2]; unfold tmay; congr 1; rw [eq_iff_iff]; rw [T_iff]; simp [hn]
    clear h1 h2 ha hn
    go_enter Try.func46, Try.ntmps46
    go_wp2
    all_goals (go_ret; exact ⟨by rw [e3]; rfl, rfl⟩)
  · have e1 : (FloatKind.f64.format.order a 0 == some .gt || FloatKind.f64.format.order a 0 == some .eq) = false := by rw [h1]; simp [hn]
    have e3 : tmay a = false := tmay_false.2 fun h => hn h.nn
    clear h1 ha hn
    go_enter Try.func46, Try.ntmps46
    go_wp2
    all_goals (go_ret; exact ⟨by rw [e3]; rfl, rfl⟩)

set_option maxHeartbeats 400000 in
theorem minus_f (a : Nat) (ha : a < 18446744073709551616) (w : World) :
    Calls Try.prog 48 #[.float .f64 a] w fun e w' => e = .returned (.bool (decide (a = 9223372036854775808))) ∧ w = w' := by
  cases h0 : (FloatKind.f64.format.order a 0 == some .eq)
  · have hv : decide (a = 9223372036854775808) = false := by
      have : a ≠ 9223372036854775808 := by
        intro h; subst h; exact absurd h0 (by decide)
      simp [this]
    go_enter Try.func48, Try.ntmps48
    go_wp2_with (go_at_call 36; refine (signbit_any _ (by assumption) _).mono ?_; rintro e w' ⟨rfl, rfl⟩)
    all_goals (go_ret; exact ⟨by rw [hv]; rfl, rfl⟩)
  · have hv : decide (a = 9223372036854775808) = decide (9223372036854775808 ≤ a) := by
      by_cases hn : NN a
      · rw [f_eql hn nn_zero, key_zero] at h0
        have hk : key a = 0 := by simpa using h0
        unfold key at hk
        unfold NN at hn
        congr 1
        rw [eq_iff_iff]
        split at hk <;> omega
      · exfalso
        have := (not_nn_any ha hn nn_zero).2
        rw [beq_iff_eq] at h0
        exact this h0
    go_enter Try.func48, Try.ntmps48
    go_wp2_with (go_at_call 36; refine (signbit_any _ (by assumption) _).mono ?_; rintro e w' ⟨rfl, rfl⟩)
    all_goals (go_ret; exact ⟨by rw [hv]; rfl, rfl⟩)

set_option maxHeartbeats 400000 in
theorem rage_any (a b : Nat) (ha : a < 18446744073709551616) (hb : b < 18446744073709551616) (w : World) :
    Calls Try.prog 47 #[.float .f64 a, .float .f64 b] w fun e w' => e = .returned (.float .f64 (ageOf a b)) ∧ w = w' := by
  by_cases h1 : T a
  · have m1 : tmay a = true := tmay_iff.2 h1
    by_cases h2 : T b
    · have hg := f_leq h1.nn h2.nn
      have m2 : tmay b = true := tmay_iff.2 h2
      by_cases h3 : key b < key a
      · have m3 : (FloatKind.f64.format.order a b == some .lt || FloatKind.f64.format.order a b == some .eq) = false := by rw [hg]; simp; omega
        have m4 := fun w => run_sub (P := Try.prog) w 23 h1 h2 h3
        have m5 : ageOf a b = rnd (tv a - tv b) := by unfold ageOf; rw [if_pos ⟨h1, h2, h3⟩]
        clear hg h1 h2 h3
        go_enter Try.func47, Try.ntmps47
        go_wp2_with (go_at_call 46; refine (rmay_any _ (by assumption) _).mono ?_; rintro e w' ⟨rfl, rfl⟩)
        all_goals (go_ret; exact ⟨by rw [m5]; rfl, rfl⟩)
      · have m3 : (FloatKind.f64.format.order a b == some .lt || FloatKind.f64.format.order a b == some .eq) = true := by rw [hg]; simp; omega
        have m5 : ageOf a b = 0 := by unfold ageOf; rw [if_neg (fun h => h3 h.2.2)]
        clear hg h1 h2 h3
        go_enter Try.func47, Try.ntmps47
        go_wp2_with (go_at_call 46; refine (rmay_any _ (by assumption) _).mono ?_; rintro e w' ⟨rfl, rfl⟩)
        all_goals (go_ret; exact ⟨by rw [m5]; rfl, rfl⟩)
    · have m2 : tmay b = false := tmay_false.2 h2
      have m5 : ageOf a b = 0 := by unfold ageOf; rw [if_neg (fun h => h2 h.2.1)]
      clear h1 h2
      go_enter Try.func47, Try.ntmps47
      go_wp2_with (go_at_call 46; refine (rmay_any _ (by assumption) _).mono ?_; rintro e w' ⟨rfl, rfl⟩)
      all_goals (go_ret; exact ⟨by rw [m5]; rfl, rfl⟩)
  · have m1 : tmay a = false := tmay_false.2 h1
    have m5 : ageOf a b = 0 := by unfold ageOf; rw [if_neg (fun h => h1 h.1)]
    clear h1
    go_enter Try.func47, Try.ntmps47
    go_wp2_with (go_at_call 46; refine (rmay_any _ (by assumption) _).mono ?_; rintro e w' ⟨rfl, rfl⟩)
    all_goals (go_ret; exact ⟨by rw [m5]; rfl, rfl⟩)

set_option maxHeartbeats 400000 in
theorem rbucket_T (t g : Nat) (ht : T t) (hg : NN g) (h0 : 0 < key g) (w : World) :
    Calls Try.prog 61 #[.float .f64 t, .float .f64 g] w fun e w' => e = .returned (.float .f64 (bk t g)) ∧ w = w' := by
  have wt := key_wf ht.nn
  have m1 : tmay t = true := tmay_iff.2 ht
  have m2 : (FloatKind.f64.format.order g 0 == some .gt) = true := by rw [f_gtr hg nn_zero, key_zero]; simp [h0]
  have m3 := f_gtr hg max_nn
  rw [max_key] at m3
  by_cases hi : g = 9218868437227405312
  · have m4 : (FloatKind.f64.format.order g 9218868437227405311 == some .gt) = true := by rw [m3, hi]; decide
    have v : bk t g = 0 := by unfold bk; rw [if_pos hi]
    clear m3 hi ht hg h0
    go_enter Try.func61, Try.ntmps61
    go_wp2_with (go_at_call 46; refine (rmay_any _ (by assumption) _).mono ?_; rintro e w' ⟨rfl, rfl⟩)
    all_goals (go_ret; exact ⟨by rw [v]; rfl, rfl⟩)
  · have gl : key g ≤ 9218868437227405311 := by
      rcases hg with h | h
      · rw [key_of_le h]; omega
      · subst h; decide
    have m4 : (FloatKind.f64.format.order g 9218868437227405311 == some .gt) = false := by rw [m3]; simp; omega
    obtain ⟨q, hq, nq⟩ := div_nn ht hg h0 hi
    have m5 := fun w => run_quo (P := Try.prog) 23 hq w
    have v : bk t g = D.write ((D.read q).integral .down) := by unfold bk; rw [if_neg hi, hq]; rfl
    clear m3 gl hi ht hg h0 hq
    go_enter Try.func61, Try.ntmps61
    go_wp2_with (first | (go_at_call 46; refine (rmay_any _ (by assumption) _).mono ?_; rintro e w' ⟨rfl, rfl⟩) | (go_at_call 55; refine (floor_any _ (by assumption) _).mono ?_; rintro e w' ⟨rfl, rfl⟩))
    all_goals (go_ret; exact ⟨by rw [v]; rfl, rfl⟩)
end Go.Proofs.Ytddnhjpclglclaa
