/- Walks of package age, and of package math's functions that it uses. -/
import Derived.Test.YtddnhjpclglclaaRows
import Derived.Test.YtddnhjpclglclaaFloat3
import Derived.WalkKit
import Derived.WalkSpells
import Derived.WalkLawsBesides
namespace Go.Proofs.Ytddnhjpclglclaa
open Go.RowKit Fl

theorem ext_bits (b : Nat) (w : World) : (callFunc 59 #[.float .f64 b]).run Try.prog w = .ok (.value (.int .u64 b)) w := by kernel_rfl
theorem ext_frombits (b : Nat) (w : World) : (callFunc 58 #[.int .u64 b]).run Try.prog w = .ok (.value (.float .f64 b)) w := by kernel_rfl
theorem ext_floor {q : Nat} (h : NN q) (w : World) : (callFunc 63 #[.float .f64 q]).run Try.prog w = .ok (.value (.float .f64 (D.write ((D.read q).integral .down)))) w := by
  rw [run_callFunc_extern (e := Extern.MathFloor.toIntegral "math.archFloor" .down) Try.func63 (by kernel_rfl) (by kernel_rfl) (by kernel_rfl) (by kernel_rfl), run_floor h]; rfl

set_option maxHeartbeats 400000 in
theorem isInf1_any (a : Nat) (w : World) :
    Calls Try.prog 37 #[.float .f64 a, .int .i64 1] w fun e w' => e = .returned (.bool (FloatKind.f64.format.order a 9218868437227405311 == some .gt)) ∧ w = w' := by
  go_enter Try.func37, Try.ntmps37
  go_wp2
  go_ret
  exact ⟨rfl, rfl⟩
set_option maxHeartbeats 400000 in
theorem isNaN_any (a : Nat) (w : World) :
    Calls Try.prog 35 #[.float .f64 a] w fun e w' => e = .returned (.bool (FloatKind.f64.format.order a a != some .eq)) ∧ w = w' := by
  go_enter Try.func35, Try.ntmps35
  go_wp2
  go_ret
  exact ⟨rfl, rfl⟩
set_option maxHeartbeats 400000 in
theorem nan_any (w : World) :
    Calls Try.prog 32 #[] w fun e w' => e = .returned (.float .f64 9221120237041090561) ∧ w = w' := by
  have h : ∀ w, (callFunc 58 #[.int .u64 9221120237041090561]).run Try.prog w = .ok (.value (.float .f64 9221120237041090561)) w := fun w => ext_frombits 9221120237041090561 w
  go_enter Try.func32, Try.ntmps32
  go_wp2
  go_ret
  exact ⟨rfl, rfl⟩

def tmay (a : Nat) : Bool := decide (T a)
theorem tmay_iff {a : Nat} : tmay a = true ↔ T a := by simp [tmay]
theorem tmay_false {a : Nat} : tmay a = false ↔ ¬ T a := by simp [tmay]

set_option maxHeartbeats 400000 in
theorem may_any (a : Nat) (ha : a < 18446744073709551616) (w : World) :
    Calls Try.prog 30 #[.float .f64 a] w fun e w' => e = .returned (.bool (tmay a)) ∧ w = w' := by
  have h1 := f_may ha
  by_cases hn : NN a
  · have h2 := f_gtr hn max_nn
    by_cases ht : T a
    · have e1 : (FloatKind.f64.format.order a 0 == some .gt || FloatKind.f64.format.order a 0 == some .eq) = true := by rw [h1]; simp [hn]
      have e2 : (FloatKind.f64.format.order a 9218868437227405311 == some .gt) = false := by rw [h2, max_key]; have := (T_iff.1 ht).2; simp; omega
      have e3 : tmay a = true := tmay_iff.2 ht
      clear h1 h2 ha hn ht
      go_enter Try.func30, Try.ntmps30
      go_wp2_with (go_at_call 37; refine (isInf1_any _ _).mono ?_; rintro e w' ⟨rfl, rfl⟩)
      all_goals (go_ret; refine ⟨?_, rfl⟩; simp_all)
    · have e1 : (FloatKind.f64.format.order a 0 == some .gt || FloatKind.f64.format.order a 0 == some .eq) = true := by rw [h1]; simp [hn]
      have e2 : (FloatKind.f64.format.order a 9218868437227405311 == some .gt) = true := by
        rw [h2, max_key]; have : ¬ key a ≤ 9218868437227405311 := fun h => ht (T_iff.2 ⟨hn, h⟩)
        simp; omega
      have e3 : tmay a = false := tmay_false.2 ht
      clear h1 h2 ha hn ht
      go_enter Try.func30, Try.ntmps30
      go_wp2_with (go_at_call 37; refine (isInf1_any _ _).mono ?_; rintro e w' ⟨rfl, rfl⟩)
      all_goals (go_ret; refine ⟨?_, rfl⟩; simp_all)
  · have e1 : (FloatKind.f64.format.order a 0 == some .gt || FloatKind.f64.format.order a 0 == some .eq) = false := by rw [h1]; simp [hn]
    have e3 : tmay a = false := tmay_false.2 fun h => hn h.nn
    clear h1 ha hn
    go_enter Try.func30, Try.ntmps30
    go_wp2_with (go_at_call 37; refine (isInf1_any _ _).mono ?_; rintro e w' ⟨rfl, rfl⟩)
    all_goals (go_ret; refine ⟨?_, rfl⟩; simp_all)

set_option maxHeartbeats 400000 in
theorem of_any (a b : Nat) (ha : a < 18446744073709551616) (hb : b < 18446744073709551616) (w : World) :
    Calls Try.prog 26 #[.float .f64 a, .float .f64 b] w fun e w' => e = .returned (.float .f64 (ageOf a b)) ∧ w = w' := by
  by_cases h1 : T a
  · by_cases h2 : T b
    · have hg := f_gtr h1.nn h2.nn
      by_cases h3 : key b < key a
      · have m1 : tmay a = true := tmay_iff.2 h1
        have m2 : tmay b = true := tmay_iff.2 h2
        have m3 : (FloatKind.f64.format.order a b == some .gt) = true := by rw [hg]; simp [h3]
        have m4 := fun w => run_sub (P := Try.prog) w 23 h1 h2 h3
        have m5 : ageOf a b = rnd (tv a - tv b) := by unfold ageOf; rw [if_pos ⟨h1, h2, h3⟩]
        clear hg h1 h2 h3
        go_enter Try.func26, Try.ntmps26
        go_wp2_with (go_at_call 30; refine (may_any _ (by assumption) _).mono ?_; rintro e w' ⟨rfl, rfl⟩)
        all_goals (go_ret; exact ⟨by rw [m5]; rfl, rfl⟩)
      · have m1 : tmay a = true := tmay_iff.2 h1
        have m2 : tmay b = true := tmay_iff.2 h2
        have m3 : (FloatKind.f64.format.order a b == some .gt) = false := by rw [hg]; simp; omega
        have m5 : ageOf a b = 0 := by unfold ageOf; rw [if_neg (fun h => h3 h.2.2)]
        clear hg h1 h2 h3
        go_enter Try.func26, Try.ntmps26
        go_wp2_with (go_at_call 30; refine (may_any _ (by assumption) _).mono ?_; rintro e w' ⟨rfl, rfl⟩)
        all_goals (go_ret; exact ⟨by rw [m5]; rfl, rfl⟩)
    · have m1 : tmay a = true := tmay_iff.2 h1
      have m2 : tmay b = false := tmay_false.2 h2
      have m5 : ageOf a b = 0 := by unfold ageOf; rw [if_neg (fun h => h2 h.2.1)]
      clear h1 h2
      go_enter Try.func26, Try.ntmps26
      go_wp2_with (go_at_call 30; refine (may_any _ (by assumption) _).mono ?_; rintro e w' ⟨rfl, rfl⟩)
      all_goals (go_ret; exact ⟨by rw [m5]; rfl, rfl⟩)
  · have m1 : tmay a = false := tmay_false.2 h1
    have m5 : ageOf a b = 0 := by unfold ageOf; rw [if_neg (fun h => h1 h.1)]
    clear h1
    go_enter Try.func26, Try.ntmps26
    go_wp2_with (go_at_call 30; refine (may_any _ (by assumption) _).mono ?_; rintro e w' ⟨rfl, rfl⟩)
    all_goals (go_ret; exact ⟨by rw [m5]; rfl, rfl⟩)

theorem key_wf {r : Nat} (h : NN r) : r < 18446744073709551616 := by unfold NN at h; omega

set_option maxHeartbeats 400000 in
/-- Two times: their sum, or why there is none. -/
theorem after_T (a b : Nat) (h1 : T a) (h2 : T b) (w : World) :
    Calls Try.prog 25 #[.float .f64 a, .float .f64 b] w fun e w' => e = .returned (.tuple #[.float .f64 (afterV a b), .int .i64 (afterE a b)]) ∧ w = w' := by
  have wa := key_wf h1.nn
  have wb := key_wf h2.nn
  have m1 : tmay a = true := tmay_iff.2 h1
  have m2 : tmay b = true := tmay_iff.2 h2
  obtain ⟨r, hr, nr, kr, hor⟩ := run_add_any (P := Try.prog) 23 h1 h2
  have wr := key_wf nr
  by_cases hf : rnd (tv a + tv b) < 9218868437227405312
  · have m3 : tmay r = true := tmay_iff.2 (nn_T nr (by omega))
    have v1 : afterE a b = 0 := by unfold afterE; rw [if_pos ⟨h1, h2, hf⟩]
    have v2 : afterV a b = rnd (tv a + tv b) := by unfold afterV; rw [if_pos ⟨h1, h2, hf⟩]
    have hz := f_eql nr nn_zero
    rw [key_zero, kr] at hz
    by_cases h0 : rnd (tv a + tv b) = 0
    · have z : (FloatKind.f64.format.order r 0 == some .eq) = true := by rw [hz]; simp [h0]
      have v3 : afterV a b = 0 := by rw [v2, h0]
      clear hz h0 v2 hf h1 h2 nr kr hor
      go_enter Try.func25, Try.ntmps25
      go_wp2_with (go_at_call 30; refine (may_any _ (by assumption) _).mono ?_; rintro e w' ⟨rfl, rfl⟩)
      all_goals (go_ret2; exact ⟨by rw [v1, v3]; rfl, rfl⟩)
    · have z : (FloatKind.f64.format.order r 0 == some .eq) = false := by rw [hz]; simp [h0]
      have hr2 : r = rnd (tv a + tv b) := by
        rcases hor with h | h
        · subst h; exact absurd kr.symm h0
        · exact h
      have v3 : afterV a b = r := by rw [v2, hr2]
      clear hz h0 v2 hf h1 h2 nr kr hor hr2
      go_enter Try.func25, Try.ntmps25
      go_wp2_with (go_at_call 30; refine (may_any _ (by assumption) _).mono ?_; rintro e w' ⟨rfl, rfl⟩)
      all_goals (go_ret2; exact ⟨by rw [v1, v3]; rfl, rfl⟩)
  · have m3 : tmay r = false := tmay_false.2 fun h => hf (by have := key_lt h; omega)
    have v1 : afterE a b = 1 := by unfold afterE; rw [if_neg (fun h => hf h.2.2)]
    have v3 : afterV a b = 0 := by unfold afterV; rw [if_neg (fun h => hf h.2.2)]
    clear hf h1 h2 nr kr hor
    go_enter Try.func25, Try.ntmps25
    go_wp2_with (go_at_call 30; refine (may_any _ (by assumption) _).mono ?_; rintro e w' ⟨rfl, rfl⟩)
    all_goals (go_ret2; exact ⟨by rw [v1, v3]; rfl, rfl⟩)

set_option maxHeartbeats 400000 in
/-- What is no time is behind nothing, and nothing behind it. -/
theorem after_bad (a b : Nat) (h : ¬ T a ∨ ¬ T b) (wa : a < 18446744073709551616) (wb : b < 18446744073709551616) (w : World) :
    Calls Try.prog 25 #[.float .f64 a, .float .f64 b] w fun e w' => e = .returned (.tuple #[.float .f64 0, .int .i64 1]) ∧ ∃ n, w' = w.drewN n := by
  have fin : ∀ e w', (e = Ending.returned (.tuple #[.float .f64 0, .int .i64 1]) ∧ (w' = w ∨ w' = w.drew)) → (e = .returned (.tuple #[.float .f64 0, .int .i64 1]) ∧ ∃ n, w' = w.drewN n) := by
    rintro e w' ⟨he, rfl | rfl⟩
    · exact ⟨he, 0, rfl⟩
    · exact ⟨he, 1, rfl⟩
  refine Calls.mono (R := fun e w' => e = .returned (.tuple #[.float .f64 0, .int .i64 1]) ∧ (w' = w ∨ w' = w.drew)) ?_ fin
  clear fin
  obtain ⟨r, w1, hr, hw⟩ := run_add_ask (P := Try.prog) w 23 a b
  by_cases h1 : T a
  · have h2 : ¬ T b := h.resolve_left (fun k => k h1)
    have m1 : tmay a = true := tmay_iff.2 h1
    have m2 : tmay b = false := tmay_false.2 h2
    clear h h1 h2
    rcases hw with rfl | rfl
    all_goals
      go_enter Try.func25, Try.ntmps25
      go_wp2_with (go_at_call 30; refine (may_any _ (by assumption) _).mono ?_; rintro e w' ⟨rfl, rfl⟩)
      all_goals (go_ret2; exact ⟨rfl, by simp⟩)
  · have m1 : tmay a = false := tmay_false.2 h1
    clear h h1
    rcases hw with rfl | rfl
    all_goals
      go_enter Try.func25, Try.ntmps25
      go_wp2_with (go_at_call 30; refine (may_any _ (by assumption) _).mono ?_; rintro e w' ⟨rfl, rfl⟩)
      all_goals (go_ret2; exact ⟨rfl, by simp⟩)

set_option maxHeartbeats 400000 in
theorem floor_any (q : Nat) (h : NN q) (w : World) :
    Calls Try.prog 55 #[.float .f64 q] w fun e w' => e = .returned (.float .f64 (D.write ((D.read q).integral .down))) ∧ w = w' := by
  have hx := fun w => ext_floor h w
  generalize D.write ((D.read q).integral .down) = r at hx ⊢
  clear h
  go_enter Try.func55, Try.ntmps55
  go_wp2
  go_ret
  exact ⟨rfl, rfl⟩

set_option maxHeartbeats 400000 in
theorem bucket_T (t g : Nat) (ht : T t) (hg : NN g) (h0 : 0 < key g) (w : World) :
    Calls Try.prog 24 #[.float .f64 t, .float .f64 g] w fun e w' => e = .returned (.float .f64 (bk t g)) ∧ w = w' := by
  have wt := key_wf ht.nn
  have m1 : tmay t = true := tmay_iff.2 ht
  have m2 : (FloatKind.f64.format.order g 0 == some .gt) = true := by rw [f_gtr hg nn_zero, key_zero]; simp [h0]
  have m3 := f_gtr hg max_nn
  rw [max_key] at m3
  by_cases hi : g = 9218868437227405312
  · have m4 : (FloatKind.f64.format.order g 9218868437227405311 == some .gt) = true := by rw [m3, hi]; decide
    have v : bk t g = 0 := by unfold bk; rw [if_pos hi]
    clear m3 hi ht hg h0
    go_enter Try.func24, Try.ntmps24
    go_wp2_with (first | (go_at_call 30; refine (may_any _ (by assumption) _).mono ?_; rintro e w' ⟨rfl, rfl⟩) | (go_at_call 37; refine (isInf1_any _ _).mono ?_; rintro e w' ⟨rfl, rfl⟩))
    all_goals (go_ret; exact ⟨by rw [v]; rfl, rfl⟩)
  · have gl : key g ≤ 9218868437227405311 := by
      rcases hg with h | h
      · rw [key_of_le h]; omega
      · subst h; decide
    have m4 : (FloatKind.f64.format.order g 9218868437227405311 == some .gt) = false := by rw [m3]; simp; omega
    obtain ⟨q, hq, nq⟩ := div_nn ht hg h0 hi
    have m5 := fun w => run_quo (P := Try.prog) 23 hq w
    have v : bk t g = D.write ((D.read q).integral .down) := by unfold bk; rw [if_neg hi, hq]; rfl
    clear m3 gl hi ht hg h0 hq
    go_enter Try.func24, Try.ntmps24
    go_wp2_with (first | (go_at_call 30; refine (may_any _ (by assumption) _).mono ?_; rintro e w' ⟨rfl, rfl⟩) | (go_at_call 37; refine (isInf1_any _ _).mono ?_; rintro e w' ⟨rfl, rfl⟩) | (go_at_call 55; refine (floor_any _ (by assumption) _).mono ?_; rintro e w' ⟨rfl, rfl⟩))
    all_goals (go_ret; exact ⟨by rw [v]; rfl, rfl⟩)

set_option maxHeartbeats 400000 in
theorem bucket_bad (t g : Nat) (wt : t < 18446744073709551616) (h : tmay t = false ∨ (FloatKind.f64.format.order g 0 == some .gt) = false) (w : World) :
    Calls Try.prog 24 #[.float .f64 t, .float .f64 g] w fun e w' => e = .returned (.float .f64 9221120237041090561) ∧ w = w' := by
  cases m1 : tmay t
  · clear h
    go_enter Try.func24, Try.ntmps24
    go_wp2_with (first | (go_at_call 30; refine (may_any _ (by assumption) _).mono ?_; rintro e w' ⟨rfl, rfl⟩) | (go_at_call 32; refine (nan_any _).mono ?_; rintro e w' ⟨rfl, rfl⟩))
    all_goals (go_ret; exact ⟨rfl, rfl⟩)
  · have m2 := h.resolve_left (by rw [m1]; decide)
    clear h
    go_enter Try.func24, Try.ntmps24
    go_wp2_with (first | (go_at_call 30; refine (may_any _ (by assumption) _).mono ?_; rintro e w' ⟨rfl, rfl⟩) | (go_at_call 32; refine (nan_any _).mono ?_; rintro e w' ⟨rfl, rfl⟩))
    all_goals (go_ret; exact ⟨rfl, rfl⟩)

def fsame (a b : Nat) : Bool := FloatKind.f64.format.order a b == some .eq || (FloatKind.f64.format.order a a != some .eq && FloatKind.f64.format.order b b != some .eq)
set_option maxHeartbeats 400000 in
theorem same_any (a b : Nat) (w : World) :
    Calls Try.prog 31 #[.float .f64 a, .float .f64 b] w fun e w' => e = .returned (.bool (fsame a b)) ∧ w = w' := by
  cases m1 : (FloatKind.f64.format.order a b == some .eq) <;> cases m2 : (FloatKind.f64.format.order a a != some .eq) <;> cases m3 : (FloatKind.f64.format.order b b != some .eq)
  all_goals
    go_enter Try.func31, Try.ntmps31
    go_wp2_with (go_at_call 35; refine (isNaN_any _ _).mono ?_; rintro e w' ⟨rfl, rfl⟩)
    all_goals (go_ret; exact ⟨by unfold fsame; rw [m1, m2, m3]; rfl, rfl⟩)
theorem fsame_nn {a b : Nat} (ha : NN a) (hb : NN b) : fsame a b = decide (key a = key b) := by
  unfold fsame
  rw [f_eql ha hb, f_neq ha ha]; simp
end Go.Proofs.Ytddnhjpclglclaa
