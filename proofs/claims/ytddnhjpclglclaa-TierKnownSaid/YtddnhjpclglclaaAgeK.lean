/- The walk of the statement AgeKnown: times by hand. -/
import Derived.Test.YtddnhjpclglclaaAgeL
namespace Go.Proofs.Ytddnhjpclglclaa
open Go.RowKit Fl

set_option maxHeartbeats 400000 in
theorem inf_any (w : World) :
    Calls Try.prog 33 #[.int .i64 1] w fun e w' => e = .returned (.float .f64 9218868437227405312) ∧ w = w' := by
  have h : ∀ w, (callFunc 58 #[.int .u64 9218868437227405312]).run Try.prog w = .ok (.value (.float .f64 9218868437227405312)) w := fun w => ext_frombits 9218868437227405312 w
  go_enter Try.func33, Try.ntmps33
  go_wp2
  go_ret
  exact ⟨rfl, rfl⟩
set_option maxHeartbeats 400000 in
theorem minus_any (w : World) :
    Calls Try.prog 34 #[.float .f64 0, .float .f64 13830554455654793216] w fun e w' => e = .returned (.float .f64 9223372036854775808) ∧ w = w' := by
  have h1 : ∀ w, (callFunc 59 #[.float .f64 0]).run Try.prog w = .ok (.value (.int .u64 0)) w := fun w => ext_bits 0 w
  have h2 : ∀ w, (callFunc 59 #[.float .f64 13830554455654793216]).run Try.prog w = .ok (.value (.int .u64 13830554455654793216)) w := fun w => ext_bits 13830554455654793216 w
  have h : ∀ w, (callFunc 58 #[.int .u64 9223372036854775808]).run Try.prog w = .ok (.value (.float .f64 9223372036854775808)) w := fun w => ext_frombits 9223372036854775808 w
  have b1 : bits BinOp.andNot IntKind.u64 0 9223372036854775808 = 0 := by decide +kernel
  have b2 : bits BinOp.and IntKind.u64 13830554455654793216 9223372036854775808 = 9223372036854775808 := by decide +kernel
  have b3 : bits BinOp.or IntKind.u64 0 9223372036854775808 = 9223372036854775808 := by decide +kernel
  go_enter Try.func34, Try.ntmps34
  go_wp2
  go_ret
  exact ⟨rfl, rfl⟩
set_option maxHeartbeats 400000 in
theorem signbit0 (w : World) :
    Calls Try.prog 36 #[.float .f64 0] w fun e w' => e = .returned (.bool false) ∧ w = w' := by
  have h1 : ∀ w, (callFunc 59 #[.float .f64 0]).run Try.prog w = .ok (.value (.int .u64 0)) w := fun w => ext_bits 0 w
  go_enter Try.func36, Try.ntmps36
  go_wp2
  go_ret
  exact ⟨rfl, rfl⟩

theorem order_refl_bad (a : Nat) (h : (FloatKind.f64.format.order a a == some .eq) = true) (b : Bool) (hb : b = false) : (FloatKind.f64.format.order a a != some .eq) = b := by
  rw [bne, h, hb]; rfl
def bad (k : Nat) : Nat := [9221120237041090561, 9218868437227405312, 18442240474082181120, 13830554455654793216, 9223372036854775809].getD k 0
set_option maxRecDepth 100000 in
set_option maxHeartbeats 2000000 in
theorem ageKnown_walk (w : World) :
    Calls Try.prog 10 #[] w fun e w' => e = .returned (.bool true) ∧ Below w.heap.size w w' := by
  have hng : ∀ w, (Op.unary .neg (.float .f64 9218868437227405312)).run Try.prog w = .ok (.float .f64 18442240474082181120) w := fun _ => by kernel_rfl
  have one0 : (FloatKind.f64.format.order 0 0 == some .eq) = true := by decide +kernel
  have one1 : (FloatKind.f64.format.order 0 0 != some .eq) = false := by decide +kernel
  have n1 : (FloatKind.f64.format.order 9221120237041090561 9221120237041090561 != some .eq) = true := by decide +kernel
  have g1 : ageOf 9221120237041090561 4607182418800017408 = 0 := by decide +kernel
  have g2 : ageOf 9218868437227405312 4607182418800017408 = 0 := by decide +kernel
  have g3 : ageOf 18442240474082181120 4607182418800017408 = 0 := by decide +kernel
  have g4 : ageOf 13830554455654793216 4607182418800017408 = 0 := by decide +kernel
  have g5 : ageOf 9223372036854775809 4607182418800017408 = 0 := by decide +kernel
  have g6 : ageOf 4621256167635550208 9221120237041090561 = 0 := by decide +kernel
  have g7 : ageOf 4621256167635550208 9218868437227405312 = 0 := by decide +kernel
  have g8 : ageOf 4621256167635550208 18442240474082181120 = 0 := by decide +kernel
  have g9 : ageOf 4621256167635550208 13830554455654793216 = 0 := by decide +kernel
  have g10 : ageOf 4621256167635550208 9223372036854775809 = 0 := by decide +kernel
  have m1 : tmay 9221120237041090561 = false := by decide +kernel
  have m2 : tmay 9218868437227405312 = false := by decide +kernel
  have m3 : tmay 18442240474082181120 = false := by decide +kernel
  have m4 : tmay 13830554455654793216 = false := by decide +kernel
  have m5 : tmay 9223372036854775809 = false := by decide +kernel
  go_enter Try.func10, Try.ntmps10
  go_wp2_with (first | (first | (go_at_call 23; refine (awake3 _).mono ?_; rintro e w' ⟨rfl, rfl⟩) | (go_at_call 32; refine (nan_any _).mono ?_; rintro e w' ⟨rfl, rfl⟩)) | (go_at_call 33; refine (inf_any _).mono ?_; rintro e w' ⟨rfl, rfl⟩) | (go_at_call 34; refine (minus_any _).mono ?_; rintro e w' ⟨rfl, rfl⟩))
  go_loopw [6] (fun i wr => ∃ k : Nat, k ≤ 5 ∧ i = .int .i64 k ∧ ∃ n, wr = (w.alloc (.cells #[.float .f64 9221120237041090561, .float .f64 9218868437227405312, .float .f64 18442240474082181120, .float .f64 13830554455654793216, .float .f64 9223372036854775809] 23)).drewN n) (fun i _ => 5 - (intOf i).toNat)
  case atStart => exact ⟨0, by omega, rfl, 0, rfl⟩
  case round =>
    obtain ⟨k, hk, rfl, n, rfl⟩ := hrel
    have : k = 0 ∨ k = 1 ∨ k = 2 ∨ k = 3 ∨ k = 4 ∨ k = 5 := by omega
    rcases this with rfl | rfl | rfl | rfl | rfl | rfl
    · go_wp2_with (first | (go_at_call 25; refine (after_bad _ _ (by first | (left; decide) | (right; decide)) (by decide) (by decide) _).mono ?_; rintro e w' ⟨rfl, n, rfl⟩) | (first | (go_at_call 30; refine (may_any _ (by decide) _).mono ?_; rintro e w' ⟨rfl, rfl⟩) | (go_at_call 26; refine (of_any _ _ (by decide) (by decide) _).mono ?_; rintro e w' ⟨rfl, rfl⟩) | (go_at_call 35; refine (isNaN_any _ _).mono ?_; rintro e w' ⟨rfl, rfl⟩)) | (go_at_call 24; refine (bucket_bad _ _ (by decide) (by left; assumption) _).mono ?_; rintro e w' ⟨rfl, rfl⟩))
      exact ⟨⟨1, by omega, rfl, _, rfl⟩, by decide⟩
    · go_wp2_with (first | (go_at_call 25; refine (after_bad _ _ (by first | (left; decide) | (right; decide)) (by decide) (by decide) _).mono ?_; rintro e w' ⟨rfl, n, rfl⟩) | (first | (go_at_call 30; refine (may_any _ (by decide) _).mono ?_; rintro e w' ⟨rfl, rfl⟩) | (go_at_call 26; refine (of_any _ _ (by decide) (by decide) _).mono ?_; rintro e w' ⟨rfl, rfl⟩) | (go_at_call 35; refine (isNaN_any _ _).mono ?_; rintro e w' ⟨rfl, rfl⟩)) | (go_at_call 24; refine (bucket_bad _ _ (by decide) (by left; assumption) _).mono ?_; rintro e w' ⟨rfl, rfl⟩))
      exact ⟨⟨2, by omega, rfl, _, rfl⟩, by decide⟩
    · go_wp2_with (first | (go_at_call 25; refine (after_bad _ _ (by first | (left; decide) | (right; decide)) (by decide) (by decide) _).mono ?_; rintro e w' ⟨rfl, n, rfl⟩) | (first | (go_at_call 30; refine (may_any _ (by decide) _).mono ?_; rintro e w' ⟨rfl, rfl⟩) | (go_at_call 26; refine (of_any _ _ (by decide) (by decide) _).mono ?_; rintro e w' ⟨rfl, rfl⟩) | (go_at_call 35; refine (isNaN_any _ _).mono ?_; rintro e w' ⟨rfl, rfl⟩)) | (go_at_call 24; refine (bucket_bad _ _ (by decide) (by left; assumption) _).mono ?_; rintro e w' ⟨rfl, rfl⟩))
      exact ⟨⟨3, by omega, rfl, _, rfl⟩, by decide⟩
    · go_wp2_with (first | (go_at_call 25; refine (after_bad _ _ (by first | (left; decide) | (right; decide)) (by decide) (by decide) _).mono ?_; rintro e w' ⟨rfl, n, rfl⟩) | (first | (go_at_call 30; refine (may_any _ (by decide) _).mono ?_; rintro e w' ⟨rfl, rfl⟩) | (go_at_call 26; refine (of_any _ _ (by decide) (by decide) _).mono ?_; rintro e w' ⟨rfl, rfl⟩) | (go_at_call 35; refine (isNaN_any _ _).mono ?_; rintro e w' ⟨rfl, rfl⟩)) | (go_at_call 24; refine (bucket_bad _ _ (by decide) (by left; assumption) _).mono ?_; rintro e w' ⟨rfl, rfl⟩))
      exact ⟨⟨4, by omega, rfl, _, rfl⟩, by decide⟩
    · go_wp2_with (first | (go_at_call 25; refine (after_bad _ _ (by first | (left; decide) | (right; decide)) (by decide) (by decide) _).mono ?_; rintro e w' ⟨rfl, n, rfl⟩) | (first | (go_at_call 30; refine (may_any _ (by decide) _).mono ?_; rintro e w' ⟨rfl, rfl⟩) | (go_at_call 26; refine (of_any _ _ (by decide) (by decide) _).mono ?_; rintro e w' ⟨rfl, rfl⟩) | (go_at_call 35; refine (isNaN_any _ _).mono ?_; rintro e w' ⟨rfl, rfl⟩)) | (go_at_call 24; refine (bucket_bad _ _ (by decide) (by left; assumption) _).mono ?_; rintro e w' ⟨rfl, rfl⟩))
      exact ⟨⟨5, by omega, rfl, _, rfl⟩, by decide⟩
    · have f1 : afterV 9223372036854775808 9223372036854775808 = 0 := by decide +kernel
      have f2 : afterE 9223372036854775808 9223372036854775808 = 0 := by decide +kernel
      have f3 : afterE 9218868437227405311 9218868437227405311 = 1 := by decide +kernel
      have f4 : afterV 9218868437227405311 4607182418800017408 = 9218868437227405311 := by decide +kernel
      have f5 : afterE 9218868437227405311 4607182418800017408 = 0 := by decide +kernel
      have f6 : tmay 9223372036854775808 = true := by decide +kernel
      have f7 : tmay 9218868437227405311 = true := by decide +kernel
      have f8 : (FloatKind.f64.format.order 9218868437227405311 9218868437227405311 == some .eq) = true := by decide +kernel
      have f9 : ageOf 4607182418800017408 4617315517961601024 = 0 := by decide +kernel
      have f10 : bk 4619567317775286272 9218868437227405312 = 0 := by decide +kernel
      have f11 : bk 9094988921128908188 1 = 9218868437227405312 := by decide +kernel
      have f12 : (FloatKind.f64.format.order 9223372036854775808 0 == some .gt) = false := by decide +kernel
      have f13 : (FloatKind.f64.format.order 13830554455654793216 0 == some .gt) = false := by decide +kernel
      have f14 : (FloatKind.f64.format.order 9221120237041090561 0 == some .gt) = false := by decide +kernel
      have f15 : (FloatKind.f64.format.order 9218868437227405312 9218868437227405311 == some .gt) = true := by decide +kernel
      have f16 : fsame 9221120237041090561 9221120237041090561 = true := by decide +kernel
      have f17 : fsame 0 9223372036854775808 = true := by decide +kernel
      have f18 : fsame 9221120237041090561 4607182418800017408 = false := by decide +kernel
      have f19 : fsame 9218868437227405312 18442240474082181120 = false := by decide +kernel
      clear g1 g2 g3 g4 g5 g6 g7 g8 g9 g10 m1 m2 m3 m4 m5
      go_wp2_with (first | (first | (go_at_call 25; refine (after_T _ _ (by decide) (by decide) _).mono ?_; rintro e w' ⟨rfl, rfl⟩) | (go_at_call 30; refine (may_any _ (by decide) _).mono ?_; rintro e w' ⟨rfl, rfl⟩) | (go_at_call 26; refine (of_any _ _ (by decide) (by decide) _).mono ?_; rintro e w' ⟨rfl, rfl⟩) | (go_at_call 35; refine (isNaN_any _ _).mono ?_; rintro e w' ⟨rfl, rfl⟩) | (go_at_call 37; refine (isInf1_any _ _).mono ?_; rintro e w' ⟨rfl, rfl⟩) | (go_at_call 31; refine (same_any _ _ _).mono ?_; rintro e w' ⟨rfl, rfl⟩)) | (go_at_call 24; (with_reducible refine (bucket_T 4619567317775286272 9218868437227405312 (by decide) (by decide) (by decide) _).mono ?_); rintro e w' ⟨rfl, rfl⟩) | (go_at_call 24; (with_reducible refine (bucket_T 9094988921128908188 1 (by decide) (by decide) (by decide) _).mono ?_); rintro e w' ⟨rfl, rfl⟩) | (go_at_call 24; refine (bucket_bad _ _ (by decide) (by right; assumption) _).mono ?_; rintro e w' ⟨rfl, rfl⟩) | (go_at_call 36; refine (signbit0 _).mono ?_; rintro e w' ⟨rfl, rfl⟩))
      go_ret
      exact ⟨rfl, below_drewN ((Below.refl _ _).alloc (Nat.le_refl _) _) _⟩
end Go.Proofs.Ytddnhjpclglclaa
