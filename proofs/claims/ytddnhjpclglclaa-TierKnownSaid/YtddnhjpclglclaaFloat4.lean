/- Doubles, more: small dyadic numbers; differences that are below nought. No program in sight. -/
import Derived.Test.YtddnhjpclglclaaFloat3
namespace Go.Proofs.Ytddnhjpclglclaa.Fl
open Ieee

theorem dy_cond {a d s t u : Nat} (ha : 0 < a) (hd : 0 < d) (ha' : a < 2 ^ 40) (hd' : d < 2 ^ 40) (hs : s ≤ 100) (ht : t ≤ 100) (hu : u ≤ 10) (hst : t ≤ s + 4) :
    K (dy a s) + u ≤ K (dy d t) + qmore (dy a s) (dy d t) := by
  have h40 : (2 : Nat) ^ 40 = 1099511627776 := by decide
  have a1 : a < 9007199254740992 := by omega
  have d1 : d < 9007199254740992 := by omega
  have na := dy_norm (s := s) ha a1 (by omega)
  have nd := dy_norm (s := t) hd d1 (by omega)
  obtain ⟨la, va1, va2⟩ := K_of na
  obtain ⟨ld, vd1, vd2⟩ := K_of nd
  have hq : qmore (dy a s) (dy d t) = 54 := by unfold qmore; rw [la, ld]
  rw [hq]
  rw [(dy_spec a1).2] at va1
  rw [(dy_spec d1).2] at vd2
  have x1 : a * 2 ^ (1074 - s) < 2 ^ (40 + (1074 - s)) := by rw [Nat.pow_add]; exact Nat.mul_lt_mul_of_pos_right ha' (Nat.two_pow_pos _)
  have x2 : 2 ^ (1074 - t) ≤ d * 2 ^ (1074 - t) := by have := Nat.mul_le_mul_right (2 ^ (1074 - t)) hd; omega
  have y1 : 52 + K (dy a s) < 40 + (1074 - s) := (Nat.pow_lt_pow_iff_right (a := 2) (by omega)).1 (by omega)
  have y2 : 1074 - t < 53 + K (dy d t) := (Nat.pow_lt_pow_iff_right (a := 2) (by omega)).1 (by omega)
  omega

theorem div_zero_l {b : Nat} (hb : b < 9218868437227405312) (h0 : 0 < b) : D.div 0 b = some 0 := by
  rw [div_fin (by decide) hb h0, qsig_zero, nearest_eq, Nat.zero_mul, nr_zero]

/-- A quotient of small ones that is there exactly. -/
theorem quo_dy {a d s t c u : Nat} (hd : 0 < d) (ha' : a < 2 ^ 40) (hd' : d < 2 ^ 40) (hs : s ≤ 100) (ht : t ≤ 100) (hu : u ≤ 10) (hst : t ≤ s + 4) (hc : c < 9007199254740992)
    (h : a * 2 ^ (t + u) = c * d * 2 ^ s) : D.div (dy a s) (dy d t) = some (dy c u) := by
  have h40 : (2 : Nat) ^ 40 = 1099511627776 := by decide
  by_cases ha : 0 < a
  · exact div_dy ha hd ha' hd' hs ht hu hst hc h
  · obtain rfl : a = 0 := by omega
    have hc0 : c = 0 := by
      rw [Nat.zero_mul] at h
      have h1 := (Nat.mul_eq_zero.1 h.symm).resolve_right (Nat.ne_of_gt (Nat.two_pow_pos s))
      exact (Nat.mul_eq_zero.1 h1).resolve_right (by omega)
    subst hc0
    rw [dy_zero, dy_zero]
    have nd := dy_norm (s := t) hd (by omega) (by omega)
    exact div_zero_l (dy_spec (by omega)).1 (by omega)

theorem pw_split (a b : Nat) : 2 ^ (a + b) = 2 ^ a * 2 ^ b := Nat.pow_add 2 a b

theorem lo_bound (k G a P : Nat) (hP : 3 ≤ P) (h : 2 * G * k ≤ a) : k * (G * 2 ^ (P - 2)) ≤ a * 2 ^ (P - 3) * 2 ^ 0 := by
  have e : P - 2 = (P - 3) + 1 := by omega
  rw [Nat.pow_zero, Nat.mul_one, e, pw_split, Nat.mul_comm (2 ^ (P - 3)), ← Nat.mul_assoc, ← Nat.mul_assoc]
  apply Nat.mul_le_mul_right
  have : k * G * 2 ^ 1 = 2 * G * k := by rw [Nat.pow_one, Nat.mul_comm k, Nat.mul_comm _ 2, Nat.mul_assoc]
  rw [this]; exact h
theorem hi_bound (k G a P : Nat) (hP : 3 ≤ P) (h : a < 2 * G * (k + 1)) (hG : G ≤ 256) : a * 2 ^ (P - 3) * 2 ^ 9 ≤ ((k + 1) * 512 - 1) * (G * 2 ^ (P - 2)) := by
  have e : P - 2 = (P - 3) + 1 := by omega
  rw [e, pw_split, Nat.mul_comm (2 ^ (P - 3)) (2 ^ 1), ← Nat.mul_assoc, ← Nat.mul_assoc, Nat.mul_right_comm]
  apply Nat.mul_le_mul_right
  have e9 : (2 : Nat) ^ 9 = 512 := by decide
  rw [e9, Nat.pow_one]
  have p1 : ((k + 1) * 512 - 1) * G = (k + 1) * 512 * G - G := by rw [Nat.sub_mul, Nat.one_mul]
  have p2 : (k + 1) * 512 * G = 512 * (G * (k + 1)) := by rw [Nat.mul_comm (k + 1), Nat.mul_assoc, Nat.mul_comm (k + 1)]
  have p4 : 2 * G * (k + 1) = 2 * (G * (k + 1)) := Nat.mul_assoc _ _ _
  rw [p1, p2]
  rw [p4] at h
  generalize G * (k + 1) = z at h ⊢
  omega

theorem cut9 (P : Nat) (h : 9 ≤ P) : 0 < 2 ^ (P - 9) ∧ 2 ^ P = 2 ^ (P - 9) * 512 := by
  refine ⟨Nat.two_pow_pos _, ?_⟩
  have e9 : (512 : Nat) = 2 ^ 9 := by decide
  rw [e9, ← Nat.pow_add]; congr 1; omega

/-- The bucket of a small time by a small grain. -/
theorem bk_dy {a G : Nat} (ha : a ≤ 65535) (h1 : 1 ≤ G) (h2 : G ≤ 256) : bk (dy a 3) (dy G 2) = dy (a / (2 * G)) 0 := by
  have nd := dy_norm (k := G) (s := 2) (by omega) (by omega) (by omega)
  have lG := (dy_spec (k := G) (s := 2) (by omega)).1
  have hk : a / (2 * G) ≤ 65535 := Nat.le_trans (Nat.div_le_self _ _) ha
  unfold bk
  rw [if_neg (by omega)]
  by_cases h0 : a = 0
  · subst h0
    rw [dy_zero, div_zero_l lG (by omega), Nat.zero_div, dy_zero]
    have hz : ∀ P, rnd (V 0 / P * P) = 0 := by intro P; rw [V_zero, Nat.zero_div, Nat.zero_mul]; exact nr_zero 0
    rw [Option.getD_some, floor_fin (by decide)]
    exact hz _
  · rw [div_fin (dy_spec (by omega)).1 lG (by omega), Option.getD_some]
    have hdm := Nat.div_add_mod a (2 * G)
    have hml := Nat.mod_lt a (show 0 < 2 * G by omega)
    have hlo := div_ge (a := dy a 3) (b := dy G 2) (c := a / (2 * G)) (s := 0) (by omega) (by omega) (by omega)
      (by have := dy_cond (a := a) (d := G) (s := 3) (t := 2) (u := 0) (by omega) (by omega) (by omega) (by omega) (by omega) (by omega) (by omega) (by omega); exact this)
      (by
        rw [(dy_spec (by omega)).2, (dy_spec (by omega)).2]
        exact lo_bound (a / (2 * G)) G a 1074 (by omega) (by omega))
    have hhi := div_le (a := dy a 3) (b := dy G 2) (c := (a / (2 * G) + 1) * 512 - 1) (s := 9) (by omega) (by omega) (by omega)
      (by have := dy_cond (a := a) (d := G) (s := 3) (t := 2) (u := 9) (by omega) (by omega) (by omega) (by omega) (by omega) (by omega) (by omega) (by omega); exact this)
      (by
        rw [(dy_spec (by omega)).2, (dy_spec (by omega)).2]
        exact hi_bound (a / (2 * G)) G a 1074 (by omega) (by
          have p4 : 2 * G * (a / (2 * G) + 1) = 2 * G * (a / (2 * G)) + 2 * G := Nat.mul_succ _ _
          omega) h2)
    generalize D.nearest false (qsig (dy a 3) (dy G 2)) ((K (dy a 3) : Int) - (K (dy G 2) : Int) - (qmore (dy a 3) (dy G 2) : Int) - 1) = w at hlo hhi ⊢
    have lw : w < 9218868437227405312 := Nat.lt_of_le_of_lt hhi (dy_spec (by omega)).1
    rw [floor_fin lw]
    have v1 := V_le hlo
    have v2 := V_le hhi
    rw [(dy_spec (by omega)).2] at v1 v2
    have e0 : 1074 - 0 = 1074 := rfl
    rw [e0] at v1
    obtain ⟨hp, hP⟩ := cut9 1074 (by omega)
    have hp2 := Nat.two_pow_pos 1074
    have hq : V w / 2 ^ 1074 = a / (2 * G) := by
      generalize a / (2 * G) = k at *
      apply Nat.div_eq_of_lt_le
      · exact v1
      · refine Nat.lt_of_le_of_lt v2 ?_
        rw [hP]
        exact (fun Z (hZ : 0 < Z) => by rw [Nat.mul_comm Z 512, ← Nat.mul_assoc]; exact Nat.mul_lt_mul_of_pos_right (by omega) hZ : ∀ Z : Nat, 0 < Z → ((k + 1) * 512 - 1) * Z < (k + 1) * (Z * 512)) _ hp
    rw [hq]
    unfold dy
    rw [e0]

theorem pw2 (s t P : Nat) (h : s + t ≤ P) : 2 ^ (P - s) * 2 ^ (P - t) = 2 ^ (P - (s + t)) * 2 ^ P := by
  rw [← Nat.pow_add, ← Nat.pow_add]; congr 1; omega
theorem mul_dy {a b s t : Nat} (ha : a < 9007199254740992) (hb : b < 9007199254740992) (hab : a * b < 9007199254740992) (hst : s + t ≤ 1074) : D.mul (dy a s) (dy b t) = some (dy (a * b) (s + t)) := by
  apply mul_exact (dy_spec ha).1 (dy_spec hb).1 (dy_spec hab).1
  rw [(dy_spec ha).2, (dy_spec hb).2, (dy_spec hab).2]
  have e := pw2 s t 1074 hst
  rw [Nat.mul_assoc, Nat.mul_left_comm (2 ^ (1074 - s)), ← Nat.mul_assoc, e, ← Nat.mul_assoc]

theorem nearest_true (m : Nat) (p : Int) : D.nearest true m p = 9223372036854775808 + D.nearest false m p := by
  have h : ∀ n d, Toward.even.cut true n d = Toward.even.cut false n d := fun _ _ => rfl
  unfold Format.nearest Format.word
  by_cases hm : m = 0
  · rw [if_pos hm, if_pos hm, if_pos rfl, if_neg (by decide), D_sg]
  · rw [if_neg hm, if_neg hm]
    simp only [h, if_true, Bool.false_eq_true, if_false, D_sg]

/-- A difference that is not above nought is no less than nothing that is. -/
theorem sub_le {a b : Nat} (ha : T a) (hb : T b) (h : tv a ≤ tv b) : ∃ r, D.sub a b = some r ∧ r < 18446744073709551616 ∧ ∀ g, NN g → 0 < key g → (FloatKind.f64.format.order r g == some .gt || FloatKind.f64.format.order r g == some .eq) = false := by
  obtain ⟨s, m, i, ra, va, sa, za⟩ := read_T ha
  obtain ⟨t, n, j, rb, vb, sb, zb⟩ := read_T hb
  obtain ⟨e1, e2, e3⟩ := base_toNat i j
  unfold Format.sub
  rw [ra, rb]
  simp only [Datum.opposite, Datum.sum, e3, e1, e2, signed_pos za, signed_neg zb, Option.map_some]
  have v1 : tv a = m * 2 ^ (i - min i j) * 2 ^ min i j := by rw [va, lift _ _ _ (by omega)]
  have v2 : tv b = n * 2 ^ (j - min i j) * 2 ^ min i j := by rw [vb, lift _ _ _ (by omega)]
  rw [v1, v2] at h
  have hle := Nat.le_of_mul_le_mul_right h (Nat.two_pow_pos _)
  generalize m * 2 ^ (i - min i j) = A at *
  generalize n * 2 ^ (j - min i j) = C at *
  refine ⟨_, rfl, ?_, ?_⟩
  · have := D.write_lt (.number (if ((A : Nat) : Int) + -((C : Nat) : Int) = 0 then s && !t else decide (((A : Nat) : Int) + -((C : Nat) : Int) < 0)) (((A : Nat) : Int) + -((C : Nat) : Int)).natAbs (-1074 + ((min i j : Nat) : Int)))
    exact this
  · intro g hg h0
    by_cases he : A = C
    · subst he
      have h1 : ((A : Nat) : Int) + -((A : Nat) : Int) = 0 := by omega
      rw [h1, if_pos rfl, Int.natAbs_zero, write_zero]
      have : ∀ q : Bool, NN (if q = true then 9223372036854775808 else 0) ∧ key (if q = true then 9223372036854775808 else 0) = 0 := by
        intro q; cases q <;> exact ⟨by decide, by decide⟩
      obtain ⟨q1, q2⟩ := this (s && !t)
      rw [f_geq q1 hg, q2]; simp; omega
    · have h1 : ¬ ((A : Nat) : Int) + -((C : Nat) : Int) = 0 := by omega
      have h2 : decide (((A : Nat) : Int) + -((C : Nat) : Int) < 0) = true := by simp; omega
      have h3 : (((A : Nat) : Int) + -((C : Nat) : Int)).natAbs = C - A := by omega
      rw [if_neg h1, h2, h3]
      show (FloatKind.f64.format.order (D.nearest true (C - A) (-1074 + ((min i j : Nat) : Int))) g == some .gt || FloatKind.f64.format.order (D.nearest true (C - A) (-1074 + ((min i j : Nat) : Int))) g == some .eq) = false
      rw [nearest_true, nearest_rnd]
      have hpos : 1 ≤ rnd ((C - A) * 2 ^ min i j) := by
        apply rnd_ge (by decide)
        have hV : V 1 = 1 := by decide
        rw [hV]
        exact Nat.mul_pos (by omega) (Nat.two_pow_pos _)
      have hle2 := rnd_le ((C - A) * 2 ^ min i j)
      generalize rnd ((C - A) * 2 ^ min i j) = R at *
      exact f_geq_bad (by omega) (by unfold NN; omega) hg
theorem run_sub_le {P : Program} (t : TypeId) {a b : Nat} (ha : T a) (hb : T b) (h : key a ≤ key b) : ∃ r, (∀ w : World, (binOp .sub t (.float .f64 a) (.float .f64 b)).run P w = .ok (.float .f64 r) w) ∧ ∀ g, NN g → 0 < key g → (FloatKind.f64.format.order r g == some .gt || FloatKind.f64.format.order r g == some .eq) = false := by
  obtain ⟨r, h1, h2, h3⟩ := sub_le ha hb (V_le h)
  exact ⟨r, fun w => run_float_arith w .sub t .f64 a b r h1, h3⟩
theorem ageOf_dy {a b s : Nat} (ha : a < 9007199254740992) (hb : b < 9007199254740992) : ageOf (dy a s) (dy b s) = dy (a - b) s := by
  unfold ageOf
  rw [key_dy ha, key_dy hb]
  by_cases h : b < a
  · rw [if_pos ⟨dy_T ha, dy_T hb, (dy_lt hb ha).2 h⟩, rnd_sub_dy ha (by omega)]
  · rw [if_neg (fun k => h ((dy_lt hb ha).1 k.2.2))]
    have : a - b = 0 := by omega
    rw [this, dy_zero]
theorem after_dy {a b s : Nat} (h : a + b < 9007199254740992) : afterV (dy a s) (dy b s) = dy (a + b) s ∧ afterE (dy a s) (dy b s) = 0 := by
  unfold afterV afterE
  rw [rnd_add_dy h, if_pos ⟨dy_T (by omega), dy_T (by omega), (dy_spec h).1⟩, if_pos ⟨dy_T (by omega), dy_T (by omega), (dy_spec h).1⟩]
  exact ⟨rfl, rfl⟩
end Go.Proofs.Ytddnhjpclglclaa.Fl
