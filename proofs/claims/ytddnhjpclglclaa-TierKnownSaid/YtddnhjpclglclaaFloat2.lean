/- Plain facts on doubles, more: sums, differences, products, quotients, floors. No program in sight. -/
import Derived.Test.YtddnhjpclglclaaFloat
namespace Go.Proofs.Ytddnhjpclglclaa.Fl
open Ieee

theorem log2_eq {n k : Nat} (h1 : 2 ^ k ≤ n) (h2 : n < 2 ^ (k + 1)) : n.log2 = k := by
  have hp : 0 < 2 ^ k := Nat.two_pow_pos k
  have hn : n ≠ 0 := by omega
  apply Nat.le_antisymm
  · have := (Nat.log2_lt hn).2 h2; omega
  · exact (Nat.le_log2 hn).2 h1

/-! ### What is small is there exactly -/
theorem V_norm (k m : Nat) (hm : m < 4503599627370496) : V ((k + 1) * 4503599627370496 + m) = (4503599627370496 + m) * 2 ^ k := by
  unfold V M K
  rw [if_neg (by omega), if_neg (by omega)]
  have e1 : ((k + 1) * 4503599627370496 + m) % 4503599627370496 = m := by omega
  have e2 : ((k + 1) * 4503599627370496 + m) / 4503599627370496 - 1 = k := by omega
  rw [e1, e2]
theorem V_sub (m : Nat) (hm : m < 4503599627370496) : V m = m := by simp [V, M, K, hm]

theorem exists_V (k e : Nat) (hk : k < 9007199254740992) (he : e ≤ 1900) : ∃ r, r < 9218868437227405312 ∧ V r = k * 2 ^ e := by
  by_cases h0 : k = 0
  · exact ⟨0, by decide, by rw [h0, V_zero, Nat.zero_mul]⟩
  · have hl : k.log2 < 53 := by rw [Nat.log2_lt h0]; have : (2 : Nat) ^ 53 = 9007199254740992 := by decide
                                omega
    have hlo := Nat.log2_self_le h0
    have hhi : k < 2 ^ (k.log2 + 1) := Nat.lt_log2_self
    by_cases hs : e + k.log2 < 52
    · refine ⟨k * 2 ^ e, ?_, ?_⟩
      · have : k * 2 ^ e < 4503599627370496 := by
          have e1 : (4503599627370496 : Nat) = 2 ^ 52 := by decide
          rw [e1]
          calc k * 2 ^ e < 2 ^ (k.log2 + 1) * 2 ^ e := Nat.mul_lt_mul_of_pos_right hhi (Nat.two_pow_pos e)
            _ = 2 ^ (k.log2 + 1 + e) := by rw [← Nat.pow_add]
            _ ≤ 2 ^ 52 := Nat.pow_le_pow_right (by omega) (by omega)
        omega
      · apply V_sub
        have e1 : (4503599627370496 : Nat) = 2 ^ 52 := by decide
        rw [e1]
        calc k * 2 ^ e < 2 ^ (k.log2 + 1) * 2 ^ e := Nat.mul_lt_mul_of_pos_right hhi (Nat.two_pow_pos e)
          _ = 2 ^ (k.log2 + 1 + e) := by rw [← Nat.pow_add]
          _ ≤ 2 ^ 52 := Nat.pow_le_pow_right (by omega) (by omega)
    · -- the significand with 53 digits
      have hM1 : 4503599627370496 ≤ k * 2 ^ (52 - k.log2) := by
        have e1 : (4503599627370496 : Nat) = 2 ^ k.log2 * 2 ^ (52 - k.log2) := by
          rw [← Nat.pow_add]; have : k.log2 + (52 - k.log2) = 52 := by omega
          rw [this]
        rw [e1]; exact Nat.mul_le_mul_right _ hlo
      have hM2 : k * 2 ^ (52 - k.log2) < 9007199254740992 := by
        have e1 : (9007199254740992 : Nat) = 2 ^ (k.log2 + 1) * 2 ^ (52 - k.log2) := by
          rw [← Nat.pow_add]; have : k.log2 + 1 + (52 - k.log2) = 53 := by omega
          rw [this]
        rw [e1]; exact Nat.mul_lt_mul_of_pos_right hhi (Nat.two_pow_pos _)
      generalize hMM : k * 2 ^ (52 - k.log2) = MM at hM1 hM2
      refine ⟨(e + k.log2 - 52 + 1) * 4503599627370496 + (MM - 4503599627370496), ?_, ?_⟩
      · have q1 : (e + k.log2 - 52 + 1) * 4503599627370496 ≤ 1901 * 4503599627370496 := Nat.mul_le_mul_right _ (by omega)
        have q2 : 1901 * 4503599627370496 + 4503599627370496 < 9218868437227405312 := by decide
        have q3 : MM - 4503599627370496 < 4503599627370496 := by omega
        exact Nat.lt_trans (Nat.add_lt_add_of_le_of_lt q1 q3) q2
      · rw [V_norm _ _ (by omega)]
        have : 4503599627370496 + (MM - 4503599627370496) = MM := by omega
        have e3 : 52 - k.log2 + (e + k.log2 - 52) = e := by omega
        rw [this, ← hMM, Nat.mul_assoc, ← Nat.pow_add, e3]

/-- k / 2^s as a double. -/
def dy (k s : Nat) : Nat := rnd (k * 2 ^ (1074 - s))
theorem dy_spec {k s : Nat} (hk : k < 9007199254740992) : dy k s < 9218868437227405312 ∧ V (dy k s) = k * 2 ^ (1074 - s) := by
  obtain ⟨r, hr, hV⟩ := exists_V k (1074 - s) hk (by omega)
  unfold dy
  rw [← hV, rnd_V hr]
  exact ⟨hr, rfl⟩
theorem T_lt {r : Nat} (h : r < 9218868437227405312) : T r := .inl h
theorem key_of_lt {r : Nat} (h : r < 9218868437227405312) : key r = r := by unfold key; rw [if_neg (by omega)]
theorem key_of_le {r : Nat} (h : r ≤ 9218868437227405312) : key r = r := by unfold key; rw [if_neg (by omega)]
theorem tv_of_lt {r : Nat} (h : r < 9218868437227405312) : tv r = V r := by unfold tv; rw [key_of_lt h]
theorem dy_T {k s : Nat} (hk : k < 9007199254740992) : T (dy k s) := T_lt (dy_spec hk).1
theorem dy_tv {k s : Nat} (hk : k < 9007199254740992) : tv (dy k s) = k * 2 ^ (1074 - s) := by rw [tv_of_lt (dy_spec hk).1, (dy_spec hk).2]
theorem dy_lt {k l s : Nat} (hk : k < 9007199254740992) (hl : l < 9007199254740992) : dy k s < dy l s ↔ k < l := by
  rw [← V_lt_iff, (dy_spec hk).2, (dy_spec hl).2]
  exact Nat.mul_lt_mul_right (Nat.two_pow_pos _)
theorem dy_le {k l s : Nat} (hk : k < 9007199254740992) (hl : l < 9007199254740992) : dy k s ≤ dy l s ↔ k ≤ l := by
  rw [← V_le_iff, (dy_spec hk).2, (dy_spec hl).2]
  exact Nat.mul_le_mul_right_iff (Nat.two_pow_pos _)
theorem dy_inj {k l s : Nat} (hk : k < 9007199254740992) (hl : l < 9007199254740992) : dy k s = dy l s ↔ k = l := by
  constructor
  · intro h
    have a := (dy_le hk hl).1 (Nat.le_of_eq h); have b := (dy_le hl hk).1 (Nat.le_of_eq h.symm); omega
  · intro h; rw [h]
theorem dy_shift {k s j : Nat} (h : s + j ≤ 1074) : dy (k * 2 ^ j) (s + j) = dy k s := by
  unfold dy
  congr 1
  rw [Nat.mul_assoc, ← Nat.pow_add]
  congr 2; omega

/-! ### Sums and differences -/
theorem read_T {a : Nat} (h : T a) : ∃ s m k, D.read a = .number s m (-1074 + (k : Nat)) ∧ tv a = m * 2 ^ k ∧ (s = true ↔ a = 9223372036854775808) ∧ (s = true → m = 0) := by
  by_cases e : a = 9223372036854775808
  · subst e
    exact ⟨true, 0, 0, rfl, by simp [tv, key, V_zero], by simp, by simp⟩
  · have hl : a < 9218868437227405312 := h.resolve_right e
    exact ⟨false, M a, K a, read_fin hl, by rw [tv_of_lt hl]; rfl, by simp [e], by simp⟩

theorem signed_pos {s : Bool} {m e : Nat} (h : s = true → m = 0) : signed s m e = ((m * 2 ^ e : Nat) : Int) := by
  unfold signed
  rw [Nat.shiftLeft_eq]
  split
  · rename_i hs; rw [h hs]; simp
  · rfl
theorem signed_neg {s : Bool} {m e : Nat} (h : s = true → m = 0) : signed (!s) m e = -((m * 2 ^ e : Nat) : Int) := by
  unfold signed
  rw [Nat.shiftLeft_eq]
  cases s
  · simp
  · simp [h rfl]

theorem base_toNat (i j : Nat) : (-1074 + (i : Int) - (-1074 + ((min i j : Nat) : Int))).toNat = i - min i j ∧ (-1074 + (j : Int) - (-1074 + ((min i j : Nat) : Int))).toNat = j - min i j ∧ min (-1074 + (i : Int)) (-1074 + (j : Int)) = -1074 + ((min i j : Nat) : Int) := by
  refine ⟨by omega, by omega, by omega⟩
theorem lift (m i j : Nat) (h : j ≤ i) : m * 2 ^ (i - j) * 2 ^ j = m * 2 ^ i := by
  rw [Nat.mul_assoc, ← Nat.pow_add]; congr 2; omega

theorem write_zero (q : Bool) (p : Int) : D.write (.number q 0 p) = if q = true then 9223372036854775808 else 0 := by
  show D.nearest q 0 p = _
  unfold Format.nearest Format.word
  rw [if_pos rfl, D_sg]
theorem add_T {a b : Nat} (ha : T a) (hb : T b) : D.add a b = some (if a = 9223372036854775808 ∧ b = 9223372036854775808 then 9223372036854775808 else rnd (tv a + tv b)) := by
  obtain ⟨s, m, i, ra, va, sa, za⟩ := read_T ha
  obtain ⟨t, n, j, rb, vb, sb, zb⟩ := read_T hb
  obtain ⟨e1, e2, e3⟩ := base_toNat i j
  unfold Format.add
  rw [ra, rb]
  simp only [Datum.sum, e3, e1, e2, signed_pos za, signed_pos zb, Option.map_some]
  congr 1
  have hv : tv a + tv b = (m * 2 ^ (i - min i j) + n * 2 ^ (j - min i j)) * 2 ^ min i j := by
    rw [va, vb, Nat.add_mul, lift _ _ _ (by omega), lift _ _ _ (by omega)]
  rw [hv, ← Int.natCast_add]
  generalize m * 2 ^ (i - min i j) + n * 2 ^ (j - min i j) = S at hv ⊢
  by_cases hS : S = 0
  · subst hS
    simp only [Int.natCast_eq_zero, if_true, Int.natAbs_natCast, Nat.zero_mul]
    have hr : rnd 0 = 0 := nr_zero 0
    rw [hr, write_zero]
    simp only [Bool.and_eq_true, sa, sb]
  · have h0 : ¬ ((S : Nat) : Int) = 0 := by omega
    have h1 : decide (((S : Nat) : Int) < 0) = false := by simp
    simp only [if_neg h0, h1, Int.natAbs_natCast]
    have hn : ¬ (a = 9223372036854775808 ∧ b = 9223372036854775808) := by
      rintro ⟨x, y⟩
      have h1 := za (sa.2 x); have h2 := zb (sb.2 y)
      have h3 : tv a + tv b = 0 := by rw [va, vb, h1, h2]; simp
      rw [hv] at h3
      exact hS ((Nat.mul_eq_zero.1 h3).resolve_right (Nat.ne_of_gt (Nat.two_pow_pos _)))
    rw [if_neg hn]
    exact nearest_rnd _ _

theorem sub_T {a b : Nat} (ha : T a) (hb : T b) (h : tv b < tv a) : D.sub a b = some (rnd (tv a - tv b)) := by
  obtain ⟨s, m, i, ra, va, sa, za⟩ := read_T ha
  obtain ⟨t, n, j, rb, vb, sb, zb⟩ := read_T hb
  obtain ⟨e1, e2, e3⟩ := base_toNat i j
  unfold Format.sub
  rw [ra, rb]
  simp only [Datum.opposite, Datum.sum, e1, e2, e3, signed_pos za, signed_neg zb, Option.map_some]
  congr 1
  have v1 : tv a = m * 2 ^ (i - min i j) * 2 ^ min i j := by rw [va, lift _ _ _ (by omega)]
  have v2 : tv b = n * 2 ^ (j - min i j) * 2 ^ min i j := by rw [vb, lift _ _ _ (by omega)]
  rw [v1, v2] at h
  have hlt := Nat.lt_of_mul_lt_mul_right h
  rw [v1, v2, ← Nat.sub_mul]
  generalize m * 2 ^ (i - min i j) = A at *
  generalize n * 2 ^ (j - min i j) = C at *
  have h0 : ¬ ((A : Nat) : Int) + -((C : Nat) : Int) = 0 := by omega
  have h1 : decide (((A : Nat) : Int) + -((C : Nat) : Int) < 0) = false := by simp; omega
  have h2 : (((A : Nat) : Int) + -((C : Nat) : Int)).natAbs = A - C := by omega
  simp only [if_neg h0, h1, h2]
  exact nearest_rnd _ _

/-! ### Rounding what is there already -/
theorem nr_exact {r t : Nat} (h : r < 9218868437227405312) : nr (V r * 2 ^ t) t = r := by
  by_cases h0 : r = 0
  · subst h0; rw [V_zero, Nat.zero_mul, nr_zero]
  · have hV : V r ≠ 0 := by have := V_lt (r := 0) (s := r) (by omega); rw [V_zero] at this; omega
    rcases nr_scale (V r) t t hV (Nat.le_refl t) with h1 | h1
    · rw [h1, Nat.sub_self]; exact rnd_V h
    · have hlt : V r < 4503599627370496 := by
        have h2 : V r < 2 ^ ((V r).log2 + 1) := Nat.lt_log2_self
        have h3 : 2 ^ ((V r).log2 + 1) ≤ 2 ^ 52 := Nat.pow_le_pow_right (by omega) (by omega)
        have h4 : (2 : Nat) ^ 52 = 4503599627370496 := by decide
        omega
      have hr : r < 4503599627370496 := by
        by_cases k : r < 4503599627370496
        · exact k
        · have h5 := V_le (r := 4503599627370496) (s := r) (by omega)
          have h6 : V 4503599627370496 = 4503599627370496 := by decide
          omega
      have hv : V r = r := V_sub r hr
      rw [hv] at h1 hV ⊢
      have hne : r * 2 ^ t ≠ 0 := by have := Nat.mul_pos (Nat.pos_of_ne_zero hV) (Nat.two_pow_pos t); omega
      unfold nr
      rw [if_neg hne, log2_scale hV]
      have : max (r.log2 + t - 52) t = t := by omega
      rw [this, cutE_exact]; omega
theorem nr_ge {r n t : Nat} (h : r < 9218868437227405312) (hn : V r * 2 ^ t ≤ n) : r ≤ nr n t := by
  have := nr_mono t hn; rw [nr_exact h] at this; exact this
theorem nr_le_of {r n t : Nat} (h : r < 9218868437227405312) (hn : n ≤ V r * 2 ^ t) : nr n t ≤ r := by
  have := nr_mono t hn; rw [nr_exact h] at this; exact this
theorem rnd_ge {r n : Nat} (h : r < 9218868437227405312) (hn : V r ≤ n) : r ≤ rnd n := nr_ge h (by simpa using hn)
theorem rnd_le_of {r n : Nat} (h : r < 9218868437227405312) (hn : n ≤ V r) : rnd n ≤ r := nr_le_of h (by simpa using hn)

/-- A product that is there exactly. -/
theorem mul_exact {a b r : Nat} (ha : a < 9218868437227405312) (hb : b < 9218868437227405312) (hr : r < 9218868437227405312) (h : V a * V b = V r * 2 ^ 1074) : D.mul a b = some r := by
  unfold Format.mul
  rw [read_fin ha, read_fin hb]
  simp only [Datum.product, Option.map_some]
  congr 1
  show D.nearest false (M a * M b) (-1074 + (K a : Int) + (-1074 + (K b : Int))) = r
  rw [nearest_eq]
  have hv : M a * M b * 2 ^ (K a + K b) = V r * 2 ^ 1074 := by
    rw [← h]; unfold V; rw [Nat.pow_add]; simp only [Nat.mul_assoc, Nat.mul_left_comm]
  by_cases hc : 1074 ≤ K a + K b
  · have e1 : (-1074 + (K a : Int) + (-1074 + (K b : Int)) + 1074).toNat = K a + K b - 1074 := by omega
    have e2 : (-1074 - (-1074 + (K a : Int) + (-1074 + (K b : Int)))).toNat = 0 := by omega
    rw [e1, e2]
    have : M a * M b * 2 ^ (K a + K b - 1074) = V r := by
      have h1 := lift (M a * M b) (K a + K b) 1074 hc
      rw [hv] at h1
      exact Nat.eq_of_mul_eq_mul_right (Nat.two_pow_pos 1074) h1
    rw [this]; exact rnd_V hr
  · have e1 : (-1074 + (K a : Int) + (-1074 + (K b : Int)) + 1074).toNat = 0 := by omega
    have e2 : (-1074 - (-1074 + (K a : Int) + (-1074 + (K b : Int)))).toNat = 1074 - (K a + K b) := by omega
    rw [e1, e2, Nat.pow_zero, Nat.mul_one]
    have : M a * M b = V r * 2 ^ (1074 - (K a + K b)) := by
      have h1 := lift (V r) 1074 (K a + K b) (by omega)
      rw [← hv] at h1
      exact (Nat.eq_of_mul_eq_mul_right (Nat.two_pow_pos _) h1).symm
    rw [this]; exact nr_exact hr

/-! ### Quotients -/
def qmore (a b : Nat) : Nat := 54 + (M b).log2 - (M a).log2
def qsig (a b : Nat) : Nat := 2 * (M a * 2 ^ qmore a b / M b) + (if M a * 2 ^ qmore a b % M b = 0 then 0 else 1)
theorem M_ne {b : Nat} (h : 0 < b) : M b ≠ 0 := by unfold M; split <;> omega

theorem div_fin {a b : Nat} (ha : a < 9218868437227405312) (hb : b < 9218868437227405312) (h0 : 0 < b) :
    D.div a b = some (D.nearest false (qsig a b) ((K a : Int) - (K b : Int) - (qmore a b : Int) - 1)) := by
  unfold Format.div
  rw [read_fin ha, read_fin hb]
  simp only [Datum.quotient]
  rw [if_neg (M_ne h0)]
  simp only [Option.map_some]
  have e : 52 + 2 + (M b).log2 - (M a).log2 = qmore a b := rfl
  have e' : D.fractionBits + 2 + (M b).log2 - (M a).log2 = qmore a b := rfl
  rw [e']
  have e1 : -1074 + (K a : Int) - (-1074 + (K b : Int)) - (qmore a b : Int) - 1 = (K a : Int) - (K b : Int) - (qmore a b : Int) - 1 := by omega
  rw [e1, Nat.shiftLeft_eq]
  have e2 : (M a * 2 ^ qmore a b % M b != 0).toNat = if M a * 2 ^ qmore a b % M b = 0 then 0 else 1 := by
    by_cases h : M a * 2 ^ qmore a b % M b = 0 <;> simp [h]
  rw [e2]
  rfl
theorem div_mz {b : Nat} (hb : b < 9218868437227405312) (h0 : 0 < b) : D.div 9223372036854775808 b = some 9223372036854775808 := by
  unfold Format.div
  rw [read_mz, read_fin hb]
  simp only [Datum.quotient]
  rw [if_neg (M_ne h0)]
  simp only [Option.map_some, Nat.zero_shiftLeft, Nat.zero_div, Nat.zero_mod]
  rfl
theorem qsig_zero {b : Nat} : qsig 0 b = 0 := by simp [qsig, M]

theorem qsig_bounds {a b : Nat} (h0 : 0 < a) (h1 : 0 < b) : 2 ^ 54 ≤ qsig a b ∧ qsig a b * M b ≤ 4 * (M a * 2 ^ qmore a b) ∧ qsig a b < 2 ^ 57 := by
  have ma := M_ne h0
  have mb := M_ne h1
  have la1 := Nat.log2_self_le ma
  have la2 : M a < 2 ^ ((M a).log2 + 1) := Nat.lt_log2_self
  have lb1 := Nat.log2_self_le mb
  have lb2 : M b < 2 ^ ((M b).log2 + 1) := Nat.lt_log2_self
  have hle : (M a).log2 ≤ 54 + (M b).log2 := by
    have : (M a).log2 < 53 := by rw [Nat.log2_lt ma]; have := @M_lt a; have : (2 : Nat) ^ 53 = 9007199254740992 := by decide
                                 omega
    omega
  have hX1 : 2 ^ 53 ≤ M a * 2 ^ qmore a b / M b := by
    rw [Nat.le_div_iff_mul_le (Nat.pos_of_ne_zero mb)]
    calc 2 ^ 53 * M b ≤ 2 ^ 53 * 2 ^ ((M b).log2 + 1) := Nat.mul_le_mul_left _ (Nat.le_of_lt lb2)
      _ = 2 ^ (M a).log2 * 2 ^ qmore a b := by rw [← Nat.pow_add, ← Nat.pow_add]; congr 1; unfold qmore; omega
      _ ≤ M a * 2 ^ qmore a b := Nat.mul_le_mul_right _ la1
  have hX2 : M a * 2 ^ qmore a b / M b < 2 ^ 55 := by
    rw [Nat.div_lt_iff_lt_mul (Nat.pos_of_ne_zero mb)]
    calc M a * 2 ^ qmore a b < 2 ^ ((M a).log2 + 1) * 2 ^ qmore a b := Nat.mul_lt_mul_of_pos_right la2 (Nat.two_pow_pos _)
      _ = 2 ^ 55 * 2 ^ (M b).log2 := by rw [← Nat.pow_add, ← Nat.pow_add]; congr 1; unfold qmore; omega
      _ ≤ 2 ^ 55 * M b := Nat.mul_le_mul_left _ lb1
  have hq : qsig a b ≤ 2 * (M a * 2 ^ qmore a b / M b) + 1 := by unfold qsig; split <;> omega
  have hq' : 2 * (M a * 2 ^ qmore a b / M b) ≤ qsig a b := by unfold qsig; omega
  refine ⟨by have : (2 : Nat) ^ 54 = 2 * 2 ^ 53 := by decide
             omega, ?_, ?_⟩
  · calc qsig a b * M b ≤ (4 * (M a * 2 ^ qmore a b / M b)) * M b := Nat.mul_le_mul_right _ (by omega)
      _ = 4 * (M a * 2 ^ qmore a b / M b * M b) := Nat.mul_assoc _ _ _
      _ ≤ 4 * (M a * 2 ^ qmore a b) := Nat.mul_le_mul_left _ (Nat.div_mul_le_self _ _)
  · have : (2 : Nat) ^ 57 = 4 * 2 ^ 55 := by decide
    omega

theorem qsig_ge {a b C : Nat} (h1 : 0 < b) (h : C * M b ≤ M a * 2 ^ qmore a b) : 2 * C ≤ qsig a b := by
  have : C ≤ M a * 2 ^ qmore a b / M b := (Nat.le_div_iff_mul_le (Nat.pos_of_ne_zero (M_ne h1))).2 h
  unfold qsig; omega
theorem qsig_le {a b C : Nat} (h1 : 0 < b) (h : M a * 2 ^ qmore a b ≤ C * M b) : qsig a b ≤ 2 * C := by
  have mb := Nat.pos_of_ne_zero (M_ne h1)
  have hd := Nat.div_add_mod (M a * 2 ^ qmore a b) (M b)
  unfold qsig
  by_cases hr : M a * 2 ^ qmore a b % M b = 0
  · rw [if_pos hr]
    have : M a * 2 ^ qmore a b / M b ≤ C := Nat.div_le_of_le_mul (by rw [Nat.mul_comm (M b)]; exact h)
    omega
  · rw [if_neg hr]
    have : M a * 2 ^ qmore a b / M b < C := by
      rw [Nat.div_lt_iff_lt_mul mb]
      rcases Nat.lt_or_eq_of_le h with h | h
      · exact h
      · exfalso; apply hr; rw [h]; exact Nat.mul_mod_left _ _
    omega

/-- The quotient against c / 2^s. -/
theorem div_ge {a b c s : Nat} (hb0 : 0 < b) (hc : c < 9007199254740992) (hs : s ≤ 1074) (hk : K a + s ≤ K b + qmore a b) (h : c * V b ≤ V a * 2 ^ s) :
    dy c s ≤ D.nearest false (qsig a b) ((K a : Int) - (K b : Int) - (qmore a b : Int) - 1) := by
  rw [nearest_eq]
  apply nr_ge (dy_spec hc).1
  rw [(dy_spec hc).2]
  have hC : c * 2 ^ (K b + qmore a b - (K a + s)) * M b ≤ M a * 2 ^ qmore a b := by
    have h2 : c * 2 ^ (K b + qmore a b - (K a + s)) * M b * 2 ^ (K a + s) ≤ M a * 2 ^ qmore a b * 2 ^ (K a + s) := by
      have e1 : c * 2 ^ (K b + qmore a b - (K a + s)) * M b * 2 ^ (K a + s) = c * V b * 2 ^ qmore a b := by
        unfold V
        have := lift c (K b + qmore a b) (K a + s) hk
        rw [Nat.mul_right_comm (c * 2 ^ (K b + qmore a b - (K a + s))), this, Nat.pow_add]
        simp only [Nat.mul_assoc, Nat.mul_left_comm, Nat.mul_comm]
      have e2 : M a * 2 ^ qmore a b * 2 ^ (K a + s) = V a * 2 ^ s * 2 ^ qmore a b := by
        unfold V; rw [Nat.pow_add]; simp only [Nat.mul_assoc, Nat.mul_comm]
      rw [e1, e2]; exact Nat.mul_le_mul_right _ h
    exact Nat.le_of_mul_le_mul_right h2 (Nat.two_pow_pos _)
  have hq := qsig_ge hb0 hC
  refine Nat.le_trans (Nat.le_of_eq ?_) (Nat.mul_le_mul_right _ hq)
  rw [Nat.mul_assoc c, ← Nat.pow_add, ← Nat.mul_assoc 2, Nat.mul_comm 2 c, Nat.mul_assoc c, ← Nat.pow_succ', Nat.mul_assoc c, ← Nat.pow_add]
  congr 2; omega
theorem div_le {a b c s : Nat} (hb0 : 0 < b) (hc : c < 9007199254740992) (hs : s ≤ 1074) (hk : K a + s ≤ K b + qmore a b) (h : V a * 2 ^ s ≤ c * V b) :
    D.nearest false (qsig a b) ((K a : Int) - (K b : Int) - (qmore a b : Int) - 1) ≤ dy c s := by
  rw [nearest_eq]
  apply nr_le_of (dy_spec hc).1
  rw [(dy_spec hc).2]
  have hC : M a * 2 ^ qmore a b ≤ c * 2 ^ (K b + qmore a b - (K a + s)) * M b := by
    have h2 : M a * 2 ^ qmore a b * 2 ^ (K a + s) ≤ c * 2 ^ (K b + qmore a b - (K a + s)) * M b * 2 ^ (K a + s) := by
      have e1 : c * 2 ^ (K b + qmore a b - (K a + s)) * M b * 2 ^ (K a + s) = c * V b * 2 ^ qmore a b := by
        unfold V
        have := lift c (K b + qmore a b) (K a + s) hk
        rw [Nat.mul_right_comm (c * 2 ^ (K b + qmore a b - (K a + s))), this, Nat.pow_add]
        simp only [Nat.mul_assoc, Nat.mul_left_comm, Nat.mul_comm]
      have e2 : M a * 2 ^ qmore a b * 2 ^ (K a + s) = V a * 2 ^ s * 2 ^ qmore a b := by
        unfold V; rw [Nat.pow_add]; simp only [Nat.mul_assoc, Nat.mul_comm]
      rw [e1, e2]; exact Nat.mul_le_mul_right _ h
    exact Nat.le_of_mul_le_mul_right h2 (Nat.two_pow_pos _)
  have hq := qsig_le hb0 hC
  refine Nat.le_trans (Nat.mul_le_mul_right _ hq) (Nat.le_of_eq ?_)
  rw [Nat.mul_assoc c, ← Nat.pow_add, ← Nat.mul_assoc 2, Nat.mul_comm 2 c, Nat.mul_assoc c, ← Nat.pow_succ', Nat.mul_assoc c, ← Nat.pow_add]
  congr 2; omega

/-- Normal numbers: 53 digits. -/
theorem K_of {r : Nat} (h : 4503599627370496 ≤ r) : (M r).log2 = 52 ∧ 2 ^ (52 + K r) ≤ V r ∧ V r < 2 ^ (53 + K r) := by
  have h1 : 4503599627370496 ≤ M r := by unfold M; rw [if_neg (by omega)]; omega
  have h2 := @M_lt r
  have e1 : (2 : Nat) ^ 52 = 4503599627370496 := by decide
  have e2 : (2 : Nat) ^ 53 = 9007199254740992 := by decide
  refine ⟨log2_eq (by omega) (by omega), ?_, ?_⟩
  · unfold V; rw [Nat.pow_add, e1]; exact Nat.mul_le_mul_right _ h1
  · unfold V; rw [Nat.pow_add, e2]; exact Nat.mul_lt_mul_of_pos_right h2 (Nat.two_pow_pos _)
theorem dy_norm {k s : Nat} (h0 : 0 < k) (hk : k < 9007199254740992) (hs : s ≤ 1000) : 4503599627370496 ≤ dy k s := by
  have e : V 4503599627370496 = 4503599627370496 := by decide
  rw [← V_le_iff, (dy_spec hk).2, e]
  have h1 : 2 ^ 52 ≤ 2 ^ (1074 - s) := Nat.pow_le_pow_right (by omega) (by omega)
  have h2 : (2 : Nat) ^ 52 = 4503599627370496 := by decide
  have h3 : 1 * 2 ^ (1074 - s) ≤ k * 2 ^ (1074 - s) := Nat.mul_le_mul_right _ h0
  omega
theorem sh1 (a s t u P : Nat) (h : s ≤ P) : a * 2 ^ (P - s) * 2 ^ u * 2 ^ (s + t) = a * 2 ^ (t + u) * 2 ^ P := by
  have e : P - s + (u + (s + t)) = t + u + P := by omega
  rw [Nat.mul_assoc, Nat.mul_assoc, Nat.mul_assoc, ← Nat.pow_add, ← Nat.pow_add, ← Nat.pow_add, e]
theorem sh2 (c d s t P : Nat) (h : t ≤ P) : c * (d * 2 ^ (P - t)) * 2 ^ (s + t) = c * d * 2 ^ s * 2 ^ P := by
  have e : P - t + (s + t) = s + P := by omega
  rw [← Nat.mul_assoc, Nat.mul_assoc (c * d), Nat.mul_assoc (c * d), ← Nat.pow_add, ← Nat.pow_add, e]
/-- An exact quotient of small ones. -/
theorem div_dy {a d s t c u : Nat} (ha : 0 < a) (hd : 0 < d) (ha' : a < 2 ^ 40) (hd' : d < 2 ^ 40) (hs : s ≤ 100) (ht : t ≤ 100) (hu : u ≤ 10) (hst : t ≤ s + 4) (hc : c < 9007199254740992)
    (h : a * 2 ^ (t + u) = c * d * 2 ^ s) : D.div (dy a s) (dy d t) = some (dy c u) := by
  have h40 : (2 : Nat) ^ 40 = 1099511627776 := by decide
  have a1 : a < 9007199254740992 := by omega
  have d1 : d < 9007199254740992 := by omega
  have na := dy_norm (s := s) ha a1 (by omega)
  have nd := dy_norm (s := t) hd d1 (by omega)
  obtain ⟨la, va1, va2⟩ := K_of na
  obtain ⟨ld, vd1, vd2⟩ := K_of nd
  rw [div_fin (dy_spec a1).1 (dy_spec d1).1 (by omega)]
  congr 1
  have hq : qmore (dy a s) (dy d t) = 54 := by unfold qmore; rw [la, ld]
  have hk : K (dy a s) + u ≤ K (dy d t) + qmore (dy a s) (dy d t) := by
    rw [hq]
    rw [(dy_spec a1).2] at va1
    rw [(dy_spec d1).2] at vd2
    have x1 : a * 2 ^ (1074 - s) < 2 ^ (40 + (1074 - s)) := by rw [Nat.pow_add]; exact Nat.mul_lt_mul_of_pos_right ha' (Nat.two_pow_pos _)
    have x2 : 2 ^ (1074 - t) ≤ d * 2 ^ (1074 - t) := by have := Nat.mul_le_mul_right (2 ^ (1074 - t)) hd; omega
    have y1 : 52 + K (dy a s) < 40 + (1074 - s) := (Nat.pow_lt_pow_iff_right (a := 2) (by omega)).1 (by omega)
    have y2 : 1074 - t < 53 + K (dy d t) := (Nat.pow_lt_pow_iff_right (a := 2) (by omega)).1 (by omega)
    omega
  have hh : V (dy a s) * 2 ^ u = c * V (dy d t) := by
    rw [(dy_spec a1).2, (dy_spec d1).2]
    apply Nat.eq_of_mul_eq_mul_right (Nat.two_pow_pos (s + t))
    have l1 := sh1 a s t u 1074 (by omega)
    have l2 := sh2 c d s t 1074 (by omega)
    rw [l1, l2, h]
  apply Nat.le_antisymm
  · exact div_le (by omega) hc (by omega) hk (Nat.le_of_eq hh)
  · exact div_ge (by omega) hc (by omega) hk (Nat.le_of_eq hh.symm)

/-! ### Floors -/
theorem floor_fin {w : Nat} (hw : w < 9218868437227405312) : D.write ((D.read w).integral .down) = rnd (V w / 2 ^ 1074 * 2 ^ 1074) := by
  rw [read_fin hw]
  simp only [Datum.integral]
  show D.nearest false (Toward.down.cut false (M w <<< (-1074 + (K w : Int)).toNat) (-(-1074 + (K w : Int))).toNat) 0 = _
  have hcut : ∀ n d, Toward.down.cut false n d = n / 2 ^ d := by
    intro n d
    unfold Toward.cut
    simp only [Nat.one_shiftLeft, Bool.false_and, Bool.toNat_false, Nat.add_zero]
    by_cases h : d ≤ n.log2 + 2
    · rw [Nat.min_eq_left h]
    · rw [Nat.min_eq_right (by omega)]
      have h1 : n < 2 ^ (n.log2 + 1) := Nat.lt_log2_self
      have h2 : 2 ^ (n.log2 + 1) ≤ 2 ^ (n.log2 + 2) := Nat.pow_le_pow_right (by omega) (by omega)
      have h3 : 2 ^ (n.log2 + 2) ≤ 2 ^ d := Nat.pow_le_pow_right (by omega) (by omega)
      rw [Nat.div_eq_of_lt (by omega), Nat.div_eq_of_lt (by omega)]
  rw [hcut, nearest_eq]
  have e0 : (-1074 - (0 : Int)).toNat = 0 := rfl
  have e1 : ((0 : Int) + 1074).toNat = 1074 := rfl
  rw [e0, e1]
  unfold rnd
  congr 2
  rw [Nat.shiftLeft_eq]
  unfold V
  by_cases h : 1074 ≤ K w
  · have a1 : (-1074 + (K w : Int)).toNat = K w - 1074 := by omega
    have a2 : (-(-1074 + (K w : Int))).toNat = 0 := by omega
    rw [a1, a2, Nat.pow_zero, Nat.div_one]
    have hl := lift (M w) (K w) 1074 h
    have hp := Nat.two_pow_pos 1074
    generalize 2 ^ 1074 = P at hl hp ⊢
    rw [← hl, Nat.mul_div_cancel _ hp]
  · have a1 : (-1074 + (K w : Int)).toNat = 0 := by omega
    have a2 : (-(-1074 + (K w : Int))).toNat = 1074 - K w := by omega
    rw [a1, a2, Nat.pow_zero, Nat.mul_one]
    have : 2 ^ 1074 = 2 ^ (1074 - K w) * 2 ^ K w := by rw [← Nat.pow_add]; congr 1; omega
    rw [this, Nat.mul_div_mul_right _ _ (Nat.two_pow_pos _)]
theorem floor_mz : D.write ((D.read 9223372036854775808).integral .down) = 9223372036854775808 := by decide +kernel
theorem floor_inf : D.write ((D.read 9218868437227405312).integral .down) = 9218868437227405312 := by decide +kernel
end Go.Proofs.Ytddnhjpclglclaa.Fl
