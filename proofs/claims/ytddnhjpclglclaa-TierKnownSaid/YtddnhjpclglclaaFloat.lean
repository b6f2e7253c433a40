/- Plain facts on doubles: words of numbers that are not negative, their order, sums, differences, products, quotients. No program in sight. -/
import Ieee.Arith
namespace Go.Proofs.Ytddnhjpclglclaa.Fl
open Ieee

abbrev D : Format := Ieee.double

theorem D_binade : D.binade = 4503599627370496 := by decide
theorem D_inf : D.infRung = 9218868437227405312 := by decide
theorem D_sg : D.signWeight = 9223372036854775808 := by decide
theorem D_least : D.leastPlace = -1074 := by decide
theorem D_fr : D.fractionBits = 52 := by decide

/-- The significand and the place (from -1074 on) of a rung. -/
def M (r : Nat) : Nat := if r < 4503599627370496 then r else 4503599627370496 + r % 4503599627370496
def K (r : Nat) : Nat := if r < 4503599627370496 then 0 else r / 4503599627370496 - 1
/-- The value of a rung, in units of 2^-1074. -/
def V (r : Nat) : Nat := M r * 2 ^ K r

theorem V_zero : V 0 = 0 := by simp [V, M]

theorem V_succ (r : Nat) : V r < V (r + 1) := by
  unfold V M K
  by_cases h : r + 1 < 4503599627370496
  · rw [if_pos (by omega), if_pos (by omega), if_pos h, if_pos h]; omega
  · by_cases h' : r < 4503599627370496
    · obtain rfl : r = 4503599627370495 := by omega
      decide
    · rw [if_neg h', if_neg h', if_neg h, if_neg h]
      by_cases hc : r % 4503599627370496 + 1 < 4503599627370496
      · have e1 : (r + 1) % 4503599627370496 = r % 4503599627370496 + 1 := by omega
        have e2 : (r + 1) / 4503599627370496 = r / 4503599627370496 := by omega
        rw [e1, e2]
        exact Nat.mul_lt_mul_of_pos_right (by omega) (Nat.two_pow_pos _)
      · have e1 : (r + 1) % 4503599627370496 = 0 := by omega
        have e2 : (r + 1) / 4503599627370496 - 1 = (r / 4503599627370496 - 1) + 1 := by omega
        rw [e1, e2, Nat.pow_succ]
        have hp : 0 < 2 ^ (r / 4503599627370496 - 1) := Nat.two_pow_pos _
        have e3 : (4503599627370496 + 0) * (2 ^ (r / 4503599627370496 - 1) * 2) = 9007199254740992 * 2 ^ (r / 4503599627370496 - 1) := by
          rw [Nat.mul_comm (2 ^ (r / 4503599627370496 - 1)) 2, ← Nat.mul_assoc]
        rw [e3]
        exact Nat.mul_lt_mul_of_pos_right (by omega) hp

theorem V_lt {r s : Nat} (h : r < s) : V r < V s := by
  induction s with
  | zero => omega
  | succ s ih =>
    by_cases e : r = s
    · subst e; exact V_succ r
    · exact Nat.lt_trans (ih (by omega)) (V_succ s)
theorem V_le {r s : Nat} (h : r ≤ s) : V r ≤ V s := by
  by_cases e : r = s
  · subst e; exact Nat.le_refl _
  · exact Nat.le_of_lt (V_lt (by omega))
theorem V_lt_iff {r s : Nat} : V r < V s ↔ r < s := ⟨fun h => by
  by_cases k : r < s
  · exact k
  · have := V_le (Nat.le_of_not_lt k); omega, V_lt⟩
theorem V_le_iff {r s : Nat} : V r ≤ V s ↔ r ≤ s := ⟨fun h => by
  by_cases k : r ≤ s
  · exact k
  · have := V_lt (Nat.lt_of_not_le k); omega, V_le⟩
theorem V_inj {r s : Nat} (h : V r = V s) : r = s := by
  have a := V_le_iff.1 (Nat.le_of_eq h); have b := V_le_iff.1 (Nat.le_of_eq h.symm); omega

/-! ### Reading -/
theorem read_fin {r : Nat} (h : r < 9218868437227405312) : D.read r = .number false (M r) (-1074 + (K r : Int)) := by
  unfold Format.read
  rw [D_sg, D_binade, D_inf, D_least]
  have e1 : r / 9223372036854775808 % 2 = 0 := by omega
  have e2 : r % 9223372036854775808 = r := by omega
  simp only [e1, e2]
  unfold M K
  by_cases hb : r < 4503599627370496
  · rw [if_pos hb, if_pos hb, if_pos hb]; rfl
  · rw [if_neg hb, if_pos h, if_neg hb, if_neg hb]; rfl
theorem read_mz : D.read 9223372036854775808 = .number true 0 (-1074) := by rfl
theorem read_inf : D.read 9218868437227405312 = .infinity false := by rfl

/-- No NaN, and not below nought (a nought with a sign is let in). -/
def NN (b : Nat) : Prop := b ≤ 9218868437227405312 ∨ b = 9223372036854775808
instance (b : Nat) : Decidable (NN b) := by unfold NN; infer_instance
/-- A time. -/
def T (b : Nat) : Prop := b < 9218868437227405312 ∨ b = 9223372036854775808
instance (b : Nat) : Decidable (T b) := by unfold T; infer_instance
def key (b : Nat) : Nat := if b = 9223372036854775808 then 0 else b
def tv (b : Nat) : Nat := V (key b)

theorem key_lt {b : Nat} (h : T b) : key b < 9218868437227405312 := by unfold key; rcases h with h | h <;> split <;> omega
theorem key_le {b : Nat} (h : NN b) : key b ≤ 9218868437227405312 := by unfold key; rcases h with h | h <;> split <;> omega
theorem T.nn {b : Nat} (h : T b) : NN b := by rcases h with h | h; exact .inl (by omega); exact .inr h
theorem nn_T {b : Nat} (h : NN b) (k : key b < 9218868437227405312) : T b := by
  unfold key at k; rcases h with h | h
  · rw [if_neg (by omega)] at k; exact .inl k
  · exact .inr h

theorem compare_nat (a b : Nat) : compare (a : Int) (b : Int) = compare a b := by
  simp only [compare, compareOfLessAndEq, Int.ofNat_lt, Int.ofNat_inj]
theorem compare_of_lt {a b : Nat} (h : a < b) : compare a b = .lt := by simp [compare, compareOfLessAndEq, h]
theorem compare_of_eq {a b : Nat} (h : a = b) : compare a b = .eq := by simp [compare, compareOfLessAndEq, h]
theorem compare_of_gt {a b : Nat} (h : b < a) : compare a b = .gt := by
  have h1 : ¬ a < b := by omega
  have h2 : ¬ a = b := by omega
  simp [compare, compareOfLessAndEq, h1, h2]
theorem compare_congr {a b c d : Nat} (h1 : a < b ↔ c < d) (h2 : a = b ↔ c = d) : compare a b = compare c d := by
  simp only [compare, compareOfLessAndEq, h1, h2]

/-- Two shifted significands stand as the values. -/
theorem order_shift (m n i j : Nat) : (Datum.number false m (-1074 + (i : Int))).order (.number false n (-1074 + (j : Int))) = some (compare (m * 2 ^ i) (n * 2 ^ j)) := by
  simp only [Datum.order, signed, Nat.shiftLeft_eq]
  congr 1
  have e1 : (-1074 + (i : Int) - min (-1074 + (i : Int)) (-1074 + (j : Int))).toNat = i - min i j := by omega
  have e2 : (-1074 + (j : Int) - min (-1074 + (i : Int)) (-1074 + (j : Int))).toNat = j - min i j := by omega
  simp only [e1, e2, Bool.false_eq_true, if_false]
  rw [compare_nat]
  have f1 : m * 2 ^ i = m * 2 ^ (i - min i j) * 2 ^ min i j := by rw [Nat.mul_assoc, ← Nat.pow_add]; congr 2; omega
  have f2 : n * 2 ^ j = n * 2 ^ (j - min i j) * 2 ^ min i j := by rw [Nat.mul_assoc, ← Nat.pow_add]; congr 2; omega
  rw [f1, f2]
  have hp : 0 < 2 ^ min i j := Nat.two_pow_pos _
  exact compare_congr (Nat.mul_lt_mul_right hp).symm ⟨fun h => by rw [h], fun h => Nat.eq_of_mul_eq_mul_right hp h⟩

theorem order_fin {a b : Nat} (ha : a < 9218868437227405312) (hb : b < 9218868437227405312) : D.order a b = some (compare a b) := by
  unfold Format.order
  rw [read_fin ha, read_fin hb, order_shift]
  congr 1
  exact compare_congr V_lt_iff ⟨fun h => V_inj h, fun h => by subst h; rfl⟩

/-- THE ORDER of two that are no NaN and not below nought: that of their keys. -/
theorem order_nn {a b : Nat} (ha : NN a) (hb : NN b) : D.order a b = some (compare (key a) (key b)) := by
  have hz : D.read 9223372036854775808 = (Datum.number true 0 (-1074 + ((0 : Nat) : Int))) := rfl
  have mz : ∀ n j, (Datum.number true 0 (-1074 + ((0 : Nat) : Int))).order (.number false n (-1074 + (j : Int))) = (Datum.number false 0 (-1074 + ((0 : Nat) : Int))).order (.number false n (-1074 + (j : Int))) := by
    intro n j; simp [Datum.order, signed]
  have mz' : ∀ n j, (Datum.number false n (-1074 + (j : Int))).order (.number true 0 (-1074 + ((0 : Nat) : Int))) = (Datum.number false n (-1074 + (j : Int))).order (.number false 0 (-1074 + ((0 : Nat) : Int))) := by
    intro n j; simp [Datum.order, signed]
  have hz0 : D.read 0 = (Datum.number false 0 (-1074 + ((0 : Nat) : Int))) := rfl
  by_cases ea : a = 9223372036854775808
  · subst ea
    have ka : key 9223372036854775808 = 0 := rfl
    by_cases eb : b = 9223372036854775808
    · subst eb; rw [ka]; rfl
    · have kb : key b = b := by simp [key, eb]
      have hb' : b ≤ 9218868437227405312 := hb.resolve_right eb
      rw [ka, kb]
      by_cases ei : b = 9218868437227405312
      · subst ei; rfl
      · have hl : b < 9218868437227405312 := by omega
        rw [← order_fin (by decide) hl]
        unfold Format.order
        rw [hz, hz0, read_fin hl, mz]
  · have ka : key a = a := by simp [key, ea]
    have ha' : a ≤ 9218868437227405312 := ha.resolve_right ea
    rw [ka]
    by_cases eb : b = 9223372036854775808
    · subst eb
      have kb : key 9223372036854775808 = 0 := rfl
      rw [kb]
      by_cases ei : a = 9218868437227405312
      · subst ei; rfl
      · have hl : a < 9218868437227405312 := by omega
        rw [← order_fin hl (by decide)]
        unfold Format.order
        rw [hz, hz0, read_fin hl, mz']
    · have kb : key b = b := by simp [key, eb]
      have hb' : b ≤ 9218868437227405312 := hb.resolve_right eb
      rw [kb]
      by_cases ia : a = 9218868437227405312
      · subst ia
        by_cases ib : b = 9218868437227405312
        · subst ib; rfl
        · have hl : b < 9218868437227405312 := by omega
          unfold Format.order
          rw [read_inf, read_fin hl, compare_of_gt hl]; rfl
      · have hl : a < 9218868437227405312 := by omega
        by_cases ib : b = 9218868437227405312
        · subst ib
          unfold Format.order
          rw [read_inf, read_fin hl, compare_of_lt hl]; rfl
        · exact order_fin hl (by omega)

theorem not_nn {a : Nat} (ha : a < 18446744073709551616) (h : ¬ NN a) : D.order a 0 = some .lt ∨ D.order a 0 = none := by
  unfold NN at h
  unfold Format.order Format.read
  rw [D_sg, D_binade, D_inf, D_least]
  have hz : (0 : Nat) % 9223372036854775808 < 4503599627370496 := by decide
  simp only [if_pos hz]
  by_cases hs : a < 9223372036854775808
  · have e2 : a % 9223372036854775808 = a := by omega
    have n1 : ¬ a < 4503599627370496 := by omega
    have n2 : ¬ a < 9218868437227405312 := by omega
    have n3 : ¬ a = 9218868437227405312 := by omega
    simp only [e2, if_neg n1, if_neg n2, if_neg n3]
    right; rfl
  · have e1 : (a / 9223372036854775808 % 2 == 1) = true := by
      have : a / 9223372036854775808 % 2 = 1 := by omega
      rw [this]; rfl
    have hne : a % 9223372036854775808 ≠ 0 := by omega
    simp only [e1]
    have z0 : ((0 : Nat) / 9223372036854775808 % 2 == 1) = false := rfl
    have z1 : (0 : Nat) % 9223372036854775808 = 0 := rfl
    rw [z0, z1]
    have neg : ∀ m (k : Nat), m ≠ 0 → (Datum.number true m (-1074 + (k : Int))).order (.number false 0 (-1074)) = some .lt := by
      intro m k hm
      simp only [Datum.order, signed, Nat.shiftLeft_eq, Nat.zero_mul]
      congr 1
      have hp : 0 < m * 2 ^ (-1074 + (k : Int) - min (-1074 + (k : Int)) (-1074)).toNat := Nat.mul_pos (by omega) (Nat.two_pow_pos _)
      simp only [if_true, Bool.false_eq_true, if_false, compare, compareOfLessAndEq]
      rw [if_pos (by omega)]
    by_cases n1 : a % 9223372036854775808 < 4503599627370496
    · rw [if_pos n1]; left; exact neg (a % 9223372036854775808) 0 hne
    · rw [if_neg n1]
      by_cases n2 : a % 9223372036854775808 < 9218868437227405312
      · rw [if_pos n2]; left; exact neg _ _ (by omega)
      · rw [if_neg n2]
        by_cases n3 : a % 9223372036854775808 = 9218868437227405312
        · rw [if_pos n3]; left; rfl
        · rw [if_neg n3]; right; rfl

/-- A NaN orders with nothing; what is below nought is below all that is not. -/
theorem not_nn_any {a b : Nat} (ha : a < 18446744073709551616) (h : ¬ NN a) (hb : NN b) : D.order a b ≠ some .gt ∧ D.order a b ≠ some .eq := by
  unfold NN at h
  have hrb : (∃ s m p, D.read b = .number s m p ∧ (s = true → m = 0)) ∨ D.read b = .infinity false := by
    rcases hb with hb | hb
    · by_cases e : b = 9218868437227405312
      · right; subst e; rfl
      · left; exact ⟨_, _, _, read_fin (by omega), by simp⟩
    · left; subst hb; exact ⟨_, _, _, read_mz, by simp⟩
  have hra : (∃ m p, D.read a = .number true m p ∧ m ≠ 0) ∨ D.read a = .infinity true ∨ ∃ s t, D.read a = .nan s t := by
    unfold Format.read
    rw [D_sg, D_binade, D_inf, D_least]
    by_cases hs : a < 9223372036854775808
    · have e2 : a % 9223372036854775808 = a := by omega
      have n1 : ¬ a < 4503599627370496 := by omega
      have n2 : ¬ a < 9218868437227405312 := by omega
      have n3 : ¬ a = 9218868437227405312 := by omega
      simp only [e2, if_neg n1, if_neg n2, if_neg n3]
      right; right; exact ⟨_, _, rfl⟩
    · have e1 : (a / 9223372036854775808 % 2 == 1) = true := by
        have : a / 9223372036854775808 % 2 = 1 := by omega
        rw [this]; rfl
      have hne : a % 9223372036854775808 ≠ 0 := by omega
      simp only [e1]
      by_cases n1 : a % 9223372036854775808 < 4503599627370496
      · rw [if_pos n1]; left; exact ⟨_, _, rfl, hne⟩
      · rw [if_neg n1]
        by_cases n2 : a % 9223372036854775808 < 9218868437227405312
        · rw [if_pos n2]; left; exact ⟨_, _, rfl, by omega⟩
        · rw [if_neg n2]
          by_cases n3 : a % 9223372036854775808 = 9218868437227405312
          · rw [if_pos n3]; right; left; rfl
          · rw [if_neg n3]; right; right; exact ⟨_, _, rfl⟩
  unfold Format.order
  rcases hra with ⟨m, p, hra, hm⟩ | hra | ⟨s, t, hra⟩ <;> rcases hrb with ⟨s', m', p', hrb, hs'⟩ | hrb <;> rw [hra, hrb]
  · have hp : ∀ k, 0 < m * 2 ^ k := fun k => Nat.mul_pos (by omega) (Nat.two_pow_pos _)
    have h1 := hp (p - min p p').toNat
    simp only [Datum.order, signed, Nat.shiftLeft_eq, if_true, compare, compareOfLessAndEq]
    have hr : (0 : Int) ≤ (if s' = true then -((m' * 2 ^ (p' - min p p').toNat : Nat) : Int) else ((m' * 2 ^ (p' - min p p').toNat : Nat) : Int)) := by
      split
      · rename_i hs; rw [hs' hs]; simp
      · omega
    rw [if_pos (by omega)]
    simp
  all_goals simp [Datum.order]
  all_goals decide

/-! ### Rounding -/
/-- 'n / 2^d' to the nearest, between two to the even one. -/
def cutE (n d : Nat) : Nat := n / 2 ^ d + (if 2 ^ d < 2 * (n % 2 ^ d) ∨ (2 ^ d = 2 * (n % 2 ^ d) ∧ n / 2 ^ d % 2 = 1) then 1 else 0)

theorem cut_even (n d : Nat) : Toward.even.cut false n d = cutE n d := by
  unfold Toward.cut cutE
  simp only [Nat.one_shiftLeft]
  by_cases h : d ≤ n.log2 + 2
  · rw [Nat.min_eq_left h]
    congr 1
    by_cases c1 : 2 ^ d < 2 * (n % 2 ^ d)
    · simp [c1]
    · by_cases c2 : 2 ^ d = 2 * (n % 2 ^ d)
      · by_cases c3 : n / 2 ^ d % 2 = 1
        · simp [← c2, c3]
        · simp [← c2, c3]
      · simp [c1, c2]
  · rw [Nat.min_eq_right (by omega)]
    have h1 : n < 2 ^ (n.log2 + 1) := Nat.lt_log2_self
    have h2 : 2 ^ (n.log2 + 2) = 2 * 2 ^ (n.log2 + 1) := by rw [Nat.pow_succ, Nat.mul_comm]
    have h3 : 2 ^ (n.log2 + 2) ≤ 2 ^ d := Nat.pow_le_pow_right (by omega) (by omega)
    have d1 : n / 2 ^ (n.log2 + 2) = 0 := Nat.div_eq_of_lt (by omega)
    have d2 : n / 2 ^ d = 0 := Nat.div_eq_of_lt (by omega)
    have m1 : n % 2 ^ (n.log2 + 2) = n := Nat.mod_eq_of_lt (by omega)
    have m2 : n % 2 ^ d = n := Nat.mod_eq_of_lt (by omega)
    rw [d1, d2, m1, m2]
    have c1 : ¬ 2 ^ (n.log2 + 2) < 2 * n := by omega
    have c2 : ¬ 2 ^ d < 2 * n := by omega
    simp [c1, c2]

theorem cutE_ge (n d : Nat) : n / 2 ^ d ≤ cutE n d := by unfold cutE; omega
theorem cutE_le (n d : Nat) : cutE n d ≤ n / 2 ^ d + 1 := by unfold cutE; split <;> omega
theorem cutE_exact (m d : Nat) : cutE (m * 2 ^ d) d = m := by
  have hp : 0 < 2 ^ d := Nat.two_pow_pos d
  unfold cutE
  rw [Nat.mul_div_cancel _ hp, Nat.mul_mod_left]
  rw [if_neg (by omega)]; omega
theorem cutE_scale (n d k : Nat) : cutE (n * 2 ^ k) (d + k) = cutE n d := by
  have hp : 0 < 2 ^ k := Nat.two_pow_pos k
  unfold cutE
  rw [Nat.pow_add, Nat.mul_div_mul_right _ _ hp, Nat.mul_mod_mul_right]
  have e : 2 * (n % 2 ^ d * 2 ^ k) = 2 * (n % 2 ^ d) * 2 ^ k := by rw [Nat.mul_assoc]
  rw [e]
  congr 1
  simp only [Nat.mul_lt_mul_right hp]
  have hiff : 2 ^ d * 2 ^ k = 2 * (n % 2 ^ d) * 2 ^ k ↔ 2 ^ d = 2 * (n % 2 ^ d) := ⟨fun h => Nat.eq_of_mul_eq_mul_right hp h, fun h => congrArg (· * 2 ^ k) h⟩
  simp only [hiff]
theorem cutE_mono {n n' : Nat} (d : Nat) (h : n ≤ n') : cutE n d ≤ cutE n' d := by
  have hp : 0 < 2 ^ d := Nat.two_pow_pos d
  by_cases e : n / 2 ^ d = n' / 2 ^ d
  · have h1 := Nat.div_add_mod n (2 ^ d)
    have h2 := Nat.div_add_mod n' (2 ^ d)
    rw [e] at h1
    have hm : n % 2 ^ d ≤ n' % 2 ^ d := by omega
    unfold cutE
    rw [e]
    by_cases c : 2 ^ d < 2 * (n % 2 ^ d) ∨ (2 ^ d = 2 * (n % 2 ^ d) ∧ n' / 2 ^ d % 2 = 1)
    · rw [if_pos c, if_pos]
      · omega
      · rcases c with c | ⟨c1, c2⟩
        · left; omega
        · by_cases k : 2 ^ d < 2 * (n' % 2 ^ d)
          · exact .inl k
          · right; exact ⟨by omega, c2⟩
    · rw [if_neg c]; split <;> omega
  · have : n / 2 ^ d ≤ n' / 2 ^ d := Nat.div_le_div_right h
    have a := cutE_le n d; have b := cutE_ge n' d; omega

/-- The rung nearest to n in units of 2^(-1074-t). -/
def nr (n t : Nat) : Nat := if n = 0 then 0 else min ((max (n.log2 - 52) t - t) * 4503599627370496 + cutE n (max (n.log2 - 52) t)) 9218868437227405312
def rnd (n : Nat) : Nat := nr n 0

theorem nr_zero (t : Nat) : nr 0 t = 0 := by simp [nr]
theorem nr_le (n t : Nat) : nr n t ≤ 9218868437227405312 := by unfold nr; split <;> omega

theorem log2_le {a b : Nat} (h : a ≤ b) : a.log2 ≤ b.log2 := by
  by_cases hb : b = 0
  · subst hb; obtain rfl : a = 0 := by omega
    exact Nat.le_refl _
  · by_cases ha : a = 0
    · subst ha; simp
    · exact (Nat.le_log2 hb).2 (Nat.le_trans (Nat.log2_self_le ha) h)

theorem log2_scale {n : Nat} (hn : n ≠ 0) (k : Nat) : (n * 2 ^ k).log2 = n.log2 + k := by
  have hp : 0 < 2 ^ k := Nat.two_pow_pos k
  have hne : n * 2 ^ k ≠ 0 := by
    have := Nat.mul_pos (Nat.pos_of_ne_zero hn) hp; omega
  apply Nat.le_antisymm
  · have : (n * 2 ^ k).log2 < n.log2 + k + 1 := by
      rw [Nat.log2_lt hne]
      have h1 : n < 2 ^ (n.log2 + 1) := Nat.lt_log2_self
      have : n.log2 + k + 1 = (n.log2 + 1) + k := by omega
      rw [this, Nat.pow_add]
      exact Nat.mul_lt_mul_of_pos_right h1 hp
    omega
  · rw [Nat.le_log2 hne, Nat.pow_add]
    exact Nat.mul_le_mul_right _ (Nat.log2_self_le hn)

theorem nr_mono {n n' : Nat} (t : Nat) (h : n ≤ n') : nr n t ≤ nr n' t := by
  by_cases hn : n = 0
  · subst hn; rw [nr_zero]; omega
  · have hn' : n' ≠ 0 := by omega
    have hl := log2_le h
    unfold nr
    rw [if_neg hn, if_neg hn']
    have key : (max (n.log2 - 52) t - t) * 4503599627370496 + cutE n (max (n.log2 - 52) t) ≤ (max (n'.log2 - 52) t - t) * 4503599627370496 + cutE n' (max (n'.log2 - 52) t) := by
      by_cases e : max (n.log2 - 52) t = max (n'.log2 - 52) t
      · rw [e]; have := cutE_mono (max (n'.log2 - 52) t) h; omega
      · -- a step of at least one binade
        have hlt : max (n.log2 - 52) t < max (n'.log2 - 52) t := by omega
        have e' : max (n'.log2 - 52) t = n'.log2 - 52 := by omega
        have hbig : 52 < n'.log2 := by omega
        -- from below: at least 4503599627370496
        have lo : 4503599627370496 ≤ cutE n' (max (n'.log2 - 52) t) := by
          refine Nat.le_trans ?_ (cutE_ge _ _)
          rw [e', Nat.le_div_iff_mul_le (Nat.two_pow_pos _)]
          refine Nat.le_trans (Nat.le_of_eq ?_) (Nat.log2_self_le hn')
          have : (4503599627370496 : Nat) = 2 ^ 52 := by decide
          rw [this, ← Nat.pow_add]; congr 1; omega
        have hi : cutE n (max (n.log2 - 52) t) ≤ 9007199254740992 := by
          refine Nat.le_trans (cutE_le _ _) ?_
          have h1 : n < 2 ^ (n.log2 + 1) := Nat.lt_log2_self
          have h2 : n / 2 ^ (max (n.log2 - 52) t) < 9007199254740992 := by
            rw [Nat.div_lt_iff_lt_mul (Nat.two_pow_pos _)]
            refine Nat.lt_of_lt_of_le h1 ?_
            have : (9007199254740992 : Nat) = 2 ^ 53 := by decide
            rw [this, ← Nat.pow_add]
            exact Nat.pow_le_pow_right (by omega) (by omega)
          omega
        have : (max (n.log2 - 52) t - t) + 1 ≤ (max (n'.log2 - 52) t - t) := by omega
        have hm : ((max (n.log2 - 52) t - t) + 1) * 4503599627370496 ≤ (max (n'.log2 - 52) t - t) * 4503599627370496 := Nat.mul_le_mul_right _ this
        omega
    omega

theorem nr_scale (n t k : Nat) (hn : n ≠ 0) (hk : k ≤ t) : nr (n * 2 ^ k) t = nr n (t - k) ∨ n.log2 < 52 := by
  by_cases hl : n.log2 < 52
  · exact .inr hl
  · left
    have hne : n * 2 ^ k ≠ 0 := by
      have := Nat.mul_pos (Nat.pos_of_ne_zero hn) (Nat.two_pow_pos k); omega
    unfold nr
    rw [if_neg hn, if_neg hne, log2_scale hn]
    have e1 : max (n.log2 + k - 52) t = max (n.log2 - 52) (t - k) + k := by omega
    rw [e1, cutE_scale]
    have e2 : max (n.log2 - 52) (t - k) + k - t = max (n.log2 - 52) (t - k) - (t - k) := by omega
    rw [e2]

theorem M_lt {r : Nat} : M r < 9007199254740992 := by unfold M; split <;> omega
theorem rnd_V {r : Nat} (h : r < 9218868437227405312) : rnd (V r) = r := by
  by_cases h0 : r = 0
  · subst h0; rfl
  · unfold rnd nr
    have hV : V r ≠ 0 := by have := V_lt (r := 0) (s := r) (by omega); rw [V_zero] at this; omega
    rw [if_neg hV]
    simp only [Nat.max_zero, Nat.sub_zero]
    by_cases hb : r < 4503599627370496
    · have e : V r = r := by simp [V, M, K, hb]
      rw [e]
      have hl : r.log2 < 52 := by rw [Nat.log2_lt h0]; have : (2 : Nat) ^ 52 = 4503599627370496 := by decide
                                  omega
      have : r.log2 - 52 = 0 := by omega
      rw [this]
      have := cutE_exact r 0
      simp only [Nat.pow_zero, Nat.mul_one] at this
      rw [this]; omega
    · have hM : M r = 4503599627370496 + r % 4503599627370496 := by simp [M, hb]
      have hK : K r = r / 4503599627370496 - 1 := by simp [K, hb]
      have hl : (V r).log2 = 52 + K r := by
        unfold V
        rw [log2_scale (by omega)]
        congr 1
        apply Nat.le_antisymm
        · have : (M r).log2 < 53 := by
            rw [Nat.log2_lt (by omega)]; have : (2 : Nat) ^ 53 = 9007199254740992 := by decide
            omega
          omega
        · rw [Nat.le_log2 (by omega)]; have : (2 : Nat) ^ 52 = 4503599627370496 := by decide
          omega
      rw [hl]
      have : 52 + K r - 52 = K r := by omega
      rw [this]
      have : cutE (V r) (K r) = M r := cutE_exact _ _
      rw [this, hM, hK]
      have h1 := Nat.div_add_mod r 4503599627370496
      have h2 : 1 ≤ r / 4503599627370496 := by omega
      generalize r / 4503599627370496 = q at h1 h2
      generalize r % 4503599627370496 = u at h1
      obtain ⟨q, rfl⟩ : ∃ k, q = k + 1 := ⟨q - 1, by omega⟩
      have h3 : q + 1 - 1 = q := by omega
      rw [h3, Nat.min_eq_left (by omega)]
      omega
theorem rnd_mono {n n' : Nat} (h : n ≤ n') : rnd n ≤ rnd n' := nr_mono 0 h
theorem rnd_le (n : Nat) : rnd n ≤ 9218868437227405312 := nr_le n 0

theorem word_false (r : Nat) : D.word false r = r := by unfold Format.word; rw [if_neg (by decide)]
theorem eA_ (m : Nat) (p : Int) : (max (p + (m.log2 : Int) - ((52 : Nat) : Int)) (-1074) - -1074).toNat = max (m.log2 + (p + 1074).toNat - 52) (-1074 - p).toNat - (-1074 - p).toNat := by omega
theorem eB_ (m : Nat) (p : Int) : cutE (m * 2 ^ (p - max (p + (m.log2 : Int) - ((52 : Nat) : Int)) (-1074)).toNat) (max (p + (m.log2 : Int) - ((52 : Nat) : Int)) (-1074) - p).toNat = cutE (m * 2 ^ (p + 1074).toNat) (max (m.log2 + (p + 1074).toNat - 52) (-1074 - p).toNat) := by
  by_cases hp : p + 1074 ≥ 0
  · by_cases hl : p + (m.log2 : Int) - 52 ≥ -1074
    · by_cases hc : 52 ≤ m.log2
      · have a1 : (p - max (p + (m.log2 : Int) - ((52 : Nat) : Int)) (-1074)).toNat = 0 := by omega
        have a2 : (max (p + (m.log2 : Int) - ((52 : Nat) : Int)) (-1074) - p).toNat = m.log2 - 52 := by omega
        have a3 : max (m.log2 + (p + 1074).toNat - 52) (-1074 - p).toNat = (m.log2 - 52) + (p + 1074).toNat := by omega
        rw [a1, a2, a3, cutE_scale, Nat.pow_zero, Nat.mul_one]
      · have a1 : (p - max (p + (m.log2 : Int) - ((52 : Nat) : Int)) (-1074)).toNat = 52 - m.log2 := by omega
        have a2 : (max (p + (m.log2 : Int) - ((52 : Nat) : Int)) (-1074) - p).toNat = 0 := by omega
        have a4 : max (m.log2 + (p + 1074).toNat - 52) (-1074 - p).toNat = m.log2 + (p + 1074).toNat - 52 := by omega
        have a3 : (p + 1074).toNat = (52 - m.log2) + (m.log2 + (p + 1074).toNat - 52) := by omega
        have a5 : m * 2 ^ (p + 1074).toNat = (m * 2 ^ (52 - m.log2)) * 2 ^ (m.log2 + (p + 1074).toNat - 52) := by
          rw [Nat.mul_assoc, ← Nat.pow_add, ← a3]
        rw [a1, a2, a4, a5, cutE_exact]
        have := cutE_exact (m * 2 ^ (52 - m.log2)) 0
        rw [Nat.pow_zero, Nat.mul_one] at this
        exact this
    · have a1 : (p - max (p + (m.log2 : Int) - ((52 : Nat) : Int)) (-1074)).toNat = (p + 1074).toNat := by omega
      have a2 : (max (p + (m.log2 : Int) - ((52 : Nat) : Int)) (-1074) - p).toNat = 0 := by omega
      have a4 : max (m.log2 + (p + 1074).toNat - 52) (-1074 - p).toNat = 0 := by omega
      rw [a1, a2, a4]
  · have a0 : (p - max (p + (m.log2 : Int) - ((52 : Nat) : Int)) (-1074)).toNat = (p + 1074).toNat := by omega
    have a1 : (max (p + (m.log2 : Int) - ((52 : Nat) : Int)) (-1074) - p).toNat = max (m.log2 + (p + 1074).toNat - 52) (-1074 - p).toNat := by omega
    rw [a0, a1]
theorem nearest_form (m : Nat) (p : Int) (hm : ¬ m = 0) : D.nearest false m p = min ((max (p + (m.log2 : Int) - ((52 : Nat) : Int)) (-1074) - -1074).toNat * 4503599627370496 + cutE (m <<< (p - max (p + (m.log2 : Int) - ((52 : Nat) : Int)) (-1074)).toNat) (max (p + (m.log2 : Int) - ((52 : Nat) : Int)) (-1074) - p).toNat) 9218868437227405312 := by
  unfold Format.nearest
  simp only [if_neg hm, D_least, D_fr, D_binade, D_inf, word_false, cut_even]
/-- The format's own rounding is this one. -/
theorem nearest_eq (m : Nat) (p : Int) : D.nearest false m p = nr (m * 2 ^ (p + 1074).toNat) (-1074 - p).toNat := by
  by_cases hm : m = 0
  · subst hm; rw [Nat.zero_mul, nr_zero]; unfold Format.nearest; rw [if_pos rfl]; rfl
  · have hne : m * 2 ^ (p + 1074).toNat ≠ 0 := by
      have := Nat.mul_pos (Nat.pos_of_ne_zero hm) (Nat.two_pow_pos (p + 1074).toNat); omega
    rw [nearest_form m p hm, Nat.shiftLeft_eq, eB_, eA_]
    unfold nr
    rw [if_neg hne, log2_scale hm]
theorem nearest_rnd (m k : Nat) : D.nearest false m (-1074 + (k : Int)) = rnd (m * 2 ^ k) := by
  rw [nearest_eq]
  have e1 : (-1074 + (k : Int) + 1074).toNat = k := by omega
  have e2 : (-1074 - (-1074 + (k : Int))).toNat = 0 := by omega
  rw [e1, e2]; rfl
end Go.Proofs.Ytddnhjpclglclaa.Fl
