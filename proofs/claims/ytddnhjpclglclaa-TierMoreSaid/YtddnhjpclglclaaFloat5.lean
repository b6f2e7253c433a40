/- Buckets by a grain, and by half of it: the one's are whole ones of the other. -/
import Derived.Test.YtddnhjpclglclaaFloat4
namespace Go.Proofs.Ytddnhjpclglclaa.Fl
open Ieee
theorem M_up {r : Nat} (h : 4503599627370496 ≤ r) : M (r + 4503599627370496) = M r := by
  unfold M
  rw [if_neg (by omega), if_neg (by omega)]
  omega
theorem K_up {r : Nat} (h : 4503599627370496 ≤ r) : K (r + 4503599627370496) = K r + 1 := by
  unfold K
  rw [if_neg (by omega), if_neg (by omega)]
  omega
theorem V_up {r : Nat} (h : 4503599627370496 ≤ r) : V (r + 4503599627370496) = 2 * V r := by
  unfold V
  rw [M_up h, K_up h, Nat.pow_succ]
  generalize 2 ^ K r = P
  rw [← Nat.mul_assoc, Nat.mul_comm (M r * P) 2]
theorem rnd_two {n : Nat} (h : rnd (2 * n) < 9218868437227405312) : V (rnd (2 * n)) = 2 * V (rnd n) := by
  have e52 : (2 : Nat) ^ 52 = 4503599627370496 := by decide
  by_cases h0 : n = 0
  · subst h0; rfl
  by_cases hl : n.log2 < 52
  · have hn : n < 4503599627370496 := by rw [← e52]; exact (Nat.log2_lt h0).1 hl
    have e1 : rnd n = n := by have := rnd_V (r := n) (by omega); rwa [V_sub n hn] at this
    have e2 : V (2 * n) = 2 * n := by
      by_cases hb : 2 * n < 4503599627370496
      · exact V_sub _ hb
      · have := V_norm 0 (2 * n - 4503599627370496) (by omega)
        rw [show (0 + 1) * 4503599627370496 + (2 * n - 4503599627370496) = 2 * n by omega] at this
        rw [this]; omega
    have e3 : rnd (2 * n) = 2 * n := by have := rnd_V (r := 2 * n) (by omega); rwa [e2] at this
    rw [e3, e1, e2, V_sub n hn]
  · have hl2 : (2 * n).log2 = n.log2 + 1 := by
      have := log2_scale h0 1
      rwa [Nat.pow_one, Nat.mul_comm n 2] at this
    have a1 : rnd n = min ((n.log2 - 52) * 4503599627370496 + cutE n (n.log2 - 52)) 9218868437227405312 := by
      unfold rnd nr
      rw [if_neg h0, Nat.max_eq_left (by omega), Nat.sub_zero]
    have a2 : rnd (2 * n) = min ((n.log2 - 52) * 4503599627370496 + cutE n (n.log2 - 52) + 4503599627370496) 9218868437227405312 := by
      unfold rnd nr
      rw [if_neg (by omega), hl2, Nat.max_eq_left (by omega), Nat.sub_zero]
      have := cutE_scale n (n.log2 - 52) 1
      rw [Nat.pow_one, Nat.mul_comm n 2] at this
      have e5 : n.log2 + 1 - 52 = n.log2 - 52 + 1 := by omega
      rw [e5, this]
      have e6 : (n.log2 - 52 + 1) * 4503599627370496 + cutE n (n.log2 - 52) = (n.log2 - 52) * 4503599627370496 + cutE n (n.log2 - 52) + 4503599627370496 := by omega
      rw [e6]
    have hc : 4503599627370496 ≤ cutE n (n.log2 - 52) := by
      refine Nat.le_trans ?_ (cutE_ge n _)
      rw [Nat.le_div_iff_mul_le (Nat.two_pow_pos _), ← e52, ← Nat.pow_add, show 52 + (n.log2 - 52) = n.log2 by omega]
      exact Nat.log2_self_le h0
    have hX : 4503599627370496 ≤ (n.log2 - 52) * 4503599627370496 + cutE n (n.log2 - 52) := by omega
    obtain ⟨X, eX⟩ : ∃ X, X = (n.log2 - 52) * 4503599627370496 + cutE n (n.log2 - 52) := ⟨_, rfl⟩
    rw [← eX] at a1 a2 hX
    clear eX hc
    rw [a2] at h ⊢
    rw [a1]
    have h1 : X + 4503599627370496 < 9218868437227405312 := by omega
    rw [Nat.min_eq_left (Nat.le_of_lt h1), Nat.min_eq_left (show X ≤ 9218868437227405312 by omega)]
    exact V_up hX
theorem pw_lt (a b P : Nat) (h : P - b = a) (h2 : a < P) : 2 ^ (P - b) < 2 ^ P := by rw [h]; exact Nat.pow_lt_pow_right (by decide) h2
theorem pw_le (m e P : Nat) (h : m < 2 ^ 57) (h2 : 57 + e ≤ 45 + P) : m * 2 ^ e ≤ 2 ^ 45 * 2 ^ P := by
  rw [← Nat.pow_add]
  calc m * 2 ^ e ≤ 2 ^ 57 * 2 ^ e := Nat.mul_le_mul_right _ (by omega)
    _ = 2 ^ (57 + e) := (Nat.pow_add _ _ _).symm
    _ ≤ 2 ^ (45 + P) := Nat.pow_le_pow_right (by decide) h2
theorem pw_div (x P : Nat) (h : x ≤ 2 ^ 45 * 2 ^ P) : x / 2 ^ P ≤ 2 ^ 45 :=
  Nat.le_trans (Nat.div_le_div_right h) (Nat.le_of_eq (Nat.mul_div_cancel _ (Nat.two_pow_pos _)))
theorem pw_half (x P : Nat) : 2 * x / 2 ^ P / 2 = x / 2 ^ P := by
  rw [Nat.div_div_eq_div_mul, Nat.mul_comm (2 ^ P) 2, Nat.mul_div_mul_left _ _ (by decide)]
/-- A quotient's floor, by half of a grain and by the grain. -/
theorem half_bk {t h : Nat} (ht : t ≤ 4696837146684686336) (hn : 4503599627370496 ≤ h) (hK : 1000 ≤ K h) (hG : h + 4503599627370496 < 9218868437227405312) :
    ∃ N, N < 9007199254740992 ∧ bk t h = dy N 0 ∧ bk t (h + 4503599627370496) = dy (N / 2) 0 := by
  have key : ∀ (g q N : Nat), g ≠ 9218868437227405312 → D.div t g = some q → q < 9218868437227405312 → V q / 2 ^ 1074 = N → bk t g = dy N 0 := by
    intro g q N h1 h2 h3 h4
    unfold bk
    rw [if_neg h1, h2]
    show D.write ((D.read q).integral .down) = _
    rw [floor_fin h3, h4]
    unfold dy
    rw [Nat.sub_zero]
  have hh : h < 9218868437227405312 := by omega
  have tl : t < 9218868437227405312 := by omega
  have dh := div_fin tl hh (by omega)
  have dG := div_fin tl hG (by omega)
  have sM : M (h + 4503599627370496) = M h := M_up hn
  have sq : qmore t (h + 4503599627370496) = qmore t h := by unfold qmore; rw [sM]
  have sg : qsig t (h + 4503599627370496) = qsig t h := by unfold qsig; rw [sM, sq]
  rw [sg, sq, K_up hn] at dG
  have hm57 : qsig t h < 2 ^ 57 := by
    by_cases h0 : t = 0
    · subst h0; rw [qsig_zero]; exact Nat.two_pow_pos _
    · exact (qsig_bounds (by omega) (by omega)).2.2
  have hqm : 54 ≤ qmore t h := by
    have l1 := (K_of hn).1
    have l2 : (M t).log2 ≤ 52 := by
      by_cases hz : M t = 0
      · rw [hz]; decide
      · have := (Nat.log2_lt hz (k := 53)).2 (by have := @M_lt t; have : (2 : Nat) ^ 53 = 9007199254740992 := by decide
                                                 omega)
        omega
    unfold qmore; omega
  have hKt : K t ≤ 1043 := by unfold K; split <;> omega
  generalize qsig t h = m at *
  generalize qmore t h = qm at *
  by_cases hp : (K t : Int) - ((K h + 1 : Nat) : Int) - (qm : Int) - 1 < -1074
  · -- both lie under one
    have r57 := dy_spec (k := 1) (s := 1017) (by decide)
    have hsmall : ∀ u, V (nr m u) / 2 ^ 1074 = 0 ∧ nr m u < 9218868437227405312 := by
      intro u
      have h1 : nr m u ≤ dy 1 1017 := nr_le_of r57.1 (by
        rw [r57.2, Nat.one_mul]
        have := Nat.two_pow_pos u
        calc m ≤ 2 ^ (1074 - 1017) := by rw [show 1074 - 1017 = 57 by decide]; omega
          _ = 2 ^ (1074 - 1017) * 1 := (Nat.mul_one _).symm
          _ ≤ _ := Nat.mul_le_mul_left _ this)
      refine ⟨Nat.div_eq_of_lt ?_, by have := r57.1; omega⟩
      have h2 := V_le h1
      rw [r57.2, Nat.one_mul] at h2
      exact Nat.lt_of_le_of_lt h2 (pw_lt 57 1017 1074 rfl (by decide))
    rw [nearest_eq, show ((K t : Int) - (K h : Int) - (qm : Int) - 1 + 1074).toNat = 0 by omega, Nat.pow_zero, Nat.mul_one] at dh
    rw [nearest_eq, show ((K t : Int) - ((K h + 1 : Nat) : Int) - (qm : Int) - 1 + 1074).toNat = 0 by omega, Nat.pow_zero, Nat.mul_one] at dG
    exact ⟨0, by decide, key h _ 0 (by omega) dh (hsmall _).2 (hsmall _).1, key _ _ 0 (by omega) dG (hsmall _).2 (hsmall _).1⟩
  · obtain ⟨e, he⟩ : ∃ e : Nat, (K t : Int) - ((K h + 1 : Nat) : Int) - (qm : Int) - 1 = -1074 + (e : Int) := ⟨((K t : Int) - ((K h + 1 : Nat) : Int) - (qm : Int) - 1 + 1074).toNat, by omega⟩
    have he2 : (K t : Int) - (K h : Int) - (qm : Int) - 1 = -1074 + ((e + 1 : Nat) : Int) := by omega
    rw [he, nearest_rnd] at dG
    rw [he2, nearest_rnd, show m * 2 ^ (e + 1) = 2 * (m * 2 ^ e) by rw [Nat.pow_succ, Nat.mul_comm (2 ^ e) 2, Nat.mul_left_comm]] at dh
    have r45 := dy_spec (k := 2 ^ 45) (s := 0) (by decide)
    have hb : rnd (2 * (m * 2 ^ e)) ≤ dy (2 ^ 45) 0 := rnd_le_of r45.1 (by
      rw [r45.2, Nat.sub_zero]
      have h1 : 2 * (m * 2 ^ e) = m * 2 ^ (e + 1) := by rw [Nat.pow_succ, Nat.mul_comm (2 ^ e) 2, Nat.mul_left_comm]
      rw [h1]
      exact pw_le m (e + 1) 1074 hm57 (by omega))
    have hf : rnd (2 * (m * 2 ^ e)) < 9218868437227405312 := by have := r45.1; omega
    have hf2 : rnd (m * 2 ^ e) < 9218868437227405312 := Nat.lt_of_le_of_lt (rnd_mono (by omega)) hf
    have hv := rnd_two hf
    have hN : V (rnd (2 * (m * 2 ^ e))) / 2 ^ 1074 ≤ 2 ^ 45 := by
      have := V_le hb
      rw [r45.2, Nat.sub_zero] at this
      exact pw_div _ 1074 this
    refine ⟨_, Nat.lt_of_le_of_lt hN (by decide), key h _ _ (by omega) dh hf rfl, key _ _ _ (by omega) dG hf2 ?_⟩
    rw [hv]
    exact (pw_half _ 1074).symm
end Go.Proofs.Ytddnhjpclglclaa.Fl
