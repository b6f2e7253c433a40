/- Points cut in two, in plain numbers. -/
import Derived.Test.YtddnhjpclglclaaPtsL
namespace Go.Proofs.Ytddnhjpclglclaa
open Fl

theorem getD_take {L : List Pt} {k i : Nat} (hi : i < k) : (L.take k).getD i default = L.getD i default := by
  rw [List.getD_eq_getElem?_getD, List.getD_eq_getElem?_getD, List.getElem?_take_of_lt hi]
theorem getD_drop {L : List Pt} {k i : Nat} : (L.drop k).getD i default = L.getD (k + i) default := by
  rw [List.getD_eq_getElem?_getD, List.getD_eq_getElem?_getD, List.getElem?_drop]
theorem MayP.take {L : List Pt} (h : MayP L) {k : Nat} (hk : k ≤ L.length) : MayP (L.take k) := by
  intro i hi
  have hik : i < k := by simp at hi; omega
  obtain ⟨h1, h2, h3⟩ := h i (by omega)
  refine ⟨by rw [getD_take hik]; exact h1, fun h0 => ?_, fun j hj => ?_⟩
  · rw [getD_take hik, getD_take (by omega)]; exact h2 h0
  · unfold ok3; rw [getD_take hik, getD_take (by omega)]; exact h3 j hj
theorem MayP.drop {L : List Pt} (h : MayP L) {k : Nat} (hk : k ≤ L.length) : MayP (L.drop k) := by
  intro i hi
  have hik : k + i < L.length := by simp at hi; omega
  obtain ⟨h1, h2, h3⟩ := h (k + i) hik
  refine ⟨by rw [getD_drop]; exact h1, fun h0 => ?_, fun j hj => ?_⟩
  · rw [getD_drop, getD_drop]
    have := h2 (by omega)
    rw [show k + i - 1 = k + (i - 1) by omega] at this; exact this
  · unfold ok3; rw [getD_drop, getD_drop]; exact h3 (k + j) (by omega)

theorem ask_refl {L : List Pt} {φ : Pt → Bool} {p : Pt} (hm : mayB L = true) (h : askR φ L = (p, 0)) : (FloatKind.f64.format.order p.st p.st == some .eq) = true := by
  rcases ask_ways (φ := φ) hm with ⟨e, _⟩ | ⟨k, hk, e, _, _⟩
  · rw [h] at e; simp at e
  · rw [h] at e
    obtain rfl : p = L.getD k default := by simpa using congrArg Prod.fst e
    have hn := (mayB_true.1 hm).nn hk
    rw [f_eql hn hn]; exact decide_eq_true rfl
/-- The three answers: of all, of the first k, of the others. -/
theorem parts_ways {L : List Pt} (φ : Pt → Bool) (hm : mayB L = true) {k : Nat} (hk : k ≤ L.length) :
    mayB (L.take k) = true ∧ mayB (L.drop k) = true ∧
    ((∃ p, askR φ L = (p, 0) ∧ askR φ (L.drop k) = (p, 0) ∧ ((∃ z, askR φ (L.take k) = (z, 14)) ∨ ∃ q, askR φ (L.take k) = (q, 0) ∧ decide (p.seq < q.seq) = false)) ∨
     (∃ q z, askR φ L = (q, 0) ∧ askR φ (L.drop k) = (z, 14) ∧ askR φ (L.take k) = (q, 0)) ∨
     (∃ x y z, askR φ L = (x, 14) ∧ askR φ (L.drop k) = (y, 14) ∧ askR φ (L.take k) = (z, 14))) := by
  have hM := mayB_true.1 hm
  have m1 : mayB (L.take k) = true := mayB_true.2 (hM.take hk)
  have m2 : mayB (L.drop k) = true := mayB_true.2 (hM.drop hk)
  refine ⟨m1, m2, ?_⟩
  have hr : L.reverse.find? φ = ((L.drop k).reverse.find? φ).or ((L.take k).reverse.find? φ) := by
    rw [← List.find?_append, ← List.reverse_append, List.take_append_drop]
  cases hc : (L.drop k).reverse.find? φ with
  | some p =>
    left
    rw [hc, Option.some_or] at hr
    refine ⟨p, by simp [askR, hm, hr], by simp [askR, m2, hc], ?_⟩
    cases hb : (L.take k).reverse.find? φ with
    | none => left; exact ⟨ptZero, by simp [askR, m1, hb]⟩
    | some q =>
      right
      refine ⟨q, by simp [askR, m1, hb], decide_eq_false ?_⟩
      obtain ⟨i, h1, rfl, _⟩ := lastOf_inv hc
      obtain ⟨j, h2, rfl, _⟩ := lastOf_inv hb
      have h1' : k + i < L.length := by simp at h1; omega
      have h2' : j < k := by simp at h2; omega
      rw [getD_drop, getD_take h2']
      have := (hM.lt (show j < k + i by omega) h1').1
      omega
  | none =>
    rw [hc, Option.none_or] at hr
    cases hb : (L.take k).reverse.find? φ with
    | none => right; right; exact ⟨ptZero, ptZero, ptZero, by simp [askR, hm, hr, hb], by simp [askR, m2, hc], by simp [askR, m1, hb]⟩
    | some q => right; left; exact ⟨q, ptZero, by simp [askR, hm, hr, hb], by simp [askR, m2, hc], by simp [askR, m1, hb]⟩
end Go.Proofs.Ytddnhjpclglclaa
