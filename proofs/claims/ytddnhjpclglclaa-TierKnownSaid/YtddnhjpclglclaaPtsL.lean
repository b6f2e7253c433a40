/- The points' answers, in plain numbers: what the laws of layer 18 need. -/
import Derived.Test.YtddnhjpclglclaaSame
namespace Go.Proofs.Ytddnhjpclglclaa
open Fl Ieee

theorem int_compare_swap (x y : Int) : compare y x = (compare x y).swap := by
  simp only [compare, compareOfLessAndEq]
  rcases Int.lt_trichotomy x y with h | h | h
  · rw [if_neg (by omega), if_neg (by omega), if_pos h]; rfl
  · subst h; rw [if_neg (by omega), if_pos rfl]; rfl
  · rw [if_pos h, if_neg (by omega), if_neg (by omega)]; rfl
theorem datum_swap (x y : Datum) : y.order x = (x.order y).map Ordering.swap := by
  cases x <;> cases y <;> simp [Datum.order]
  · rw [Int.min_comm]; exact int_compare_swap _ _
  · split <;> rfl
  · split <;> rfl
  · rename_i a b; cases a <;> cases b <;> rfl
theorem order_swap (a b : Nat) : D.order b a = (D.order a b).map Ordering.swap := datum_swap _ _
theorem f_leq_bad {a b : Nat} (ha : NN a) (hb : b < 18446744073709551616) (h : ¬ NN b) : (FloatKind.f64.format.order a b == some .lt || FloatKind.f64.format.order a b == some .eq) = false := by
  have := not_nn_any hb h ha
  have e := order_swap b a
  show (D.order a b == some .lt || D.order a b == some .eq) = false
  rw [e]
  cases hq : D.order b a with
  | none => rfl
  | some o => rw [hq] at this; cases o <;> simp_all

theorem phi_iff {t : Nat} {p : Pt} (hp : NN p.st) (ht : t < 18446744073709551616) : phi_at t p = true ↔ NN t ∧ key p.st ≤ key t := by
  unfold phi_at
  by_cases h : NN t
  · rw [f_leq hp h]; simp [h]
  · rw [f_leq_bad hp ht h]; simp [h]

/-! ### Points that may be -/
theorem MayP.ok1 {L : List Pt} (h : MayP L) {i : Nat} (hi : i < L.length) : ok1 (L.getD i default) := (h i hi).1
theorem MayP.nn {L : List Pt} (h : MayP L) {i : Nat} (hi : i < L.length) : NN (L.getD i default).st := (h.ok1 hi).2.1.nn
theorem MayP.lt {L : List Pt} (h : MayP L) {i j : Nat} (hij : i < j) (hj : j < L.length) : (L.getD i default).seq < (L.getD j default).seq ∧ key (L.getD i default).st ≤ key (L.getD j default).st := by
  induction j with
  | zero => omega
  | succ j ih =>
    have h2 := (h (j + 1) hj).2.1 (by omega)
    rw [Nat.add_sub_cancel] at h2
    by_cases e : i = j
    · subst e; exact h2
    · have := ih (by omega) (by omega); omega
theorem MayP.inj {L : List Pt} (h : MayP L) {i j : Nat} (hi : i < L.length) (hj : j < L.length) (e : (L.getD i default).seq = (L.getD j default).seq) : i = j := by
  rcases Nat.lt_trichotomy i j with k | k | k
  · have := (h.lt k hj).1; omega
  · exact k
  · have := (h.lt k hi).1; omega

/-! ### The last that passes -/
theorem lastOf_inv {φ : Pt → Bool} {L : List Pt} {p : Pt} (h : L.reverse.find? φ = some p) : ∃ k, k < L.length ∧ L.getD k default = p ∧ φ p = true ∧ ∀ j, k < j → j < L.length → φ (L.getD j default) = false := by
  obtain ⟨hp, xs, ys, e, hall⟩ := List.find?_eq_some_iff_append.1 h
  have e' : L = ys.reverse ++ p :: xs.reverse := by
    have := congrArg List.reverse e
    simpa using this
  have hl : L.length = ys.length + 1 + xs.length := by rw [e']; simp; omega
  refine ⟨ys.length, by omega, ?_, hp, fun j h1 h2 => ?_⟩
  · rw [List.getD_eq_getElem?_getD, e', List.getElem?_append_right (by simp)]; simp
  · obtain ⟨i, rfl⟩ : ∃ i, j = ys.length + 1 + i := ⟨j - (ys.length + 1), by omega⟩
    have hi : i < xs.reverse.length := by simp; omega
    have : L.getD (ys.length + 1 + i) default = xs.reverse[i] := by
      rw [List.getD_eq_getElem?_getD, e', List.getElem?_append_right (by simp; omega)]
      simp only [List.length_reverse]
      rw [show ys.length + 1 + i - ys.length = i + 1 by omega, List.getElem?_cons_succ, List.getElem?_eq_getElem hi]; rfl
    rw [this]
    have := hall _ (List.mem_reverse.1 (List.getElem_mem hi))
    simpa using this
theorem lastOf_none_inv {φ : Pt → Bool} {L : List Pt} (h : L.reverse.find? φ = none) : ∀ j, j < L.length → φ (L.getD j default) = false := by
  intro j hj
  rw [List.find?_eq_none] at h
  have := h (L.getD j default) (by rw [getD_el hj]; simp)
  simpa using this

/-- What an answer is, at points that may be. -/
theorem ask_ways {φ : Pt → Bool} {L : List Pt} (hm : mayB L = true) :
    (askR φ L = (ptZero, 14) ∧ ∀ j, j < L.length → φ (L.getD j default) = false) ∨
    ∃ k, k < L.length ∧ askR φ L = (L.getD k default, 0) ∧ φ (L.getD k default) = true ∧ ∀ j, k < j → j < L.length → φ (L.getD j default) = false := by
  cases h : L.reverse.find? φ with
  | none => left; exact ⟨by simp [askR, hm, h], lastOf_none_inv h⟩
  | some p =>
    right
    obtain ⟨k, h1, rfl, h3, h4⟩ := lastOf_inv h
    exact ⟨k, h1, by simp [askR, hm, h], h3, h4⟩
theorem ask_at {φ : Pt → Bool} {L : List Pt} (hm : mayB L = true) {k : Nat} (hk : k < L.length) (hx : φ (L.getD k default) = true) (h : ∀ j, k < j → j < L.length → φ (L.getD j default) = false) : askR φ L = (L.getD k default, 0) := by
  simp [askR, hm, lastOf_at hk hx h]

/-- Points and themselves. -/
theorem same_self {L : List Pt} (h : mayB L = true) : sameB L L = true := by
  rw [sameB_true]
  refine ⟨rfl, fun k hk => ?_⟩
  have hn := (mayB_true.1 h).nn hk
  unfold oneB fsame
  rw [f_eql hn hn]
  simp
theorem same_tail {L : List Pt} (h : 0 < L.length) : sameB L L.tail = false := by
  rw [sameB_false]
  intro k
  have := k.1
  simp at this; omega
end Go.Proofs.Ytddnhjpclglclaa
