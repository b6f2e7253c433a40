/- What PointsSeq asks, of points that may be: in plain Lean. -/
import Derived.Test.YtddnhjpclglclaaPartsL
import Derived.Test.YtddnhjpclglclaaPOrd
import Derived.Test.YtddnhjpclglclaaFloat4
namespace Go.Proofs.Ytddnhjpclglclaa
open Go.RowKit Fl Ieee
theorem add_inf {a : Nat} (ha : T a) : D.add a 9218868437227405312 = some 9218868437227405312 := by
  obtain ⟨s, m, i, ra, va, sa, za⟩ := read_T ha
  unfold Format.add
  rw [ra, read_inf]
  rfl
theorem run_add_inf {P : Program} (t : TypeId) {a : Nat} (ha : T a) (w : World) : (binOp .add t (.float .f64 a) (.float .f64 9218868437227405312)).run P w = .ok (.float .f64 9218868437227405312) w :=
  run_float_arith w .add t .f64 a _ _ (add_inf ha)
theorem seq_find {L : List Pt} (hm : mayB L = true) {k : Nat} (hk : k < L.length) : askR (phi_seq (L.getD k default).seq) L = (L.getD k default, 0) := by
  have hM := mayB_true.1 hm
  refine ask_at hm hk (by simp [phi_seq]) fun j h1 h2 => ?_
  have := (hM.lt h1 h2).1
  exact decide_eq_false (by omega)
theorem ask_no {φ : Pt → Bool} {L : List Pt} (hm : mayB L = true) (h : ∀ j, j < L.length → φ (L.getD j default) = false) : askR φ L = (ptZero, 14) := by
  rcases ask_ways (φ := φ) hm with ⟨e, _⟩ | ⟨k, hk, _, e, _⟩
  · exact e
  · rw [h k hk] at e; cases e
theorem seq_none {L : List Pt} (hm : mayB L = true) {k : Nat} (hk : k < L.length) : askR (phi_seq (-(L.getD k default).seq)) L = (ptZero, 14) := by
  have hM := mayB_true.1 hm
  refine ask_no hm fun j hj => ?_
  have h1 := (hM.ok1 hk).1
  have h2 := (hM.ok1 hj).1
  exact decide_eq_false (by omega)
theorem mark_find {L : List Pt} (hm : mayB L = true) {k : Nat} (hk : k < L.length) (he : (L.getD k default).mark.toList.isEmpty = false) : askR (phi_mark (L.getD k default).mark) L = (L.getD k default, 0) := by
  have hM := mayB_true.1 hm
  refine ask_at hm hk (by unfold phi_mark; rw [he, toList_self]; rfl) fun j h1 h2 => ?_
  unfold phi_mark
  rw [he, Bool.not_false, Bool.true_and]
  cases hq : ((L.getD j default).mark.toList == (L.getD k default).mark.toList) with
  | false => rfl
  | true =>
    have e : (L.getD j default).mark = (L.getD k default).mark := toList_inj hq
    have h3 := (hM j h2).2.2 k h1 (by rw [e]; exact he)
    rw [e] at h3
    simp at h3
theorem st_ways {L : List Pt} (hm : mayB L = true) {k : Nat} (hk : k + 1 < L.length) :
    (FloatKind.f64.format.order (L.getD k default).st (L.getD (k + 1) default).st == some .lt) = false ∨
    ((FloatKind.f64.format.order (L.getD k default).st (L.getD (k + 1) default).st == some .lt) = true ∧
      ∃ d q r, (∀ (P : Program) (t : TypeId) (w : World), (binOp .sub t (.float .f64 (L.getD (k + 1) default).st) (.float .f64 (L.getD k default).st)).run P w = .ok (.float .f64 d) w) ∧
        (∀ (P : Program) (t : TypeId) (w : World), (binOp .quo t (.float .f64 d) (.float .f64 4611686018427387904)).run P w = .ok (.float .f64 q) w) ∧
        (∀ (P : Program) (t : TypeId) (w : World), (binOp .add t (.float .f64 (L.getD k default).st) (.float .f64 q)).run P w = .ok (.float .f64 r) w) ∧
        r < 18446744073709551616 ∧
        ((FloatKind.f64.format.order r (L.getD (k + 1) default).st == some .lt) = false ∨ ((FloatKind.f64.format.order r (L.getD (k + 1) default).st == some .lt) = true ∧ askR (phi_at r) L = (L.getD k default, 0)))) := by
  have hM := mayB_true.1 hm
  have hk0 : k < L.length := by omega
  obtain ⟨n1, t1, k1⟩ := ok1_nn (hM.ok1 hk0)
  obtain ⟨n2, t2, k2⟩ := ok1_nn (hM.ok1 hk)
  have hz := (hM.ok1 hk0).2.2.1
  have hbig : ∀ j, k < j → j < L.length → (L.getD (k + 1) default).st ≤ key (L.getD j default).st := by
    intro j h1 h2
    by_cases e : j = k + 1
    · subst e; rw [k2]; exact Nat.le_refl _
    · have := (hM.lt (show k + 1 < j by omega) h2).2
      rw [k2] at this; exact this
  have hphi : ∀ r, NN r → (L.getD k default).st ≤ key r → key r < (L.getD (k + 1) default).st → askR (phi_at r) L = (L.getD k default, 0) := by
    intro r hr h1 h2
    have hw : r < 18446744073709551616 := key_wf hr
    refine ask_at hm hk0 ((phi_iff n1 hw).2 ⟨hr, by rw [k1]; exact h1⟩) fun j h3 h4 => ?_
    rw [Bool.eq_false_iff]
    intro h5
    have := (phi_iff (hM.nn h4) hw).1 h5
    have := hbig j h3 h4
    omega
  rw [f_lss n1 n2, k1, k2]
  by_cases hlt : (L.getD k default).st < (L.getD (k + 1) default).st
  · refine .inr ⟨decide_eq_true hlt, ?_⟩
    generalize (L.getD k default).st = s at *
    generalize (L.getD (k + 1) default).st = s' at *
    have l1 : s' < 9218868437227405312 := by have := key_lt t2; omega
    have hd : rnd (tv s' - tv s) ≤ s' := rnd_le_of l1 (by unfold tv; rw [k2]; omega)
    have hdT : T (rnd (tv s' - tv s)) := T_lt (by omega)
    obtain ⟨q, hq, hqn⟩ := div_nn (g := 4611686018427387904) hdT (.inl (by decide)) (by decide) (by decide)
    refine ⟨rnd (tv s' - tv s), q, ?_⟩
    by_cases hqi : q = 9218868437227405312
    · subst hqi
      refine ⟨9218868437227405312, fun P t w => run_sub w t t2 t1 (by rw [k1, k2]; exact hlt), fun P t w => run_quo t hq w, fun P t w => run_add_inf t t1 w, by decide, .inl ?_⟩
      rw [f_lss (.inl (by decide)) n2, key_of_le (Nat.le_refl _)]
      exact decide_eq_false (by omega)
    · have hqT : T q := nn_T hqn (by have := key_le hqn; have : key q ≠ 9218868437227405312 := (by unfold key; split <;> omega); omega)
      have hnr : NN (rnd (tv s + tv q)) := .inl (rnd_le _)
      have hkr : key (rnd (tv s + tv q)) = rnd (tv s + tv q) := key_of_le (rnd_le _)
      refine ⟨rnd (tv s + tv q), fun P t w => run_sub w t t2 t1 (by rw [k1, k2]; exact hlt), fun P t w => run_quo t hq w, fun P t w => run_add w t t1 hqT hz, key_wf hnr, ?_⟩
      rw [f_lss hnr n2, k2, hkr]
      by_cases h : rnd (tv s + tv q) < s'
      · refine .inr ⟨decide_eq_true h, hphi _ hnr ?_ (by rw [hkr]; exact h)⟩
        rw [hkr]
        exact rnd_ge (by omega) (by unfold tv; rw [k1]; omega)
      · exact .inl (decide_eq_false h)
  · exact .inl (decide_eq_false hlt)
end Go.Proofs.Ytddnhjpclglclaa
