/- A finer grain, no tiers, a policy that begins later: what they keep, in plain Lean. -/
import Derived.Test.YtddnhjpclglclaaAgainL
import Derived.Test.YtddnhjpclglclaaFloat5
namespace Go.Proofs.Ytddnhjpclglclaa
open Go.RowKit Fl
theorem filter_mono {p q : Nat → Bool} (h : ∀ i, p i = true → q i = true) : ∀ l : List Nat, (l.filter p).length ≤ (l.filter q).length
  | [] => Nat.le_refl _
  | x :: l => by
    have ih := filter_mono h l
    rw [List.filter_cons, List.filter_cons]
    cases hp : p x
    · rw [if_neg (by decide)]
      split
      · simp only [List.length_cons]; omega
      · exact ih
    · rw [if_pos rfl, if_pos (h x hp)]
      simp only [List.length_cons]; omega
theorem kept_mono {S S' : List Tr} {now : Nat} {L : List Pt} (h : ∀ i, i < L.length → stayB S now L i = true → stayB S' now L i = true) : (kept S now L L.length).length ≤ (kept S' now L L.length).length := by
  unfold kept
  rw [List.length_map, List.length_map]
  have e : ∀ (s : Nat → Bool), (List.range L.length).filter s = (List.range L.length).filter fun i => decide (i < L.length) && s i := fun s => by
    refine List.filter_congr fun i hi => ?_
    rw [decide_eq_true (List.mem_range.1 hi), Bool.true_and]
  rw [e (stayB S now L), e (stayB S' now L)]
  refine filter_mono (fun i hi => ?_) _
  simp only [Bool.and_eq_true, decide_eq_true_eq] at hi ⊢
  exact ⟨hi.1, h i hi.1 hi.2⟩
theorem stay_mono {S S' : List Tr} {now : Nat} {L : List Pt} {i : Nat} (h1 : tix S now (L.getD i default) ≠ -1) (h2 : tix S' now (L.getD i default) = -1 ∨ ∀ j, j < L.length → clash S' now (L.getD i default) (L.getD j default) = true → clash S now (L.getD i default) (L.getD j default) = true)
    (h : stayB S now L i = true) : stayB S' now L i = true := by
  rcases h2 with h2 | h2
  · exact stay_none rfl h2
  · by_cases e1 : i + 1 = L.length
    · exact stay_last e1
    · cases e2 : (L.getD i default).mark.toList.isEmpty
      · exact stay_mark rfl e2
      · refine stay_free rfl fun j hj hjl => ?_
        cases hc : clash S' now (L.getD i default) (L.getD j default)
        · rfl
        · rw [stay_not rfl e1 e2 h1 hj hjl (h2 j hjl hc)] at h
          cases h
theorem pol_one {a g : Nat} (ha : NN a) (hg : NN g) (h0 : 0 < key g) : PolP [⟨a, g⟩] := by
  refine ⟨by simp, fun i hi => ?_⟩
  obtain rfl : i = 0 := by simp at hi; omega
  exact ⟨ha, hg, h0, fun h => by omega⟩
theorem tix_zero {now g : Nat} {p : Pt} : tix [⟨0, g⟩] now p = 0 := by
  have n := ageOf_nn now p.st
  refine ofI_eq (.inr ⟨0, by simp, rfl, ?_, fun j h1 h2 => by simp at h2; omega⟩)
  show leB 0 (ageOf now p.st) = true
  unfold leB
  rw [f_leq nn_zero n.1, key_zero]
  exact decide_eq_true (Nat.zero_le _)
theorem tix_one (a g now : Nat) (p : Pt) : tix [⟨a, g⟩] now p = -1 ∨ tix [⟨a, g⟩] now p = 0 := by
  rcases ofI_is [⟨a, g⟩] (ageOf now p.st) with ⟨e, _⟩ | ⟨k, hk, e, _⟩
  · exact .inl e
  · obtain rfl : k = 0 := by simp at hk; omega
    exact .inr e
theorem tix_nil (now : Nat) (p : Pt) : tix [] now p = -1 := ofI_eq (.inl ⟨rfl, fun j hj => by simp at hj⟩)
theorem pw_two (n P b : Nat) (h : P - b + 1 = P) : n * 2 ^ P = 2 * (n * 2 ^ (P - b)) := by
  generalize P - b = Q at h ⊢
  subst h
  rw [Nat.pow_succ, Nat.mul_comm (2 ^ Q) 2, Nat.mul_left_comm]
theorem grain_up {n : Nat} (h0 : 0 < n) (hn : n ≤ 1000) : dy n 0 = dy n 1 + 4503599627370496 ∧ 4503599627370496 ≤ dy n 1 ∧ 1000 ≤ K (dy n 1) ∧ dy n 1 + 4503599627370496 < 9218868437227405312 := by
  have s0 := dy_spec (k := n) (s := 0) (by omega)
  have s1 := dy_spec (k := n) (s := 1) (by omega)
  have hb := dy_norm (k := n) (s := 1) h0 (by omega) (by omega)
  have e : V (dy n 0) = V (dy n 1 + 4503599627370496) := by
    rw [V_up hb, s0.2, s1.2, Nat.sub_zero]
    exact pw_two n 1074 1 (by decide)
  have e' := V_inj e
  have h1 : dy 1 1 = 4602678819172646912 := by decide +kernel
  have h2 : dy 1 1 ≤ dy n 1 := (dy_le (by omega) (by omega)).2 h0
  refine ⟨e', hb, ?_, by rw [← e']; exact s0.1⟩
  unfold K
  rw [if_neg (by omega)]
  omega
theorem clash_half {H p q : Nat} (si : p ≤ 4696837146684686336) (sj : q ≤ 4696837146684686336) (g2 : 4503599627370496 ≤ H) (g3 : 1000 ≤ K H) (g4 : H + 4503599627370496 < 9218868437227405312) (h : fsame (bk p H) (bk q H) = true) : fsame (bk p (H + 4503599627370496)) (bk q (H + 4503599627370496)) = true := by
  obtain ⟨N, hN, b1, b2⟩ := half_bk (h := H) si g2 g3 g4
  obtain ⟨N', hN', b3, b4⟩ := half_bk (h := H) sj g2 g3 g4
  rw [b1, b3, fsame_nn (dy_T hN).nn (dy_T hN').nn, key_dy hN, key_dy hN'] at h
  have he := (dy_inj hN hN').1 (of_decide_eq_true h)
  rw [b2, b4, he, fsame_nn (dy_T (by omega)).nn (dy_T (by omega)).nn]
  exact decide_eq_true rfl
/-- What the law asks of the four thinnings. -/
theorem more_core {now : Nat} {L : List Pt} {G H : Nat} (e : G = H + 4503599627370496) (nG : NN G) (kG : 0 < key G) (nH : NN H) (kH : 0 < key H) (g2 : 4503599627370496 ≤ H) (g3 : 1000 ≤ K H) (g4 : H + 4503599627370496 < 9218868437227405312) (hnow : T now) (hm : MayP L) (hst : ∀ i, i < L.length → key (L.getD i default).st ≤ 4696837146684686336) :
    ∃ A B C, keepR [⟨0, G⟩] now L = (A, 0) ∧ keepR [⟨0, H⟩] now L = (B, 0) ∧ keepR [⟨4613937818241073152, G⟩] now L = (C, 0) ∧ keepR [] now L = (L, 0) ∧ A.length ≤ B.length ∧ A.length ≤ C.length := by
  have hr : ∀ S, PolP S → keepR S now L = (kept S now L L.length, 0) := fun S hS => by
    unfold keepR
    rw [polB_true.2 hS, tmay_iff.2 hnow, mayB_true.2 hm]; rfl
  have p3 : NN 4613937818241073152 := .inl (by decide)
  refine ⟨_, _, _, hr _ (pol_one nn_zero nG kG), hr _ (pol_one nn_zero nH kH), hr _ (pol_one p3 nG kG), ?_, kept_mono fun i hi h => stay_mono (by rw [tix_zero]; decide) (.inr fun j hj hc => ?_) h, kept_mono fun i hi h => stay_mono (by rw [tix_zero]; decide) ?_ h⟩
  · have := hr [] ⟨by simp, fun i hi => by simp at hi⟩
    rw [this, kept_rec]
    have : ∀ M : List Pt, keepRec [] now M = M := by
      intro M
      induction M with
      | nil => rfl
      | cons p M ih => rw [keepRec, if_pos (by unfold stayP; rw [tix_nil]; simp), ih]
    rw [this]
  · unfold clash at hc ⊢
    rw [tix_zero, tix_zero] at hc ⊢
    simp only [Bool.and_eq_true] at hc ⊢
    refine ⟨hc.1, ?_⟩
    have hc2 := hc.2
    have si := hst i hi
    have sj := hst j hj
    rw [(ok1_nn (hm.ok1 hi)).2.2] at si
    rw [(ok1_nn (hm.ok1 hj)).2.2] at sj
    have := clash_half si sj g2 g3 g4 hc2
    rw [← e] at this
    exact this
  · rcases tix_one 4613937818241073152 G now (L.getD i default) with e | e
    · exact .inl e
    · refine .inr fun j hj hc => ?_
      unfold clash at hc ⊢
      rw [e] at hc
      rw [tix_zero, tix_zero]
      simp only [Bool.and_eq_true] at hc ⊢
      exact ⟨rfl, hc.2⟩
theorem more_ways {now : Nat} {L : List Pt} {n : Nat} (h0 : 0 < n) (hn : n ≤ 1000) (hnow : T now) (hm : MayP L) (hst : ∀ i, i < L.length → key (L.getD i default).st ≤ 4696837146684686336) :
    ∃ A B C, keepR [⟨0, dy n 0⟩] now L = (A, 0) ∧ keepR [⟨0, dy n 1⟩] now L = (B, 0) ∧ keepR [⟨4613937818241073152, dy n 0⟩] now L = (C, 0) ∧ keepR [] now L = (L, 0) ∧ A.length ≤ B.length ∧ A.length ≤ C.length := by
  have k0 := key_dy (k := n) (s := 0) (by omega)
  have k1 := key_dy (k := n) (s := 1) (by omega)
  have n0 := (dy_T (k := n) (s := 0) (by omega)).nn
  have n1 := (dy_T (k := n) (s := 1) (by omega)).nn
  obtain ⟨g1, g2, g3, g4⟩ := grain_up h0 hn
  exact more_core g1 n0 (by rw [k0]; omega) n1 (by rw [k1]; omega) g2 g3 g4 hnow hm hst
end Go.Proofs.Ytddnhjpclglclaa
