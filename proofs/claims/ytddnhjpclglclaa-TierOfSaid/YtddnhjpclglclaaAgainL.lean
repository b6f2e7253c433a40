/- A thinning again, a sublist of points that may be: in plain Lean. -/
import Derived.Test.YtddnhjpclglclaaRKeep
namespace Go.Proofs.Ytddnhjpclglclaa
open Go.RowKit Fl
def Rel (a b : Pt) : Prop := a.seq < b.seq ∧ key a.st ≤ key b.st ∧ (b.mark.toList.isEmpty = false → (a.mark.toList == b.mark.toList) = false)
theorem may_iff {L : List Pt} : MayP L ↔ (∀ p ∈ L, ok1 p) ∧ L.Pairwise Rel := by
  constructor
  · intro h
    refine ⟨fun p hp => ?_, List.pairwise_iff_getElem.2 fun i j hi hj hij => ?_⟩
    · obtain ⟨i, hi, rfl⟩ := List.mem_iff_getElem.1 hp
      have := h.ok1 hi
      rwa [getD_el hi] at this
    · have h1 := h.lt hij hj
      have h2 := (h j hj).2.2 i hij
      unfold ok3 at h2
      rw [getD_el hi, getD_el hj] at h1 h2
      exact ⟨h1.1, h1.2, h2⟩
  · rintro ⟨h1, h2⟩ i hi
    have hp := List.pairwise_iff_getElem.1 h2
    refine ⟨by rw [getD_el hi]; exact h1 _ (List.getElem_mem _), fun h0 => ?_, fun j hj => ?_⟩
    · have := hp (i - 1) i (by omega) hi (by omega)
      rw [getD_el hi, getD_el (by omega)]
      exact ⟨this.1, this.2.1⟩
    · have := hp j i (by omega) hi hj
      unfold ok3
      rw [getD_el hi, getD_el (by omega)]
      exact this.2.2
theorem may_sub {L K : List Pt} (h : MayP L) (hs : K.Sublist L) : MayP K := by
  obtain ⟨h1, h2⟩ := may_iff.1 h
  exact may_iff.2 ⟨fun p hp => h1 p (hs.subset hp), h2.sublist hs⟩

/-! ### The thinning, from the head -/
noncomputable def stayP (T : List Tr) (now : Nat) (p : Pt) (rest : List Pt) : Bool := rest.isEmpty || !(p.mark.toList.isEmpty) || decide (tix T now p = -1) || rest.all fun q => !clash T now p q
noncomputable def keepRec (T : List Tr) (now : Nat) : List Pt → List Pt
  | [] => []
  | p :: rest => if stayP T now p rest then p :: keepRec T now rest else keepRec T now rest
theorem stay_zero (T : List Tr) (now : Nat) (p : Pt) (rest : List Pt) : stayB T now (p :: rest) 0 = stayP T now p rest := by
  unfold stayB stayP
  cases rest <;> simp
theorem stay_succ (T : List Tr) (now : Nat) (p : Pt) (rest : List Pt) (i : Nat) : stayB T now (p :: rest) (i + 1) = stayB T now rest i := by
  unfold stayB
  simp
theorem kept_rec (T : List Tr) (now : Nat) : ∀ L : List Pt, kept T now L L.length = keepRec T now L
  | [] => rfl
  | p :: rest => by
    have ih := kept_rec T now rest
    unfold kept at ih ⊢
    rw [List.length_cons, List.range_succ_eq_map, List.filter_cons, List.filter_map, keepRec, stay_zero]
    have e1 : (stayB T now (p :: rest) ∘ Nat.succ) = stayB T now rest := by
      funext i; exact stay_succ T now p rest i
    rw [e1]
    cases stayP T now p rest
    · rw [if_neg (by decide), if_neg (by decide), ← ih, List.map_map]
      congr 1
    · rw [if_pos rfl, if_pos rfl, ← ih, List.map_cons, List.map_map]
      congr 1
theorem keepRec_sub (T : List Tr) (now : Nat) : ∀ L : List Pt, (keepRec T now L).Sublist L
  | [] => List.Sublist.refl _
  | p :: rest => by
    rw [keepRec]
    split
    · exact (keepRec_sub T now rest).cons_cons p
    · exact (keepRec_sub T now rest).cons p
theorem stayP_sub {T : List Tr} {now : Nat} {p : Pt} {rest K : List Pt} (h : stayP T now p rest = true) (hs : K.Sublist rest) : stayP T now p K = true := by
  unfold stayP at h ⊢
  simp only [Bool.or_eq_true] at h ⊢
  rcases h with ((h | h) | h) | h
  · have : rest = [] := by simpa using h
    subst this
    have : K = [] := by simpa using hs
    subst this
    exact .inl (.inl (.inl rfl))
  · exact .inl (.inl (.inr h))
  · exact .inl (.inr h)
  · rw [List.all_eq_true] at h
    exact .inr (List.all_eq_true.2 fun q hq => h q (hs.subset hq))
theorem keepRec_idem (T : List Tr) (now : Nat) : ∀ L : List Pt, keepRec T now (keepRec T now L) = keepRec T now L
  | [] => rfl
  | p :: rest => by
    rw [keepRec]
    split
    · rename_i h
      rw [keepRec, if_pos (stayP_sub h (keepRec_sub T now rest)), keepRec_idem T now rest]
    · exact keepRec_idem T now rest
theorem keepR_again {T : List Tr} {now : Nat} {L K : List Pt} (h : keepR T now L = (K, 0)) : keepR T now K = (K, 0) ∧ K = kept T now L L.length ∧ MayP L ∧ MayP K := by
  unfold keepR at h
  cases h1 : polB T <;> rw [h1] at h
  · simp at h
  cases h2 : tmay now <;> rw [h2] at h
  · simp at h
  cases h3 : mayB L <;> rw [h3] at h
  · simp at h
  obtain rfl : kept T now L L.length = K := by simpa using h
  have hs : (kept T now L L.length).Sublist L := by rw [kept_rec]; exact keepRec_sub T now L
  have hm := mayB_true.1 h3
  have hk := may_sub hm hs
  refine ⟨?_, rfl, hm, hk⟩
  unfold keepR
  rw [h1, h2, mayB_true.2 hk, kept_rec, kept_rec, keepRec_idem]
  rfl
theorem keepR_fail {T : List Tr} {now : Nat} {L : List Pt} (h : (keepR T now L).2 ≠ 0) : (keepR T now L).1 = [] ∧ ((keepR T now L).2 = 1 ∨ (keepR T now L).2 = 16) := by
  unfold keepR at h ⊢
  split
  · split
    · rename_i h1 h2; rw [if_pos h1, if_pos h2] at h; exact absurd rfl h
    · exact ⟨rfl, .inl rfl⟩
  · exact ⟨rfl, .inr rfl⟩

/-! ### One behind another, what stays is met -/
theorem kept_split (T : List Tr) (now : Nat) (L : List Pt) (i : Nat) : ∀ n, ∃ R, kept T now L (i + n) = kept T now L i ++ R ∧ ∀ p ∈ R, ∃ j, i ≤ j ∧ j < i + n ∧ p = L.getD j default
  | 0 => ⟨[], by simp, fun p hp => by simp at hp⟩
  | n + 1 => by
    obtain ⟨R, h1, h2⟩ := kept_split T now L i n
    cases h : stayB T now L (i + n)
    · exact ⟨R, by rw [show i + (n + 1) = i + n + 1 by omega, kept_no h, h1], fun p hp => by
        obtain ⟨j, h3, h4, h5⟩ := h2 p hp
        exact ⟨j, h3, by omega, h5⟩⟩
    · refine ⟨R ++ [L.getD (i + n) default], by rw [show i + (n + 1) = i + n + 1 by omega, kept_yes h, h1, List.append_assoc], fun p hp => ?_⟩
      rcases List.mem_append.1 hp with hp | hp
      · obtain ⟨j, h3, h4, h5⟩ := h2 p hp
        exact ⟨j, h3, by omega, h5⟩
      · exact ⟨i + n, by omega, by omega, by simpa using hp⟩
theorem again_ways {T : List Tr} {now : Nat} {L : List Pt} (hm : MayP L) {i : Nat} (hi : i < L.length) :
    ((kept T now L i).length < (kept T now L L.length).length) ∧
    ((stayB T now L i = true ∧ (kept T now L L.length).getD (kept T now L i).length default = L.getD i default ∧ (kept T now L (i + 1)).length = (kept T now L i).length + 1) ∨
     (((kept T now L L.length).getD (kept T now L i).length default).seq ≠ (L.getD i default).seq ∧ (L.getD i default).mark.toList.isEmpty = true ∧ i + 1 ≠ L.length ∧ (kept T now L (i + 1)).length = (kept T now L i).length)) := by
  have hsplit := kept_split T now L (i + 1) (L.length - (i + 1))
  rw [show i + 1 + (L.length - (i + 1)) = L.length by omega] at hsplit
  obtain ⟨R, h1, h2⟩ := hsplit
  cases h : stayB T now L i
  · have hne : i + 1 ≠ L.length := fun e => by rw [stay_last e] at h; cases h
    have hmk : (L.getD i default).mark.toList.isEmpty = true := by
      cases hq : (L.getD i default).mark.toList.isEmpty
      · rw [stay_mark rfl hq] at h; cases h
      · rfl
    rw [kept_no h] at h1
    -- the last one stays, so there is one behind
    have hlast := kept_yes (T := T) (now := now) (L := L) (k := L.length - 1) (stay_last (by omega))
    rw [show L.length - 1 + 1 = L.length by omega] at hlast
    have hR : R ≠ [] := by
      intro e
      subst e
      rw [List.append_nil] at h1
      obtain ⟨R2, h3, _⟩ := kept_split T now L i (L.length - 1 - i)
      rw [show i + (L.length - 1 - i) = L.length - 1 by omega] at h3
      have e1 := congrArg List.length h1
      have e2 := congrArg List.length hlast
      have e3 := congrArg List.length h3
      simp at e2 e3
      omega
    obtain ⟨r, R', rfl⟩ := List.exists_cons_of_ne_nil hR
    obtain ⟨j, h3, h4, h5⟩ := h2 r (by simp)
    refine ⟨by rw [h1]; simp, .inr ⟨?_, hmk, hne, by rw [kept_no h]⟩⟩
    rw [h1]
    have : (kept T now L i ++ r :: R').getD (kept T now L i).length default = r := by simp
    rw [this, h5]
    have := (hm.lt (show i < j by omega) (by omega)).1
    omega
  · rw [kept_yes h, List.append_assoc] at h1
    refine ⟨by rw [h1]; simp, .inl ⟨rfl, by rw [h1]; simp, by rw [kept_yes h]; simp⟩⟩
end Go.Proofs.Ytddnhjpclglclaa
