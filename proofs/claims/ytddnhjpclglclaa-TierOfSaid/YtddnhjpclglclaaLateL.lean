/- Thinned later: in plain Lean; a parameter of two bytes opened. -/
import Derived.Test.YtddnhjpclglclaaAgainL
namespace Go.Proofs.Ytddnhjpclglclaa
open Go.ChangeShapes Go.WideShapes Go.ChangeAt Go.RowKit Go.Deep Fl
theorem open_twou8 {H : Type} {enc : TypeId × Value → H} {w : World} {base : Nat} {spare : Nat → Bool} {held : Bool} {r : Reach} {b0 : Nat} {v : Value} {d : DataW H} {p : List MemPlace} (hv : Value.okWide Try.prog w r b0 67 v) (h : DataW.Trod enc Try.prog w base spare held 67 v d p) :
    ∃ a b, v = .agg #[.int .u8 a, .int .u8 b] ∧ (0 ≤ a ∧ a ≤ 255) ∧ (0 ≤ b ∧ b ≤ 255) := by
  simp only [Value.okWide, Try.underlying67] at hv
  obtain ⟨cs, rfl, hs, _⟩ := hv
  have k1 : Try.prog.cellsOf 5 = 1 := by kernel_rfl
  have k2 : Try.prog.cellsOf 67 = 2 := by kernel_rfl
  obtain ⟨fuel, hf⟩ := h
  obtain ⟨xs, m, _, ex, _, hl, hel⟩ := DataW.trod_array Try.underlying67 hf
  rw [k2] at hs
  obtain ⟨l⟩ := cs
  match l, hs with
  | [a, b], _ =>
    have h0 := hel 0 (by omega)
    have h1 := hel 1 (by omega)
    match xs, hl with
    | [x0, x1], _ =>
      rw [k1] at h0 h1
      obtain ⟨z0, a0, b0, w0⟩ := DataW.trod_int Try.underlying5 h0
      obtain ⟨z1, a1, b1, w1⟩ := DataW.trod_int Try.underlying5 h1
      simp [Value.cells] at a0 a1
      subst a0 a1
      exact ⟨z0, z1, rfl, wf_u8 w0, wf_u8 w1⟩
theorem of_mono {L : List Tr} (hp : PolP L) {o o' : Nat} (h1 : NN o) (h2 : NN o') (h : key o' ≤ key o) : ofI L o' ≤ ofI L o := by
  have hle : ∀ j, j < L.length → leB (L.getD j default).age o' = true → leB (L.getD j default).age o = true := fun j hj e => by
    have hn := (hp.2 j hj).1
    unfold leB at e ⊢
    rw [f_leq hn h2] at e
    rw [f_leq hn h1]
    have := of_decide_eq_true e
    exact decide_eq_true (by omega)
  rcases ofI_is L o' with ⟨e', _⟩ | ⟨k', hk', e', g', _⟩ <;> rcases ofI_is L o with ⟨e, g⟩ | ⟨k, hk, e, _, g⟩
  · omega
  · omega
  · have := hle k' hk' g'
    rw [g k' hk'] at this; cases this
  · by_cases hlt : k < k'
    · have := hle k' hk' g'
      rw [g k' hlt hk'] at this; cases this
    · omega
theorem ofI_ge (L : List Tr) (o : Nat) : -1 ≤ ofI L o := by
  rcases ofI_is L o with ⟨e, _⟩ | ⟨k, _, e, _⟩ <;> omega
theorem keepRec_none {S : List Tr} {now : Nat} {p : Pt} (h : tix S now p = -1) : ∀ {L : List Pt}, p ∈ L → p ∈ keepRec S now L
  | q :: rest, hp => by
    rw [keepRec]
    rcases List.mem_cons.1 hp with rfl | hp
    · rw [if_pos (by unfold stayP; simp [h])]
      exact List.mem_cons_self
    · split
      · exact List.mem_cons_of_mem _ (keepRec_none h hp)
      · exact keepRec_none h hp
theorem mem_at {K : List Pt} {p : Pt} (h : p ∈ K) : ∃ m, m < K.length ∧ K.getD m default = p := by
  obtain ⟨m, hm, e⟩ := List.mem_iff_getElem.1 h
  exact ⟨m, hm, by rw [getD_el hm]; exact e⟩
theorem late_ways {S : List Tr} {t u : Nat} {L A : List Pt} (h : keepR S t L = (A, 0)) (hu : T u) (htu : key t ≤ key u) :
    ∃ B, keepR S u A = (B, 0) ∧ B.length ≤ A.length ∧ A.length ≤ L.length ∧ MayP A ∧ MayP B ∧ (∀ i, i < B.length → ∃ m, m < A.length ∧ A.getD m default = B.getD i default) ∧ (∀ i, i < L.length → ofI S (ageOf u (L.getD i default).st) < 0 → ∃ m, m < B.length ∧ B.getD m default = L.getD i default) ∧ MayP L := by
  obtain ⟨_, eA, mL, mA⟩ := keepR_again h
  have hp : polB S = true := by
    cases hq : polB S
    · unfold keepR at h; rw [hq] at h; simp at h
    · rfl
  have eB : keepR S u A = (kept S u A A.length, 0) := by
    unfold keepR
    rw [hp, tmay_iff.2 hu, mayB_true.2 mA]; rfl
  have sB : (kept S u A A.length).Sublist A := by rw [kept_rec]; exact keepRec_sub S u A
  have sA : A.Sublist L := by rw [eA, kept_rec]; exact keepRec_sub S t L
  refine ⟨_, eB, sB.length_le, sA.length_le, mA, may_sub mA sB, fun i hi => mem_at (sB.subset (by rw [getD_el hi]; exact List.getElem_mem _)), fun i hi hl => mem_at ?_, mL⟩
  have hmem : L.getD i default ∈ L := by rw [getD_el hi]; exact List.getElem_mem _
  generalize L.getD i default = p at hl hmem
  have n1 := ageOf_nn t p.st
  have n2 := ageOf_nn u p.st
  have hmn := of_mono (polB_true.1 hp) n2.1 n1.1 (by rw [n1.2, n2.2]; exact ageOf_mono hu htu)
  have g1 := ofI_ge S (ageOf t p.st)
  have g2 := ofI_ge S (ageOf u p.st)
  have e2 : tix S u p = -1 := by unfold tix; omega
  have e1 : tix S t p = -1 := by unfold tix; omega
  rw [kept_rec]
  refine keepRec_none e2 ?_
  rw [eA, kept_rec]
  exact keepRec_none e1 hmem
theorem seq_ne {K : List Pt} (h : MayP K) {i j : Nat} (hi : i < K.length) (hj : j < K.length) (hne : i ≠ j) {p q : Pt} (e1 : K.getD i default = p) (e2 : K.getD j default = q) : (p.seq == q.seq) = false := by
  rw [← e1, ← e2]
  have : (K.getD i default).seq ≠ (K.getD j default).seq := fun e => hne (h.inj hi hj e)
  simpa using this
end Go.Proofs.Ytddnhjpclglclaa
