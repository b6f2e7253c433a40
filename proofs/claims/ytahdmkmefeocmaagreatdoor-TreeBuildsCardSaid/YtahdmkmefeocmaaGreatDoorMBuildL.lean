/- Build in plain Lean: any nodes, sorted by path and put one by one: a tree with just these, or none. -/
import Derived.Test.YtahdmkmefeocmaaGreatDoorMTreeR
namespace Go.Proofs.YtahdmkmefeocmaaGreatDoor
open Go.Lib

/-- May a tree be of these? (in whatever order) -/
structure MayL (next : Int) (l : List Nd) : Prop where
  path : ∀ n ∈ l, ∃ P, psplit n.path = some P ∧ P ≠ [] ∧ (P.dropLast = [] ∨ ∃ m ∈ l, m.path = pjoin P.dropLast ∧ m.dir = true)
  ids : ∀ n ∈ l, 1 ≤ n.id ∧ n.id < next
  apart : l.Pairwise fun a b => a.path ≠ b.path ∧ a.id ≠ b.id
  few : l.length ≤ 64
  nx1 : 1 ≤ next
theorem MayL.perm {next : Int} {l m : List Nd} (h : MayL next l) (p : l.Perm m) : MayL next m := by
  refine ⟨fun n hn => ?_, fun n hn => h.ids n (p.mem_iff.2 hn), p.pairwise h.apart fun hab => ⟨Ne.symm hab.1, Ne.symm hab.2⟩, by rw [← p.length_eq]; exact h.few, h.nx1⟩
  obtain ⟨P, h1, h2, h3⟩ := h.path n (p.mem_iff.2 hn)
  exact ⟨P, h1, h2, h3.imp id fun ⟨x, hx, e⟩ => ⟨x, p.mem_iff.1 hx, e⟩⟩
theorem MayL.of_inv {T : TS} (h : TInv T) : MayL T.nx T.L := by
  refine ⟨h.path, h.ids, ?_, h.few, h.nx1⟩
  exact List.Pairwise.imp_of_mem (fun {a b} ha hb hab => ⟨hab, fun e => hab (by rw [h.uniq a ha b hb e])⟩) h.rises.apart
/-- One more. -/
def StepB (T : TS) (n : Nd) : Prop := 1 ≤ n.id ∧ n.id < T.nx ∧ (∀ m ∈ T.L, m.id ≠ n.id) ∧ n.path ≠ rootP ∧ parentS (fnd · T.L) n.path = 0 ∧ fnd n.path T.L = none
theorem prefix_lt {a : List UInt8} {x : UInt8} {t : List UInt8} : a < a ++ x :: t := by
  induction a with
  | nil => exact List.nil_lt_cons _ _
  | cons y a ih => exact List.cons_lt_cons_iff.2 (.inr ⟨rfl, ih⟩)
theorem up_lt {P : List ByteArray} (h : P ≠ []) (h1 : P.dropLast ≠ []) : ltB (pjoin P.dropLast) (pjoin P) = true := by
  unfold ltB
  rw [decide_eq_true_eq, pjoin_tail h1, pjoin_tail h]
  have e : P = P.dropLast ++ [P.getLast h] := (List.dropLast_concat_getLast h).symm
  conv => rhs; rw [e, raws_append, joinTail_append]
  have e2 : joinTail [47] (raws [P.getLast h]) = 47 :: (P.getLast h).data.toList := by simp [joinTail, raws]
  rw [e2]
  exact prefix_lt
/-- What a step leaves. -/
theorem step_inv {T : TS} (h : TInv T) {n : Nd} (hs : StepB T n) (hl : T.L.length < 64) (hle : ∀ m ∈ T.L, ltB n.path m.path = false) : TInv ⟨T.L ++ [n], T.nx⟩ := by
  obtain ⟨h1, h2, h3, h4, h5, h6⟩ := hs
  have hne : ∀ m ∈ T.L, m.path ≠ n.path := fnd_none h6
  obtain ⟨P, hP, hPa⟩ : ∃ P, psplit n.path = some P ∧ aheadS (fnd · T.L) P = 0 := by
    unfold parentS at h5
    cases hp : psplit n.path with
    | none => rw [hp] at h5; cases h5
    | some P => rw [hp] at h5; exact ⟨P, rfl, h5⟩
  have hPn : P ≠ [] := by
    intro e
    subst e
    have := root_split hP
    rw [show ([] : List ByteArray).isEmpty = true from rfl, decide_eq_true_eq] at this
    exact h4 this
  have hah := ahead_ok hP hPn hPa
  refine ⟨?_, ?_, ?_, ?_, h.nx1, ?_⟩
  · refine List.pairwise_append.2 ⟨h.rises, List.pairwise_singleton _ _, fun a ha b hb => ?_⟩
    obtain rfl : b = n := by simpa using hb
    rcases ltB_tri a.path b.path with e | e | e
    · exact e
    · exact absurd e (hne a ha)
    · rw [hle a ha] at e; cases e
  · intro m hm
    rcases List.mem_append.1 hm with hm | hm
    · obtain ⟨Q, q1, q2, q3⟩ := h.path m hm
      exact ⟨Q, q1, q2, q3.imp id fun ⟨x, hx, e⟩ => ⟨x, List.mem_append_left _ hx, e⟩⟩
    · obtain rfl : m = n := by simpa using hm
      exact ⟨P, hP, hPn, hah.imp id fun ⟨x, hx, e⟩ => ⟨x, List.mem_append_left _ hx, e⟩⟩
  · intro m hm
    rcases List.mem_append.1 hm with hm | hm
    · exact h.ids m hm
    · obtain rfl : m = n := by simpa using hm
      exact ⟨h1, h2⟩
  · intro a ha b hb e
    rcases List.mem_append.1 ha with ha1 | ha1 <;> rcases List.mem_append.1 hb with hb1 | hb1
    · exact h.uniq a ha1 b hb1 e
    · have e1 : b = n := by simpa using hb1
      rw [e1] at e
      exact absurd e (h3 a ha1)
    · have e1 : a = n := by simpa using ha1
      rw [e1] at e
      exact absurd e.symm (h3 b hb1)
    · have e1 : a = n := by simpa using ha1
      have e2 : b = n := by simpa using hb1
      rw [e1, e2]
  · rw [List.length_append, List.length_singleton]; omega
theorem ahead_up {T : TS} (h : TInv T) {X : List ByteArray} (hp : X.dropLast = [] ∨ ∃ m ∈ T.L, m.path = pjoin X.dropLast ∧ m.dir = true) : aheadS (fnd · T.L) X = 0 := by
  unfold aheadS
  split
  · rfl
  · rcases hp with e | ⟨m, h1, h2, h3⟩
    · rw [e, pjoin_nil]
      have : lookS (fnd · T.L) ⟨#[47]⟩ = (0, true, 0) := by
        unfold lookS
        rw [show psplit ⟨#[47]⟩ = some [] by decide +kernel]
        rfl
      rw [this]; rfl
    · rw [← h2, h.look h1, h3]; rfl
/-- Where a tree may be of these, each step is let by. -/
theorem may_step {next : Int} {O : List Nd} (hm : MayL next O) (hs : ∀ i j, i < j → j < O.length → ltB (O.getD j default).path (O.getD i default).path = false) {k : Nat} (hk : k < O.length) (h : TInv ⟨O.take k, next⟩) : StepB ⟨O.take k, next⟩ (O.getD k default) := by
  have hmem : O.getD k default ∈ O := by simp [List.getD, hk]
  have hap := List.pairwise_iff_getElem.1 hm.apart
  have hgd : ∀ j, (hj : j < O.length) → O.getD j default = O[j] := fun j hj => by simp [List.getD, hj]
  have htk : ∀ m ∈ O.take k, ∃ j, j < k ∧ m = O.getD j default := fun m hm => by
    obtain ⟨j, hj, rfl⟩ := List.getElem_of_mem hm
    rw [List.length_take] at hj
    exact ⟨j, by omega, by rw [hgd j (by omega), List.getElem_take]⟩
  obtain ⟨P, hP, hPn, hup⟩ := hm.path _ hmem
  refine ⟨(hm.ids _ hmem).1, (hm.ids _ hmem).2, fun m hmm e => ?_, fun e => ?_, ?_, ?_⟩
  · obtain ⟨j, hj, rfl⟩ := htk m hmm
    have := (hap j k (by omega) hk hj).2
    rw [← hgd j (by omega), ← hgd k hk] at this
    exact this e
  · have := root_split hP
    rw [decide_eq_true e] at this
    cases P with
    | nil => exact hPn rfl
    | cons => cases this
  · unfold parentS
    rw [hP]
    refine ahead_up h (hup.imp id fun ⟨m, hmm, h1, h2⟩ => ⟨m, ?_, h1, h2⟩)
    obtain ⟨j, hj, rfl⟩ := List.getElem_of_mem hmm
    by_cases hjk : j < k
    · have : O[j] = (O.take k)[j]'(by rw [List.length_take]; omega) := by rw [List.getElem_take]
      rw [this]
      exact List.getElem_mem _
    · exfalso
      by_cases hdl : P.dropLast = []
      · have hmp := hm.path _ hmm
        obtain ⟨Q, hQ, hQn, _⟩ := hmp
        rw [h1, hdl, pjoin_nil, show psplit ⟨#[47]⟩ = some [] by decide +kernel] at hQ
        cases hQ
        exact hQn rfl
      · have hlt := up_lt hPn hdl
        rw [← h1, (psplit_ok hP).2, ← hgd j hj] at hlt
        by_cases e : j = k
        · subst e
          rw [ltB_irrefl] at hlt; cases hlt
        · rw [hs k j (by omega) hj] at hlt; cases hlt
  · cases hf : fnd (O.getD k default).path (O.take k) with
    | none => rfl
    | some m =>
      obtain ⟨h1, h2⟩ := fnd_some hf
      obtain ⟨j, hj, rfl⟩ := htk m h1
      have := (hap j k (by omega) hk hj).1
      rw [← hgd j (by omega), ← hgd k hk] at this
      exact absurd h2 this
end Go.Proofs.YtahdmkmefeocmaaGreatDoor
