/- Trees in plain Lean: what a make, a rename, a drop leave is a tree. -/
import Derived.Test.YtahdmkmefeocmaaDoorTreeP
namespace Go.Proofs.YtahdmkmefeocmaaDoor
open Go.Lib

theorem psplit_names {L M : List ByteArray} (hn : ∀ x ∈ L, nameOk x = true) (h : psplit (pjoin L) = some M) : M = L := by
  by_cases hb : 8 < L.length ∨ 64 < (pjoin L).size
  · rw [psplit_big hn hb] at h; cases h
  · rw [psplit_pjoin ⟨by omega, hn, by omega⟩] at h
    exact (Option.some.inj h).symm
theorem ahead_ok {T : TS} {s : ByteArray} {P : List ByteArray} (hs : psplit s = some P) (hP : P ≠ []) (h : aheadS (fnd · T.L) P = 0) : P.dropLast = [] ∨ ∃ m ∈ T.L, m.path = pjoin P.dropLast ∧ m.dir = true := by
  unfold aheadS at h
  rw [show P.isEmpty = false by cases P; exact absurd rfl hP; rfl, if_neg (by decide)] at h
  obtain ⟨i, d, x, hl⟩ : ∃ i d x, lookS (fnd · T.L) (pjoin P.dropLast) = (i, d, x) := ⟨_, _, _, rfl⟩
  rw [hl] at h
  have hx : x = 0 := by
    by_cases e : x = 0
    · exact e
    · simp only [e, if_false] at h
  subst hx
  have hd : d = true := by
    cases d
    · simp at h
    · rfl
  subst hd
  obtain ⟨Q, hQ, hor⟩ := lookS_ok hl
  rw [psplit_pjoin (psplit_ok hs).1.dropLast] at hQ
  cases hQ
  rcases hor with ⟨h1, _⟩ | ⟨_, n, h2, _, h4⟩
  · exact .inl h1
  · obtain ⟨h5, h6⟩ := fnd_some h2
    exact .inr ⟨n, h5, h6, h4.symm⟩
/-- The way that a path's parts lie under another's. -/
theorem under_parts {p s : ByteArray} {Z X : List ByteArray} (hp : psplit p = some Z) (hs : psplit s = some X) : punder p s = (decide (X.length < Z.length) && decide (Z.take X.length = X)) := by
  unfold punder; rw [hp, hs]

/-! ### Make -/
theorem TInv.make {T : TS} (h : TInv T) (s : ByteArray) (dir : Bool) : TInv (makeS T s dir).1 := by
  unfold makeS
  by_cases h0 : canS T.L s = 0
  · rw [if_pos h0]
    obtain ⟨hf, hpar, hroot, hlen⟩ := canS_zero h0
    unfold parentS at hpar
    cases hs : psplit s with
    | none => rw [hs] at hpar; cases hpar
    | some P =>
      rw [hs] at hpar
      have hpar : aheadS (fnd · T.L) P = 0 := hpar
      have hP : P ≠ [] := by
        intro e
        have := root_split hs
        rw [e] at this
        exact hroot (by simpa using this)
      have hpm := insN_perm ⟨s, T.nx, dir⟩ T.L
      have hmem : ∀ n, n ∈ insN ⟨s, T.nx, dir⟩ T.L ↔ n = ⟨s, T.nx, dir⟩ ∨ n ∈ T.L := fun n => by rw [hpm.mem_iff, List.mem_cons]
      refine ⟨insN_rises h.rises (fnd_none hf), fun n hn => ?_, fun n hn => ?_, fun a ha b hb e => ?_, ?_, ?_⟩
      · rcases (hmem n).1 hn with rfl | hn
        · refine ⟨P, hs, hP, ?_⟩
          rcases ahead_ok hs hP hpar with h1 | ⟨m, h1, h2⟩
          · exact .inl h1
          · exact .inr ⟨m, (hmem m).2 (.inr h1), h2⟩
        · obtain ⟨Q, h1, h2, h3⟩ := h.path n hn
          refine ⟨Q, h1, h2, ?_⟩
          rcases h3 with h3 | ⟨m, h4, h5⟩
          · exact .inl h3
          · exact .inr ⟨m, (hmem m).2 (.inr h4), h5⟩
      · have := h.nx1
        rcases (hmem n).1 hn with rfl | hn
        · exact ⟨this, by show T.nx < T.nx + 1; omega⟩
        · have := h.ids n hn; exact ⟨this.1, by show n.id < T.nx + 1; omega⟩
      · rcases (hmem a).1 ha with rfl | ha
        · rcases (hmem b).1 hb with rfl | hb
          · rfl
          · have := h.ids b hb; have e : T.nx = b.id := e; omega
        · rcases (hmem b).1 hb with rfl | hb
          · have := h.ids a ha; have e : a.id = T.nx := e; omega
          · exact h.uniq a ha b hb e
      · have := h.nx1; show 1 ≤ T.nx + 1; omega
      · show (insN ⟨s, T.nx, dir⟩ T.L).length ≤ 64
        rw [hpm.length_eq, List.length_cons]; omega
  · rw [if_neg h0]; exact h
theorem make_nx (T : TS) (s : ByteArray) (dir : Bool) : T.nx ≤ (makeS T s dir).1.nx ∧ (makeS T s dir).1.nx ≤ T.nx + 1 := by
  unfold makeS
  split
  · exact ⟨by show T.nx ≤ T.nx + 1; omega, by show T.nx + 1 ≤ T.nx + 1; omega⟩
  · exact ⟨by show T.nx ≤ T.nx; omega, by show T.nx ≤ T.nx + 1; omega⟩

/-! ### Drop -/
theorem TInv.drop {T : TS} (h : TInv T) (s : ByteArray) (dir : Bool) : TInv (dropS T s dir).1 := by
  unfold dropS
  by_cases h0 : canDropS T.L s dir = 0
  · rw [if_pos h0]
    have hno : T.L.any (fun n => punder n.path s) = false ∧ ∃ P, psplit s = some P := by
      unfold canDropS at h0
      split at h0
      · rename_i h1
        split at h0
        · cases h0
        · split at h0
          · cases h0
          · split at h0
            · cases h0
            · rename_i h4
              simp only [Bool.or_eq_true, not_or, Bool.not_eq_true] at h4
              refine ⟨h4.2, ?_⟩
              obtain ⟨i, d, x, hl⟩ : ∃ i d x, lookS (fnd · T.L) s = (i, d, x) := ⟨_, _, _, rfl⟩
              rw [hl] at h1
              have hx : x = 0 := h1
              subst hx
              obtain ⟨P, hP, _⟩ := lookS_ok hl
              exact ⟨P, hP⟩
      · rename_i h1; exact absurd h0 h1
    obtain ⟨hno, P, hs⟩ := hno
    rw [List.any_eq_false] at hno
    refine ⟨h.rises.filter _, fun n hn => ?_, fun n hn => h.ids n (List.mem_filter.1 hn).1, fun a ha b hb e => h.uniq a (List.mem_filter.1 ha).1 b (List.mem_filter.1 hb).1 e, h.nx1, ?_⟩
    · obtain ⟨Q, h1, h2, h3⟩ := h.path n (List.mem_filter.1 hn).1
      refine ⟨Q, h1, h2, ?_⟩
      rcases h3 with h3 | ⟨m, h4, h5, h6⟩
      · exact .inl h3
      · refine .inr ⟨m, List.mem_filter.2 ⟨h4, ?_⟩, h5, h6⟩
        simp only [Bool.not_eq_true', decide_eq_false_iff_not]
        intro e
        have hm : psplit m.path = some Q.dropLast := by rw [h5]; exact psplit_pjoin (psplit_ok h1).1.dropLast
        rw [e, hs] at hm
        have hPQ := Option.some.inj hm
        have hq : 0 < Q.length := List.length_pos_iff.2 h2
        have := hno n (List.mem_filter.1 hn).1
        rw [under_parts h1 hs, hPQ] at this
        apply this
        simp only [Bool.and_eq_true, decide_eq_true_eq, List.length_dropLast]
        exact ⟨by omega, by rw [List.dropLast_eq_take]⟩
    · exact Nat.le_trans (List.length_filter_le _ _) h.few
  · rw [if_neg h0]; exact h

/-! ### Rename -/
/-- What stands in no way. -/
structure Ren (T : TS) (src dst : ByteArray) (X Y : List ByteArray) : Prop where
  s : psplit src = some X
  d : psplit dst = some Y
  x : X ≠ []
  y : Y ≠ []
  ne : src ≠ dst
  loop : punder dst src = false
  node : ∃ n ∈ T.L, n.path = src
  ahead : Y.dropLast = [] ∨ ∃ m ∈ T.L, m.path = pjoin Y.dropLast ∧ m.dir = true
  there : ∀ m ∈ T.L, m.path = dst → m.dir = false ∧ ∀ n ∈ T.L, n.path = src → n.dir = false
  deep : ∀ n ∈ T.L, movesN src n = true → ∃ Q, psplit (newPath src dst n.path) = some Q
theorem ren_of {T : TS} (h : TInv T) {src dst : ByteArray} (h0 : canRenS T.L src dst = 0) (hne : src ≠ dst) : ∃ X Y, Ren T src dst X Y := by
  unfold canRenS at h0
  cases h1 : psplit src with
  | none => rw [h1] at h0; cases h0
  | some X =>
    cases h2 : psplit dst with
    | none => rw [h1, h2] at h0; cases h0
    | some Y =>
      rw [h1, h2] at h0
      obtain ⟨i, d, x, hl⟩ : ∃ i d x, lookS (fnd · T.L) src = (i, d, x) := ⟨_, _, _, rfl⟩
      rw [hl] at h0
      dsimp only at h0
      split at h0
      · rename_i hx
        subst hx
        split at h0
        · cases h0
        · rename_i hX
          split at h0
          · cases h0
          · rename_i hU
            split at h0
            · rename_i hA
              split at h0
              · cases h0
              · rename_i hTh
                split at h0
                · cases h0
                · rename_i hDp
                  have hX : X ≠ [] := by simpa using hX
                  simp only [Bool.or_eq_true, not_or, Bool.not_eq_true, List.isEmpty_eq_false_iff] at hTh
                  obtain ⟨P, hP, hor⟩ := lookS_ok hl
                  rw [h1] at hP
                  cases hP
                  rcases hor with ⟨e, _⟩ | ⟨_, n, hn, _, hnd⟩
                  · exact absurd e hX
                  · obtain ⟨hn1, hn2⟩ := fnd_some hn
                    refine ⟨X, Y, h1, h2, hX, hTh.1, hne, by simpa using hU, ⟨n, hn1, hn2⟩, ahead_ok h2 hTh.1 hA, fun m hm hmp => ?_, fun k hk hkm => ?_⟩
                    · have hf := fnd_mem h.rises.apart hm
                      rw [hmp] at hf
                      have := hTh.2
                      unfold thereS at this
                      rw [hf] at this
                      simp only [Bool.or_eq_false_iff] at this
                      refine ⟨this.1, fun n' hn' hp' => ?_⟩
                      have : n' = n := apart_uniq h.rises.apart hn' hn1 (hp'.trans hn2.symm)
                      subst this
                      rw [← hnd]; exact this.2
                    · simp only [List.any_eq_true, not_exists, not_and, List.mem_filter, and_imp] at hDp
                      have := hDp k hk hkm
                      cases hq : psplit (newPath src dst k.path) with
                      | none => rw [hq] at this; exact absurd rfl this
                      | some Q => exact ⟨Q, rfl⟩
            · rename_i hA; exact absurd h0 hA
      · rename_i hx; exact absurd h0 hx
end Go.Proofs.YtahdmkmefeocmaaDoor
