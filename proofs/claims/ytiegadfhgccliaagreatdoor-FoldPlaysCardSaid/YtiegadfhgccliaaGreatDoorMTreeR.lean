/- Trees in plain Lean: a rename: what moves, what stays. -/
import Derived.Test.YtiegadfhgccliaaGreatDoorMTreeW2
namespace Go.Proofs.YtiegadfhgccliaaGreatDoor
open Go.Lib

theorem psplit_names {L M : List ByteArray} (hn : ∀ x ∈ L, nameOk x = true) (h : psplit (pjoin L) = some M) : M = L := by
  by_cases hb : 8 < L.length ∨ 64 < (pjoin L).size
  · rw [psplit_big hn hb] at h; cases h
  · rw [psplit_pjoin ⟨by omega, hn, by omega⟩] at h
    exact (Option.some.inj h).symm
theorem ahead_ok {T : TS} {s : ByteArray} {P : List ByteArray} (hs : psplit s = some P) (hP : P ≠ []) (h : aheadS (fnd · T.L) P = 0) : P.dropLast = [] ∨ ∃ m ∈ T.L, m.path = pjoin P.dropLast ∧ m.dir = true := by
  unfold aheadS at h
  rw [show P.isEmpty = false by cases P; exact absurd rfl hP; rfl, if_neg (by decide)] at h
  obtain ⟨i, d, x, hl⟩ : ∃ i d x, lookS (fnd · T.L) (pjoin P.dropLast) = (i, d, x) := ⟨_, _, _, rfl⟩
  rw [hl] at h
  have hx : x = 0 := by
    by_cases e : x = 0
    · exact e
    · simp only [e, if_false] at h
  subst hx
  have hd : d = true := by
    cases d
    · simp at h
    · rfl
  subst hd
  obtain ⟨Q, hQ, hor⟩ := lookS_ok hl
  rw [psplit_pjoin (psplit_ok hs).1.dropLast] at hQ
  cases hQ
  rcases hor with ⟨h1, _⟩ | ⟨_, n, h2, _, h4⟩
  · exact .inl h1
  · obtain ⟨h5, h6⟩ := fnd_some h2
    exact .inr ⟨n, h5, h6, h4.symm⟩
/-- The way that a path's parts lie under another's. -/
theorem under_parts {p s : ByteArray} {Z X : List ByteArray} (hp : psplit p = some Z) (hs : psplit s = some X) : punder p s = (decide (X.length < Z.length) && decide (Z.take X.length = X)) := by
  unfold punder; rw [hp, hs]

/-! ### Make -/
theorem TInv.make {T : TS} (h : TInv T) (s : ByteArray) (dir : Bool) : TInv (makeS T s dir).1 := by
  unfold makeS
  by_cases h0 : canS T.L s = 0
  · rw [if_pos h0]
    obtain ⟨hf, hpar, hroot, hlen⟩ := canS_zero h0
    unfold parentS at hpar
    cases hs : psplit s with
    | none => rw [hs] at hpar; cases hpar
    | some P =>
      rw [hs] at hpar
      have hpar : aheadS (fnd · T.L) P = 0 := hpar
      have hP : P ≠ [] := by
        intro e
        have := root_split hs
        rw [e] at this
        exact hroot (by simpa using this)
      have hpm := insN_perm ⟨s, T.nx, dir⟩ T.L
      have hmem : ∀ n, n ∈ insN ⟨s, T.nx, dir⟩ T.L ↔ n = ⟨s, T.nx, dir⟩ ∨ n ∈ T.L := fun n => by rw [hpm.mem_iff, List.mem_cons]
      refine ⟨insN_rises h.rises (fnd_none hf), fun n hn => ?_, fun n hn => ?_, fun a ha b hb e => ?_, ?_, ?_⟩
      · rcases (hmem n).1 hn with rfl | hn
        · refine ⟨P, hs, hP, ?_⟩
          rcases ahead_ok hs hP hpar with h1 | ⟨m, h1, h2⟩
          · exact .inl h1
          · exact .inr ⟨m, (hmem m).2 (.inr h1), h2⟩
        · obtain ⟨Q, h1, h2, h3⟩ := h.path n hn
          refine ⟨Q, h1, h2, ?_⟩
          rcases h3 with h3 | ⟨m, h4, h5⟩
          · exact .inl h3
          · exact .inr ⟨m, (hmem m).2 (.inr h4), h5⟩
      · have := h.nx1
        rcases (hmem n).1 hn with rfl | hn
        · exact ⟨this, by show T.nx < T.nx + 1; omega⟩
        · have := h.ids n hn; exact ⟨this.1, by show n.id < T.nx + 1; omega⟩
      · rcases (hmem a).1 ha with rfl | ha
        · rcases (hmem b).1 hb with rfl | hb
          · rfl
          · have := h.ids b hb; have e : T.nx = b.id := e; omega
        · rcases (hmem b).1 hb with rfl | hb
          · have := h.ids a ha; have e : a.id = T.nx := e; omega
          · exact h.uniq a ha b hb e
      · have := h.nx1; show 1 ≤ T.nx + 1; omega
      · show (insN ⟨s, T.nx, dir⟩ T.L).length ≤ 64
        rw [hpm.length_eq, List.length_cons]; omega
  · rw [if_neg h0]; exact h
theorem make_nx (T : TS) (s : ByteArray) (dir : Bool) : T.nx ≤ (makeS T s dir).1.nx ∧ (makeS T s dir).1.nx ≤ T.nx + 1 := by
  unfold makeS
  split
  · exact ⟨by show T.nx ≤ T.nx + 1; omega, by show T.nx + 1 ≤ T.nx + 1; omega⟩
  · exact ⟨by show T.nx ≤ T.nx; omega, by show T.nx ≤ T.nx + 1; omega⟩

/-! ### Drop -/
theorem TInv.drop {T : TS} (h : TInv T) (s : ByteArray) (dir : Bool) : TInv (dropS T s dir).1 := by
  unfold dropS
  by_cases h0 : canDropS T.L s dir = 0
  · rw [if_pos h0]
    have hno : T.L.any (fun n => punder n.path s) = false ∧ ∃ P, psplit s = some P := by
      unfold canDropS at h0
      split at h0
      · rename_i h1
        split at h0
        · cases h0
        · split at h0
          · cases h0
          · split at h0
            · cases h0
            · rename_i h4
              simp only [Bool.or_eq_true, not_or, Bool.not_eq_true] at h4
              refine ⟨h4.2, ?_⟩
              obtain ⟨i, d, x, hl⟩ : ∃ i d x, lookS (fnd · T.L) s = (i, d, x) := ⟨_, _, _, rfl⟩
              rw [hl] at h1
              have hx : x = 0 := h1
              subst hx
              obtain ⟨P, hP, _⟩ := lookS_ok hl
              exact ⟨P, hP⟩
      · rename_i h1; exact absurd h0 h1
    obtain ⟨hno, P, hs⟩ := hno
    rw [List.any_eq_false] at hno
    refine ⟨h.rises.filter _, fun n hn => ?_, fun n hn => h.ids n (List.mem_filter.1 hn).1, fun a ha b hb e => h.uniq a (List.mem_filter.1 ha).1 b (List.mem_filter.1 hb).1 e, h.nx1, ?_⟩
    · obtain ⟨Q, h1, h2, h3⟩ := h.path n (List.mem_filter.1 hn).1
      refine ⟨Q, h1, h2, ?_⟩
      rcases h3 with h3 | ⟨m, h4, h5, h6⟩
      · exact .inl h3
      · refine .inr ⟨m, List.mem_filter.2 ⟨h4, ?_⟩, h5, h6⟩
        simp only [Bool.not_eq_true', decide_eq_false_iff_not]
        intro e
        have hm : psplit m.path = some Q.dropLast := by rw [h5]; exact psplit_pjoin (psplit_ok h1).1.dropLast
        rw [e, hs] at hm
        have hPQ := Option.some.inj hm
        have hq : 0 < Q.length := List.length_pos_iff.2 h2
        have := hno n (List.mem_filter.1 hn).1
        rw [under_parts h1 hs, hPQ] at this
        apply this
        simp only [Bool.and_eq_true, decide_eq_true_eq, List.length_dropLast]
        exact ⟨by omega, by rw [List.dropLast_eq_take]⟩
    · exact Nat.le_trans (List.length_filter_le _ _) h.few
  · rw [if_neg h0]; exact h

/-! ### Rename -/
/-- What stands in no way. -/
structure Ren (T : TS) (src dst : ByteArray) (X Y : List ByteArray) : Prop where
  s : psplit src = some X
  d : psplit dst = some Y
  x : X ≠ []
  y : Y ≠ []
  ne : src ≠ dst
  loop : punder dst src = false
  node : ∃ n ∈ T.L, n.path = src
  ahead : Y.dropLast = [] ∨ ∃ m ∈ T.L, m.path = pjoin Y.dropLast ∧ m.dir = true
  there : ∀ m ∈ T.L, m.path = dst → m.dir = false ∧ ∀ n ∈ T.L, n.path = src → n.dir = false
  deep : ∀ n ∈ T.L, movesN src n = true → ∃ Q, psplit (newPath src dst n.path) = some Q
theorem ren_of {T : TS} (h : TInv T) {src dst : ByteArray} (h0 : canRenS T.L src dst = 0) (hne : src ≠ dst) : ∃ X Y, Ren T src dst X Y := by
  unfold canRenS at h0
  cases h1 : psplit src with
  | none => rw [h1] at h0; cases h0
  | some X =>
    cases h2 : psplit dst with
    | none => rw [h1, h2] at h0; cases h0
    | some Y =>
      rw [h1, h2] at h0
      obtain ⟨i, d, x, hl⟩ : ∃ i d x, lookS (fnd · T.L) src = (i, d, x) := ⟨_, _, _, rfl⟩
      rw [hl] at h0
      dsimp only at h0
      split at h0
      · rename_i hx
        subst hx
        split at h0
        · cases h0
        · rename_i hX
          split at h0
          · cases h0
          · rename_i hU
            split at h0
            · rename_i hA
              split at h0
              · cases h0
              · rename_i hTh
                split at h0
                · cases h0
                · rename_i hDp
                  have hX : X ≠ [] := by simpa using hX
                  simp only [Bool.or_eq_true, not_or, Bool.not_eq_true, List.isEmpty_eq_false_iff] at hTh
                  obtain ⟨P, hP, hor⟩ := lookS_ok hl
                  rw [h1] at hP
                  cases hP
                  rcases hor with ⟨e, _⟩ | ⟨_, n, hn, _, hnd⟩
                  · exact absurd e hX
                  · obtain ⟨hn1, hn2⟩ := fnd_some hn
                    refine ⟨X, Y, h1, h2, hX, hTh.1, hne, by simpa using hU, ⟨n, hn1, hn2⟩, ahead_ok h2 hTh.1 hA, fun m hm hmp => ?_, fun k hk hkm => ?_⟩
                    · have hf := fnd_mem h.rises.apart hm
                      rw [hmp] at hf
                      have := hTh.2
                      unfold thereS at this
                      rw [hf] at this
                      simp only [Bool.or_eq_false_iff] at this
                      refine ⟨this.1, fun n' hn' hp' => ?_⟩
                      have : n' = n := apart_uniq h.rises.apart hn' hn1 (hp'.trans hn2.symm)
                      subst this
                      rw [← hnd]; exact this.2
                    · simp only [List.any_eq_true, not_exists, not_and, List.mem_filter, and_imp] at hDp
                      have := hDp k hk hkm
                      cases hq : psplit (newPath src dst k.path) with
                      | none => rw [hq] at this; exact absurd rfl this
                      | some Q => exact ⟨Q, rfl⟩
            · rename_i hA; exact absurd h0 hA
      · rename_i hx; exact absurd h0 hx
end Go.Proofs.YtiegadfhgccliaaGreatDoor
namespace Go.Proofs.YtiegadfhgccliaaGreatDoor
open Go.Lib
set_option linter.unusedVariables false

theorem filter_halves {α : Type} (p : α → Bool) (L : List α) : (L.filter p).length + (L.filter fun n => !p n).length = L.length := by
  induction L with
  | nil => rfl
  | cons a L ih => cases h : p a <;> simp [h] <;> omega
theorem filter_le {α : Type} {p q : α → Bool} (hpq : ∀ a, p a = true → q a = true) (L : List α) : (L.filter p).length ≤ (L.filter q).length := by
  induction L with
  | nil => exact Nat.le_refl _
  | cons a L ih =>
    cases h : p a
    · cases h2 : q a <;> simp [h, h2] <;> omega
    · simp [h, hpq a h]; exact ih
section
variable {T : TS} {src dst : ByteArray} {X Y : List ByteArray}
/-- A node that moves: its parts begin with the path's. -/
theorem moves_parts (h : TInv T) (r : Ren T src dst X Y) {n : Nd} (hn : n ∈ T.L) : ∃ Z, psplit n.path = some Z ∧ Z ≠ [] ∧ (movesN src n = true ↔ Z.take X.length = X) := by
  obtain ⟨Z, hz, hne⟩ := psplit_of_mem h hn
  refine ⟨Z, hz, hne, ?_⟩
  unfold movesN
  rw [Bool.or_eq_true, decide_eq_true_eq]
  constructor
  · rintro (e | e)
    · rw [e, r.s] at hz
      cases hz
      simp
    · exact (under_split hz r.s e).2
  · intro ht
    by_cases hl : X.length < Z.length
    · right; rw [under_parts hz r.s]; simp [hl, ht]
    · left
      have hle : Z.length ≤ X.length := by omega
      rw [List.take_of_length_le hle] at ht
      rw [← (psplit_ok hz).2, ht, (psplit_ok r.s).2]
theorem new_parts (h : TInv T) (r : Ren T src dst X Y) {n : Nd} (hn : n ∈ T.L) (hm : movesN src n = true) {Z : List ByteArray} (hz : psplit n.path = some Z) : psplit (newPath src dst n.path) = some (Y ++ Z.drop X.length) ∧ newPath src dst n.path = pjoin (Y ++ Z.drop X.length) := by
  obtain ⟨Q, hQ⟩ := r.deep n hn hm
  have e : newPath src dst n.path = pjoin (Y ++ Z.drop X.length) := by unfold newPath partsN; rw [r.s, r.d, hz]; rfl
  refine ⟨?_, e⟩
  rw [e] at hQ ⊢
  have hnm : ∀ x ∈ Y ++ Z.drop X.length, nameOk x = true := fun x hx => by
    rcases List.mem_append.1 hx with hx | hx
    · exact (psplit_ok r.d).1.names x hx
    · exact (psplit_ok hz).1.names x (List.mem_of_mem_drop hx)
  rw [psplit_names hnm hQ] at hQ
  exact hQ
/-- Nothing lies under the new path. -/
theorem none_under (h : TInv T) (r : Ren T src dst X Y) {m : Nd} (hm : m ∈ T.L) {Z : List ByteArray} (hz : psplit m.path = some Z) (ht : Z.take Y.length = Y) : Z = Y := by
  by_cases hl : Y.length < Z.length
  · exfalso
    obtain ⟨k, h1, h2, h3⟩ := h.anc Z.length m Z hm hz rfl Y.length (List.length_pos_iff.2 r.y) hl
    rw [ht, (psplit_ok r.d).2] at h2
    have := (r.there k h1 h2).1
    rw [h3] at this; cases this
  · have hle : Z.length ≤ Y.length := by omega
    rwa [List.take_of_length_le hle] at ht
/-- The new path is not one of those that move. -/
theorem dst_moves (r : Ren T src dst X Y) : Y.take X.length ≠ X := by
  intro ht
  by_cases hl : X.length < Y.length
  · have := r.loop
    rw [under_parts r.d r.s] at this
    simp [hl, ht] at this
  · have hle : Y.length ≤ X.length := by omega
    rw [List.take_of_length_le hle] at ht
    apply r.ne
    rw [← (psplit_ok r.s).2, ← (psplit_ok r.d).2, ht]
theorem new_apart (h : TInv T) (r : Ren T src dst X Y) {a b : Nd} (ha : a ∈ T.L) (hma : movesN src a = true) (hb : b ∈ T.L) (e : newPath src dst a.path = b.path) : b.path = dst ∧ movesN src b = false ∧ a.path = src := by
  obtain ⟨Za, hza, _, ia⟩ := moves_parts h r ha
  obtain ⟨Zb, hzb, _, ib⟩ := moves_parts h r hb
  have h1 := (new_parts h r ha hma hza).1
  rw [e, hzb] at h1
  have h2 := Option.some.inj h1
  have h3 : Zb = Y := none_under h r hb hzb (by rw [h2, List.take_left])
  have h4 : b.path = dst := by rw [← (psplit_ok hzb).2, h3, (psplit_ok r.d).2]
  refine ⟨h4, ?_, ?_⟩
  · cases hmb : movesN src b
    · rfl
    · have := ib.1 hmb
      rw [h3] at this
      exact absurd this (dst_moves r)
  · have h5 : Za.drop X.length = [] := by
      rw [h3] at h2
      have := congrArg List.length h2
      rw [List.length_append] at this
      exact List.eq_nil_of_length_eq_zero (by omega)
    have h6 := ia.1 hma
    have h7 : Za = X := by
      rw [← List.take_append_drop X.length Za, h6, h5, List.append_nil]
    rw [← (psplit_ok hza).2, h7, (psplit_ok r.s).2]
theorem new_inj (h : TInv T) (r : Ren T src dst X Y) {a b : Nd} (ha : a ∈ T.L) (hma : movesN src a = true) (hb : b ∈ T.L) (hmb : movesN src b = true) (e : newPath src dst a.path = newPath src dst b.path) : a = b := by
  obtain ⟨Za, hza, _, ia⟩ := moves_parts h r ha
  obtain ⟨Zb, hzb, _, ib⟩ := moves_parts h r hb
  have h1 := (new_parts h r ha hma hza).1
  rw [e, (new_parts h r hb hmb hzb).1] at h1
  have h2 : Zb.drop X.length = Za.drop X.length := List.append_cancel_left (Option.some.inj h1)
  have e1 := List.take_append_drop X.length Za
  have e2 := List.take_append_drop X.length Zb
  rw [ia.1 hma] at e1
  rw [ib.1 hmb] at e2
  have h3 : Za = Zb := by rw [← e1, ← e2, h2]
  apply apart_uniq h.rises.apart ha hb
  rw [← (psplit_ok hza).2, ← (psplit_ok hzb).2, h3]

/-- What stays. -/
theorem mem_rest {n : Nd} : n ∈ restS T.L src dst ↔ n ∈ T.L ∧ movesN src n = false ∧ n.path ≠ dst := by
  unfold restS
  rw [List.mem_filter]
  simp
theorem moved_apart (h : TInv T) (r : Ren T src dst X Y) : Apart (restS T.L src dst ++ (T.L.filter (movesN src)).map (moveN src dst)) := by
  refine List.pairwise_append.2 ⟨List.Pairwise.filter _ h.rises.apart, ?_, ?_⟩
  · refine List.pairwise_map.2 ?_
    refine (List.Pairwise.filter (movesN src) h.rises.apart).imp_of_mem fun {a b} ha hb hne e => hne ?_
    obtain ⟨ha1, ha2⟩ := List.mem_filter.1 ha
    obtain ⟨hb1, hb2⟩ := List.mem_filter.1 hb
    rw [new_inj h r ha1 ha2 hb1 hb2 e]
  · intro a ha b hb e
    obtain ⟨c, hc, rfl⟩ := List.mem_map.1 hb
    obtain ⟨hc1, hc2⟩ := List.mem_filter.1 hc
    obtain ⟨h1, h2, h3⟩ := mem_rest.1 ha
    exact h3 (new_apart h r hc1 hc2 h1 e.symm).1
theorem ren_perm : (((T.L.filter (movesN src)).map (moveN src dst)).foldl (fun R n => insN n R) (restS T.L src dst)).Perm (restS T.L src dst ++ (T.L.filter (movesN src)).map (moveN src dst)) := insAll_perm _ _
theorem TInv.ren_ok (h : TInv T) (r : Ren T src dst X Y) : TInv ⟨((T.L.filter (movesN src)).map (moveN src dst)).foldl (fun R n => insN n R) (restS T.L src dst), T.nx⟩ := by
  have hmem : ∀ n, n ∈ ((T.L.filter (movesN src)).map (moveN src dst)).foldl (fun R n => insN n R) (restS T.L src dst) ↔ (n ∈ T.L ∧ movesN src n = false ∧ n.path ≠ dst) ∨ ∃ a ∈ T.L, movesN src a = true ∧ n = moveN src dst a := fun n => by
    rw [ren_perm.mem_iff, List.mem_append, mem_rest, List.mem_map]
    constructor
    · rintro (h1 | ⟨a, ha, rfl⟩)
      · exact .inl h1
      · exact .inr ⟨a, (List.mem_filter.1 ha).1, (List.mem_filter.1 ha).2, rfl⟩
    · rintro (h1 | ⟨a, h1, h2, rfl⟩)
      · exact .inl h1
      · exact .inr ⟨a, List.mem_filter.2 ⟨h1, h2⟩, rfl⟩
  refine ⟨insAll_rises (h.rises.filter _) (moved_apart h r), fun n hn => ?_, fun n hn => ?_, fun a ha b hb e => ?_, h.nx1, ?_⟩
  · rcases (hmem n).1 hn with ⟨h1, h2, h3⟩ | ⟨a, h1, h2, rfl⟩
    · obtain ⟨Z, hz, hne, hpar⟩ := h.path n h1
      refine ⟨Z, hz, hne, ?_⟩
      rcases hpar with h4 | ⟨m, h4, h5, h6⟩
      · exact .inl h4
      · refine .inr ⟨m, (hmem m).2 (.inl ⟨h4, ?_, ?_⟩), h5, h6⟩
        · cases hmv : movesN src m
          · rfl
          · exfalso
            obtain ⟨Zm, hzm, _, im⟩ := moves_parts h r h4
            obtain ⟨Zn, hzn, _, inn⟩ := moves_parts h r h1
            rw [hz] at hzn
            cases hzn
            have h7 : psplit m.path = some Z.dropLast := by rw [h5]; exact psplit_pjoin (psplit_ok hz).1.dropLast
            rw [hzm] at h7
            have h8 := Option.some.inj h7
            have h9 := im.1 hmv
            have h10 : Z.take X.length = X := by
              have hxl : X.length ≤ Z.dropLast.length := by rw [← h8]; have := congrArg List.length h9; rw [List.length_take] at this; omega
              rw [h8, List.dropLast_eq_take, List.take_take, Nat.min_eq_left (by rw [List.length_dropLast] at hxl; exact hxl)] at h9
              exact h9
            rw [inn.2 h10] at h2; cases h2
        · intro e
          have := (r.there m h4 e).1
          rw [h6] at this; cases this
    · obtain ⟨Z, hz, hne, hpar⟩ := h.path a h1
      obtain ⟨Z', hz', _, ia⟩ := moves_parts h r h1
      rw [hz] at hz'
      cases hz'
      have ht := ia.1 h2
      obtain ⟨n1, n2⟩ := new_parts h r h1 h2 hz
      refine ⟨Y ++ Z.drop X.length, n1, by simp [r.y], ?_⟩
      have hZ : Z = X ++ Z.drop X.length := by conv => lhs; rw [← List.take_append_drop X.length Z, ht]
      by_cases hw : Z.drop X.length = []
      · rw [hw, List.append_nil]
        rcases r.ahead with h4 | ⟨m, h4, h5, h6⟩
        · exact .inl h4
        · refine .inr ⟨m, (hmem m).2 (.inl ⟨h4, ?_, ?_⟩), h5, h6⟩
          · cases hmv : movesN src m
            · rfl
            · exfalso
              obtain ⟨Zm, hzm, _, im⟩ := moves_parts h r h4
              have h7 : psplit m.path = some Y.dropLast := by rw [h5]; exact psplit_pjoin (psplit_ok r.d).1.dropLast
              rw [hzm] at h7
              have h8 := Option.some.inj h7
              have h9 := im.1 hmv
              apply dst_moves r
              have hxl : X.length ≤ Y.dropLast.length := by rw [← h8]; have := congrArg List.length h9; rw [List.length_take] at this; omega
              rw [h8, List.dropLast_eq_take, List.take_take, Nat.min_eq_left (by rw [List.length_dropLast] at hxl; exact hxl)] at h9
              exact h9
          · intro e
            have := (r.there m h4 e).1
            rw [h6] at this; cases this
      · rcases hpar with h4 | ⟨m, h4, h5, h6⟩
        · exfalso
          have hx := List.length_pos_iff.2 r.x
          have hz1 : Z.length ≤ 1 := by have := congrArg List.length h4; rw [List.length_dropLast, List.length_nil] at this; omega
          have := congrArg List.length ht
          rw [List.length_take] at this
          apply hw
          exact List.eq_nil_of_length_eq_zero (by rw [List.length_drop]; omega)
        · have h7 : psplit m.path = some Z.dropLast := by rw [h5]; exact psplit_pjoin (psplit_ok hz).1.dropLast
          have hzl : X.length < Z.length := by
            have := List.length_pos_iff.2 hw
            rw [List.length_drop] at this; omega
          obtain ⟨Zm, hzm, _, im⟩ := moves_parts h r h4
          rw [h7] at hzm
          cases hzm
          have h8 : Z.dropLast.take X.length = X := by rw [List.dropLast_eq_take, List.take_take, Nat.min_eq_left (by omega)]; exact ht
          have hmv := im.2 h8
          refine .inr ⟨moveN src dst m, (hmem _).2 (.inr ⟨m, h4, hmv, rfl⟩), ?_, h6⟩
          have h9 := (new_parts h r h4 hmv h7).2
          show newPath src dst m.path = _
          rw [h9]
          congr 1
          rw [List.dropLast_append_of_ne_nil hw, List.dropLast_eq_take, List.dropLast_eq_take, List.drop_take, List.length_drop]
          congr 1
          congr 1
          omega
  · rcases (hmem n).1 hn with ⟨h1, _⟩ | ⟨a, h1, _, rfl⟩
    · exact h.ids n h1
    · exact h.ids a h1
  · rcases (hmem a).1 ha with ⟨a1, a2, a3⟩ | ⟨a', a1, a2, rfl⟩
    · rcases (hmem b).1 hb with ⟨b1, b2, b3⟩ | ⟨b', b1, b2, rfl⟩
      · exact h.uniq a a1 b b1 e
      · have := h.uniq a a1 b' b1 e
        subst this
        rw [a2] at b2; cases b2
    · rcases (hmem b).1 hb with ⟨b1, b2, b3⟩ | ⟨b', b1, b2, rfl⟩
      · have := h.uniq a' a1 b b1 e
        subst this
        rw [b2] at a2; cases a2
      · rw [h.uniq a' a1 b' b1 e]
  · show List.length _ ≤ 64
    rw [ren_perm.length_eq, List.length_append, List.length_map]
    have h1 : (restS T.L src dst).length ≤ (T.L.filter fun n => !movesN src n).length := by
      unfold restS
      exact filter_le (fun n hn => by simp at hn ⊢; exact hn.1) T.L
    have h2 := filter_halves (movesN src) T.L
    have := h.few
    omega
theorem TInv.ren (h : TInv T) (s d : ByteArray) : TInv (renS T s d).1 := by
  unfold renS
  by_cases h0 : canRenS T.L s d = 0
  · rw [if_pos h0]
    by_cases e : s = d
    · rw [if_pos e]; exact h
    · rw [if_neg e]
      obtain ⟨X, Y, r⟩ := ren_of h h0 e
      exact h.ren_ok r
  · rw [if_neg h0]; exact h
end
theorem ren_nx (T : TS) (a b : ByteArray) : (renS T a b).1.nx = T.nx := by
  unfold renS
  split
  · split <;> rfl
  · rfl
theorem drop_nx (T : TS) (a : ByteArray) (dir : Bool) : (dropS T a dir).1.nx = T.nx := by
  unfold dropS
  split <;> rfl
end Go.Proofs.YtiegadfhgccliaaGreatDoor
