/- Trees in plain Lean: moved there and back again a tree is what it was, where nothing stood in its way. -/
import Derived.Test.YtahdmkmefeocmaaGreatDoorMTreeP
namespace Go.Proofs.YtahdmkmefeocmaaGreatDoor
open Go.Lib

theorem psplit_names {L M : List ByteArray} (hn : ∀ x ∈ L, nameOk x = true) (h : psplit (pjoin L) = some M) : M = L := by
  by_cases hb : 8 < L.length ∨ 64 < (pjoin L).size
  · rw [psplit_big hn hb] at h; cases h
  · rw [psplit_pjoin ⟨by omega, hn, by omega⟩] at h
    exact (Option.some.inj h).symm
theorem ahead_ok {T : TS} {s : ByteArray} {P : List ByteArray} (hs : psplit s = some P) (hP : P ≠ []) (h : aheadS (fnd · T.L) P = 0) : P.dropLast = [] ∨ ∃ m ∈ T.L, m.path = pjoin P.dropLast ∧ m.dir = true := by
  unfold aheadS at h
  rw [show P.isEmpty = false by cases P; exact absurd rfl hP; rfl, if_neg (by decide)] at h
  obtain ⟨i, d, x, hl⟩ : ∃ i d x, lookS (fnd · T.L) (pjoin P.dropLast) = (i, d, x) := ⟨_, _, _, rfl⟩
  rw [hl] at h
  have hx : x = 0 := by
    by_cases e : x = 0
    · exact e
    · simp only [e, if_false] at h
  subst hx
  have hd : d = true := by
    cases d
    · simp at h
    · rfl
  subst hd
  obtain ⟨Q, hQ, hor⟩ := lookS_ok hl
  rw [psplit_pjoin (psplit_ok hs).1.dropLast] at hQ
  cases hQ
  rcases hor with ⟨h1, _⟩ | ⟨_, n, h2, _, h4⟩
  · exact .inl h1
  · obtain ⟨h5, h6⟩ := fnd_some h2
    exact .inr ⟨n, h5, h6, h4.symm⟩
/-- The way that a path's parts lie under another's. -/
theorem under_parts {p s : ByteArray} {Z X : List ByteArray} (hp : psplit p = some Z) (hs : psplit s = some X) : punder p s = (decide (X.length < Z.length) && decide (Z.take X.length = X)) := by
  unfold punder; rw [hp, hs]

/-! ### Make -/
theorem TInv.make {T : TS} (h : TInv T) (s : ByteArray) (dir : Bool) : TInv (makeS T s dir).1 := by
  unfold makeS
  by_cases h0 : canS T.L s = 0
  · rw [if_pos h0]
    obtain ⟨hf, hpar, hroot, hlen⟩ := canS_zero h0
    unfold parentS at hpar
    cases hs : psplit s with
    | none => rw [hs] at hpar; cases hpar
    | some P =>
      rw [hs] at hpar
      have hpar : aheadS (fnd · T.L) P = 0 := hpar
      have hP : P ≠ [] := by
        intro e
        have := root_split hs
        rw [e] at this
        exact hroot (by simpa using this)
      have hpm := insN_perm ⟨s, T.nx, dir⟩ T.L
      have hmem : ∀ n, n ∈ insN ⟨s, T.nx, dir⟩ T.L ↔ n = ⟨s, T.nx, dir⟩ ∨ n ∈ T.L := fun n => by rw [hpm.mem_iff, List.mem_cons]
      refine ⟨insN_rises h.rises (fnd_none hf), fun n hn => ?_, fun n hn => ?_, fun a ha b hb e => ?_, ?_, ?_⟩
      · rcases (hmem n).1 hn with rfl | hn
        · refine ⟨P, hs, hP, ?_⟩
          rcases ahead_ok hs hP hpar with h1 | ⟨m, h1, h2⟩
          · exact .inl h1
          · exact .inr ⟨m, (hmem m).2 (.inr h1), h2⟩
        · obtain ⟨Q, h1, h2, h3⟩ := h.path n hn
          refine ⟨Q, h1, h2, ?_⟩
          rcases h3 with h3 | ⟨m, h4, h5⟩
          · exact .inl h3
          · exact .inr ⟨m, (hmem m).2 (.inr h4), h5⟩
      · have := h.nx1
        rcases (hmem n).1 hn with rfl | hn
        · exact ⟨this, by show T.nx < T.nx + 1; omega⟩
        · have := h.ids n hn; exact ⟨this.1, by show n.id < T.nx + 1; omega⟩
      · rcases (hmem a).1 ha with rfl | ha
        · rcases (hmem b).1 hb with rfl | hb
          · rfl
          · have := h.ids b hb; have e : T.nx = b.id := e; omega
        · rcases (hmem b).1 hb with rfl | hb
          · have := h.ids a ha; have e : a.id = T.nx := e; omega
          · exact h.uniq a ha b hb e
      · have := h.nx1; show 1 ≤ T.nx + 1; omega
      · show (insN ⟨s, T.nx, dir⟩ T.L).length ≤ 64
        rw [hpm.length_eq, List.length_cons]; omega
  · rw [if_neg h0]; exact h
theorem make_nx (T : TS) (s : ByteArray) (dir : Bool) : T.nx ≤ (makeS T s dir).1.nx ∧ (makeS T s dir).1.nx ≤ T.nx + 1 := by
  unfold makeS
  split
  · exact ⟨by show T.nx ≤ T.nx + 1; omega, by show T.nx + 1 ≤ T.nx + 1; omega⟩
  · exact ⟨by show T.nx ≤ T.nx; omega, by show T.nx ≤ T.nx + 1; omega⟩

/-! ### Drop -/
theorem TInv.drop {T : TS} (h : TInv T) (s : ByteArray) (dir : Bool) : TInv (dropS T s dir).1 := by
  unfold dropS
  by_cases h0 : canDropS T.L s dir = 0
  · rw [if_pos h0]
    have hno : T.L.any (fun n => punder n.path s) = false ∧ ∃ P, psplit s = some P := by
      unfold canDropS at h0
      split at h0
      · rename_i h1
        split at h0
        · cases h0
        · split at h0
          · cases h0
          · split at h0
            · cases h0
            · rename_i h4
              simp only [Bool.or_eq_true, not_or, Bool.not_eq_true] at h4
              refine ⟨h4.2, ?_⟩
              obtain ⟨i, d, x, hl⟩ : ∃ i d x, lookS (fnd · T.L) s = (i, d, x) := ⟨_, _, _, rfl⟩
              rw [hl] at h1
              have hx : x = 0 := h1
              subst hx
              obtain ⟨P, hP, _⟩ := lookS_ok hl
              exact ⟨P, hP⟩
      · rename_i h1; exact absurd h0 h1
    obtain ⟨hno, P, hs⟩ := hno
    rw [List.any_eq_false] at hno
    refine ⟨h.rises.filter _, fun n hn => ?_, fun n hn => h.ids n (List.mem_filter.1 hn).1, fun a ha b hb e => h.uniq a (List.mem_filter.1 ha).1 b (List.mem_filter.1 hb).1 e, h.nx1, ?_⟩
    · obtain ⟨Q, h1, h2, h3⟩ := h.path n (List.mem_filter.1 hn).1
      refine ⟨Q, h1, h2, ?_⟩
      rcases h3 with h3 | ⟨m, h4, h5, h6⟩
      · exact .inl h3
      · refine .inr ⟨m, List.mem_filter.2 ⟨h4, ?_⟩, h5, h6⟩
        simp only [Bool.not_eq_true', decide_eq_false_iff_not]
        intro e
        have hm : psplit m.path = some Q.dropLast := by rw [h5]; exact psplit_pjoin (psplit_ok h1).1.dropLast
        rw [e, hs] at hm
        have hPQ := Option.some.inj hm
        have hq : 0 < Q.length := List.length_pos_iff.2 h2
        have := hno n (List.mem_filter.1 hn).1
        rw [under_parts h1 hs, hPQ] at this
        apply this
        simp only [Bool.and_eq_true, decide_eq_true_eq, List.length_dropLast]
        exact ⟨by omega, by rw [List.dropLast_eq_take]⟩
    · exact Nat.le_trans (List.length_filter_le _ _) h.few
  · rw [if_neg h0]; exact h

/-! ### Rename -/
/-- What stands in no way. -/
structure Ren (T : TS) (src dst : ByteArray) (X Y : List ByteArray) : Prop where
  s : psplit src = some X
  d : psplit dst = some Y
  x : X ≠ []
  y : Y ≠ []
  ne : src ≠ dst
  loop : punder dst src = false
  node : ∃ n ∈ T.L, n.path = src
  ahead : Y.dropLast = [] ∨ ∃ m ∈ T.L, m.path = pjoin Y.dropLast ∧ m.dir = true
  there : ∀ m ∈ T.L, m.path = dst → m.dir = false ∧ ∀ n ∈ T.L, n.path = src → n.dir = false
  deep : ∀ n ∈ T.L, movesN src n = true → ∃ Q, psplit (newPath src dst n.path) = some Q
theorem ren_of {T : TS} (h : TInv T) {src dst : ByteArray} (h0 : canRenS T.L src dst = 0) (hne : src ≠ dst) : ∃ X Y, Ren T src dst X Y := by
  unfold canRenS at h0
  cases h1 : psplit src with
  | none => rw [h1] at h0; cases h0
  | some X =>
    cases h2 : psplit dst with
    | none => rw [h1, h2] at h0; cases h0
    | some Y =>
      rw [h1, h2] at h0
      obtain ⟨i, d, x, hl⟩ : ∃ i d x, lookS (fnd · T.L) src = (i, d, x) := ⟨_, _, _, rfl⟩
      rw [hl] at h0
      dsimp only at h0
      split at h0
      · rename_i hx
        subst hx
        split at h0
        · cases h0
        · rename_i hX
          split at h0
          · cases h0
          · rename_i hU
            split at h0
            · rename_i hA
              split at h0
              · cases h0
              · rename_i hTh
                split at h0
                · cases h0
                · rename_i hDp
                  have hX : X ≠ [] := by simpa using hX
                  simp only [Bool.or_eq_true, not_or, Bool.not_eq_true, List.isEmpty_eq_false_iff] at hTh
                  obtain ⟨P, hP, hor⟩ := lookS_ok hl
                  rw [h1] at hP
                  cases hP
                  rcases hor with ⟨e, _⟩ | ⟨_, n, hn, _, hnd⟩
                  · exact absurd e hX
                  · obtain ⟨hn1, hn2⟩ := fnd_some hn
                    refine ⟨X, Y, h1, h2, hX, hTh.1, hne, by simpa using hU, ⟨n, hn1, hn2⟩, ahead_ok h2 hTh.1 hA, fun m hm hmp => ?_, fun k hk hkm => ?_⟩
                    · have hf := fnd_mem h.rises.apart hm
                      rw [hmp] at hf
                      have := hTh.2
                      unfold thereS at this
                      rw [hf] at this
                      simp only [Bool.or_eq_false_iff] at this
                      refine ⟨this.1, fun n' hn' hp' => ?_⟩
                      have : n' = n := apart_uniq h.rises.apart hn' hn1 (hp'.trans hn2.symm)
                      subst this
                      rw [← hnd]; exact this.2
                    · simp only [List.any_eq_true, not_exists, not_and, List.mem_filter, and_imp] at hDp
                      have := hDp k hk hkm
                      cases hq : psplit (newPath src dst k.path) with
                      | none => rw [hq] at this; exact absurd rfl this
                      | some Q => exact ⟨Q, rfl⟩
            · rename_i hA; exact absurd h0 hA
      · rename_i hx; exact absurd h0 hx
end Go.Proofs.YtahdmkmefeocmaaGreatDoor
namespace Go.Proofs.YtahdmkmefeocmaaGreatDoor
open Go.Lib
set_option linter.unusedVariables false

theorem filter_halves {α : Type} (p : α → Bool) (L : List α) : (L.filter p).length + (L.filter fun n => !p n).length = L.length := by
  induction L with
  | nil => rfl
  | cons a L ih => cases h : p a <;> simp [h] <;> omega
theorem filter_le {α : Type} {p q : α → Bool} (hpq : ∀ a, p a = true → q a = true) (L : List α) : (L.filter p).length ≤ (L.filter q).length := by
  induction L with
  | nil => exact Nat.le_refl _
  | cons a L ih =>
    cases h : p a
    · cases h2 : q a <;> simp [h, h2] <;> omega
    · simp [h, hpq a h]; exact ih
section
variable {T : TS} {src dst : ByteArray} {X Y : List ByteArray}
/-- A node that moves: its parts begin with the path's. -/
theorem moves_parts (h : TInv T) (r : Ren T src dst X Y) {n : Nd} (hn : n ∈ T.L) : ∃ Z, psplit n.path = some Z ∧ Z ≠ [] ∧ (movesN src n = true ↔ Z.take X.length = X) := by
  obtain ⟨Z, hz, hne⟩ := psplit_of_mem h hn
  refine ⟨Z, hz, hne, ?_⟩
  unfold movesN
  rw [Bool.or_eq_true, decide_eq_true_eq]
  constructor
  · rintro (e | e)
    · rw [e, r.s] at hz
      cases hz
      simp
    · exact (under_split hz r.s e).2
  · intro ht
    by_cases hl : X.length < Z.length
    · right; rw [under_parts hz r.s]; simp [hl, ht]
    · left
      have hle : Z.length ≤ X.length := by omega
      rw [List.take_of_length_le hle] at ht
      rw [← (psplit_ok hz).2, ht, (psplit_ok r.s).2]
theorem new_parts (h : TInv T) (r : Ren T src dst X Y) {n : Nd} (hn : n ∈ T.L) (hm : movesN src n = true) {Z : List ByteArray} (hz : psplit n.path = some Z) : psplit (newPath src dst n.path) = some (Y ++ Z.drop X.length) ∧ newPath src dst n.path = pjoin (Y ++ Z.drop X.length) := by
  obtain ⟨Q, hQ⟩ := r.deep n hn hm
  have e : newPath src dst n.path = pjoin (Y ++ Z.drop X.length) := by unfold newPath partsN; rw [r.s, r.d, hz]; rfl
  refine ⟨?_, e⟩
  rw [e] at hQ ⊢
  have hnm : ∀ x ∈ Y ++ Z.drop X.length, nameOk x = true := fun x hx => by
    rcases List.mem_append.1 hx with hx | hx
    · exact (psplit_ok r.d).1.names x hx
    · exact (psplit_ok hz).1.names x (List.mem_of_mem_drop hx)
  rw [psplit_names hnm hQ] at hQ
  exact hQ
/-- Nothing lies under the new path. -/
theorem none_under (h : TInv T) (r : Ren T src dst X Y) {m : Nd} (hm : m ∈ T.L) {Z : List ByteArray} (hz : psplit m.path = some Z) (ht : Z.take Y.length = Y) : Z = Y := by
  by_cases hl : Y.length < Z.length
  · exfalso
    obtain ⟨k, h1, h2, h3⟩ := h.anc Z.length m Z hm hz rfl Y.length (List.length_pos_iff.2 r.y) hl
    rw [ht, (psplit_ok r.d).2] at h2
    have := (r.there k h1 h2).1
    rw [h3] at this; cases this
  · have hle : Z.length ≤ Y.length := by omega
    rwa [List.take_of_length_le hle] at ht
/-- The new path is not one of those that move. -/
theorem dst_moves (r : Ren T src dst X Y) : Y.take X.length ≠ X := by
  intro ht
  by_cases hl : X.length < Y.length
  · have := r.loop
    rw [under_parts r.d r.s] at this
    simp [hl, ht] at this
  · have hle : Y.length ≤ X.length := by omega
    rw [List.take_of_length_le hle] at ht
    apply r.ne
    rw [← (psplit_ok r.s).2, ← (psplit_ok r.d).2, ht]
theorem new_apart (h : TInv T) (r : Ren T src dst X Y) {a b : Nd} (ha : a ∈ T.L) (hma : movesN src a = true) (hb : b ∈ T.L) (e : newPath src dst a.path = b.path) : b.path = dst ∧ movesN src b = false ∧ a.path = src := by
  obtain ⟨Za, hza, _, ia⟩ := moves_parts h r ha
  obtain ⟨Zb, hzb, _, ib⟩ := moves_parts h r hb
  have h1 := (new_parts h r ha hma hza).1
  rw [e, hzb] at h1
  have h2 := Option.some.inj h1
  have h3 : Zb = Y := none_under h r hb hzb (by rw [h2, List.take_left])
  have h4 : b.path = dst := by rw [← (psplit_ok hzb).2, h3, (psplit_ok r.d).2]
  refine ⟨h4, ?_, ?_⟩
  · cases hmb : movesN src b
    · rfl
    · have := ib.1 hmb
      rw [h3] at this
      exact absurd this (dst_moves r)
  · have h5 : Za.drop X.length = [] := by
      rw [h3] at h2
      have := congrArg List.length h2
      rw [List.length_append] at this
      exact List.eq_nil_of_length_eq_zero (by omega)
    have h6 := ia.1 hma
    have h7 : Za = X := by
      rw [← List.take_append_drop X.length Za, h6, h5, List.append_nil]
    rw [← (psplit_ok hza).2, h7, (psplit_ok r.s).2]
theorem new_inj (h : TInv T) (r : Ren T src dst X Y) {a b : Nd} (ha : a ∈ T.L) (hma : movesN src a = true) (hb : b ∈ T.L) (hmb : movesN src b = true) (e : newPath src dst a.path = newPath src dst b.path) : a = b := by
  obtain ⟨Za, hza, _, ia⟩ := moves_parts h r ha
  obtain ⟨Zb, hzb, _, ib⟩ := moves_parts h r hb
  have h1 := (new_parts h r ha hma hza).1
  rw [e, (new_parts h r hb hmb hzb).1] at h1
  have h2 : Zb.drop X.length = Za.drop X.length := List.append_cancel_left (Option.some.inj h1)
  have e1 := List.take_append_drop X.length Za
  have e2 := List.take_append_drop X.length Zb
  rw [ia.1 hma] at e1
  rw [ib.1 hmb] at e2
  have h3 : Za = Zb := by rw [← e1, ← e2, h2]
  apply apart_uniq h.rises.apart ha hb
  rw [← (psplit_ok hza).2, ← (psplit_ok hzb).2, h3]

/-- What stays. -/
theorem mem_rest {n : Nd} : n ∈ restS T.L src dst ↔ n ∈ T.L ∧ movesN src n = false ∧ n.path ≠ dst := by
  unfold restS
  rw [List.mem_filter]
  simp
theorem moved_apart (h : TInv T) (r : Ren T src dst X Y) : Apart (restS T.L src dst ++ (T.L.filter (movesN src)).map (moveN src dst)) := by
  refine List.pairwise_append.2 ⟨List.Pairwise.filter _ h.rises.apart, ?_, ?_⟩
  · refine List.pairwise_map.2 ?_
    refine (List.Pairwise.filter (movesN src) h.rises.apart).imp_of_mem fun {a b} ha hb hne e => hne ?_
    obtain ⟨ha1, ha2⟩ := List.mem_filter.1 ha
    obtain ⟨hb1, hb2⟩ := List.mem_filter.1 hb
    rw [new_inj h r ha1 ha2 hb1 hb2 e]
  · intro a ha b hb e
    obtain ⟨c, hc, rfl⟩ := List.mem_map.1 hb
    obtain ⟨hc1, hc2⟩ := List.mem_filter.1 hc
    obtain ⟨h1, h2, h3⟩ := mem_rest.1 ha
    exact h3 (new_apart h r hc1 hc2 h1 e.symm).1
theorem ren_perm : (((T.L.filter (movesN src)).map (moveN src dst)).foldl (fun R n => insN n R) (restS T.L src dst)).Perm (restS T.L src dst ++ (T.L.filter (movesN src)).map (moveN src dst)) := insAll_perm _ _
theorem TInv.ren_ok (h : TInv T) (r : Ren T src dst X Y) : TInv ⟨((T.L.filter (movesN src)).map (moveN src dst)).foldl (fun R n => insN n R) (restS T.L src dst), T.nx⟩ := by
  have hmem : ∀ n, n ∈ ((T.L.filter (movesN src)).map (moveN src dst)).foldl (fun R n => insN n R) (restS T.L src dst) ↔ (n ∈ T.L ∧ movesN src n = false ∧ n.path ≠ dst) ∨ ∃ a ∈ T.L, movesN src a = true ∧ n = moveN src dst a := fun n => by
    rw [ren_perm.mem_iff, List.mem_append, mem_rest, List.mem_map]
    constructor
    · rintro (h1 | ⟨a, ha, rfl⟩)
      · exact .inl h1
      · exact .inr ⟨a, (List.mem_filter.1 ha).1, (List.mem_filter.1 ha).2, rfl⟩
    · rintro (h1 | ⟨a, h1, h2, rfl⟩)
      · exact .inl h1
      · exact .inr ⟨a, List.mem_filter.2 ⟨h1, h2⟩, rfl⟩
  refine ⟨insAll_rises (h.rises.filter _) (moved_apart h r), fun n hn => ?_, fun n hn => ?_, fun a ha b hb e => ?_, h.nx1, ?_⟩
  · rcases (hmem n).1 hn with ⟨h1, h2, h3⟩ | ⟨a, h1, h2, rfl⟩
    · obtain ⟨Z, hz, hne, hpar⟩ := h.path n h1
      refine ⟨Z, hz, hne, ?_⟩
      rcases hpar with h4 | ⟨m, h4, h5, h6⟩
      · exact .inl h4
      · refine .inr ⟨m, (hmem m).2 (.inl ⟨h4, ?_, ?_⟩), h5, h6⟩
        · cases hmv : movesN src m
          · rfl
          · exfalso
            obtain ⟨Zm, hzm, _, im⟩ := moves_parts h r h4
            obtain ⟨Zn, hzn, _, inn⟩ := moves_parts h r h1
            rw [hz] at hzn
            cases hzn
            have h7 : psplit m.path = some Z.dropLast := by rw [h5]; exact psplit_pjoin (psplit_ok hz).1.dropLast
            rw [hzm] at h7
            have h8 := Option.some.inj h7
            have h9 := im.1 hmv
            have h10 : Z.take X.length = X := by
              have hxl : X.length ≤ Z.dropLast.length := by rw [← h8]; have := congrArg List.length h9; rw [List.length_take] at this; omega
              rw [h8, List.dropLast_eq_take, List.take_take, Nat.min_eq_left (by rw [List.length_dropLast] at hxl; exact hxl)] at h9
              exact h9
            rw [inn.2 h10] at h2; cases h2
        · intro e
          have := (r.there m h4 e).1
          rw [h6] at this; cases this
    · obtain ⟨Z, hz, hne, hpar⟩ := h.path a h1
      obtain ⟨Z', hz', _, ia⟩ := moves_parts h r h1
      rw [hz] at hz'
      cases hz'
      have ht := ia.1 h2
      obtain ⟨n1, n2⟩ := new_parts h r h1 h2 hz
      refine ⟨Y ++ Z.drop X.length, n1, by simp [r.y], ?_⟩
      have hZ : Z = X ++ Z.drop X.length := by conv => lhs; rw [← List.take_append_drop X.length Z, ht]
      by_cases hw : Z.drop X.length = []
      · rw [hw, List.append_nil]
        rcases r.ahead with h4 | ⟨m, h4, h5, h6⟩
        · exact .inl h4
        · refine .inr ⟨m, (hmem m).2 (.inl ⟨h4, ?_, ?_⟩), h5, h6⟩
          · cases hmv : movesN src m
            · rfl
            · exfalso
              obtain ⟨Zm, hzm, _, im⟩ := moves_parts h r h4
              have h7 : psplit m.path = some Y.dropLast := by rw [h5]; exact psplit_pjoin (psplit_ok r.d).1.dropLast
              rw [hzm] at h7
              have h8 := Option.some.inj h7
              have h9 := im.1 hmv
              apply dst_moves r
              have hxl : X.length ≤ Y.dropLast.length := by rw [← h8]; have := congrArg List.length h9; rw [List.length_take] at this; omega
              rw [h8, List.dropLast_eq_take, List.take_take, Nat.min_eq_left (by rw [List.length_dropLast] at hxl; exact hxl)] at h9
              exact h9
          · intro e
            have := (r.there m h4 e).1
            rw [h6] at this; cases this
      · rcases hpar with h4 | ⟨m, h4, h5, h6⟩
        · exfalso
          have hx := List.length_pos_iff.2 r.x
          have hz1 : Z.length ≤ 1 := by have := congrArg List.length h4; rw [List.length_dropLast, List.length_nil] at this; omega
          have := congrArg List.length ht
          rw [List.length_take] at this
          apply hw
          exact List.eq_nil_of_length_eq_zero (by rw [List.length_drop]; omega)
        · have h7 : psplit m.path = some Z.dropLast := by rw [h5]; exact psplit_pjoin (psplit_ok hz).1.dropLast
          have hzl : X.length < Z.length := by
            have := List.length_pos_iff.2 hw
            rw [List.length_drop] at this; omega
          obtain ⟨Zm, hzm, _, im⟩ := moves_parts h r h4
          rw [h7] at hzm
          cases hzm
          have h8 : Z.dropLast.take X.length = X := by rw [List.dropLast_eq_take, List.take_take, Nat.min_eq_left (by omega)]; exact ht
          have hmv := im.2 h8
          refine .inr ⟨moveN src dst m, (hmem _).2 (.inr ⟨m, h4, hmv, rfl⟩), ?_, h6⟩
          have h9 := (new_parts h r h4 hmv h7).2
          show newPath src dst m.path = _
          rw [h9]
          congr 1
          rw [List.dropLast_append_of_ne_nil hw, List.dropLast_eq_take, List.dropLast_eq_take, List.drop_take, List.length_drop]
          congr 1
          congr 1
          omega
  · rcases (hmem n).1 hn with ⟨h1, _⟩ | ⟨a, h1, _, rfl⟩
    · exact h.ids n h1
    · exact h.ids a h1
  · rcases (hmem a).1 ha with ⟨a1, a2, a3⟩ | ⟨a', a1, a2, rfl⟩
    · rcases (hmem b).1 hb with ⟨b1, b2, b3⟩ | ⟨b', b1, b2, rfl⟩
      · exact h.uniq a a1 b b1 e
      · have := h.uniq a a1 b' b1 e
        subst this
        rw [a2] at b2; cases b2
    · rcases (hmem b).1 hb with ⟨b1, b2, b3⟩ | ⟨b', b1, b2, rfl⟩
      · have := h.uniq a' a1 b b1 e
        subst this
        rw [b2] at a2; cases a2
      · rw [h.uniq a' a1 b' b1 e]
  · show List.length _ ≤ 64
    rw [ren_perm.length_eq, List.length_append, List.length_map]
    have h1 : (restS T.L src dst).length ≤ (T.L.filter fun n => !movesN src n).length := by
      unfold restS
      exact filter_le (fun n hn => by simp at hn ⊢; exact hn.1) T.L
    have h2 := filter_halves (movesN src) T.L
    have := h.few
    omega
theorem TInv.ren (h : TInv T) (s d : ByteArray) : TInv (renS T s d).1 := by
  unfold renS
  by_cases h0 : canRenS T.L s d = 0
  · rw [if_pos h0]
    by_cases e : s = d
    · rw [if_pos e]; exact h
    · rw [if_neg e]
      obtain ⟨X, Y, r⟩ := ren_of h h0 e
      exact h.ren_ok r
  · rw [if_neg h0]; exact h
end
end Go.Proofs.YtahdmkmefeocmaaGreatDoor
namespace Go.Proofs.YtahdmkmefeocmaaGreatDoor
open Go.Lib
set_option linter.unusedVariables false

/-- Rename: 'n.ID == id || Under(n.Path, from)'. -/
theorem doc_moves {T : TS} (h : TInv T) {src : ByteArray} {n0 : Nd} (h0 : fnd src T.L = some n0) {n : Nd} (hn : n ∈ T.L) : (decide (n.id = n0.id) || punder n.path src) = movesN src n := by
  obtain ⟨h1, h2⟩ := fnd_some h0
  unfold movesN
  congr 1
  rw [Bool.eq_iff_iff, decide_eq_true_eq, decide_eq_true_eq]
  exact ⟨fun e => by rw [h.uniq n hn n0 h1 e, h2], fun e => by rw [apart_uniq h.rises.apart hn h1 (e.trans h2.symm)]⟩
/-- .. 'n.ID != gone'. -/
theorem doc_stays {T : TS} (h : TInv T) {dst : ByteArray} {n : Nd} (hn : n ∈ T.L) : decide (n.id = goneS T.L dst) = decide (n.path = dst) := by
  unfold goneS
  rw [Bool.eq_iff_iff, decide_eq_true_eq, decide_eq_true_eq]
  cases hf : fnd dst T.L with
  | none =>
    refine ⟨fun e => ?_, fun e => absurd e (fnd_none hf n hn)⟩
    have := (h.ids n hn).1
    have e : n.id = -1 := e
    omega
  | some m =>
    obtain ⟨h1, h2⟩ := fnd_some hf
    exact ⟨fun e => by rw [h.uniq n hn m h1 e, h2], fun e => by rw [apart_uniq h.rises.apart hn h1 (e.trans h2.symm)]⟩
/-- Drop: 'n.ID != id'. -/
theorem doc_drops {T : TS} (h : TInv T) {s : ByteArray} {n0 : Nd} (h0 : fnd s T.L = some n0) {n : Nd} (hn : n ∈ T.L) : decide (n.id = n0.id) = decide (n.path = s) := by
  obtain ⟨h1, h2⟩ := fnd_some h0
  rw [Bool.eq_iff_iff, decide_eq_true_eq, decide_eq_true_eq]
  exact ⟨fun e => by rw [h.uniq n hn n0 h1 e, h2], fun e => by rw [apart_uniq h.rises.apart hn h1 (e.trans h2.symm)]⟩

/-- Where a path is: '-2' the root, '-1' nowhere. -/
def atD (L : List Nd) (s : ByteArray) : Int := if s = rootP then -2 else match L.findIdx? (fun n => decide (n.path = s)) with
  | some i => i
  | none => -1
theorem atD_none {L : List Nd} {s : ByteArray} (hr : s ≠ rootP) (h : fnd s L = none) : atD L s = -1 := by
  unfold atD
  rw [if_neg hr, List.findIdx?_eq_none_iff.2 fun n hn => by simpa using fnd_none h n hn]
theorem atD_some {L : List Nd} {s : ByteArray} (hr : s ≠ rootP) {n : Nd} (h : fnd s L = some n) : ∃ i : Nat, i < L.length ∧ atD L s = i ∧ L.getD i default = n ∧ L[i]? = some n := by
  unfold atD
  rw [if_neg hr]
  cases hq : L.findIdx? (fun n => decide (n.path = s)) with
  | none =>
    obtain ⟨h1, h2⟩ := fnd_some h
    have := List.findIdx?_eq_none_iff.1 hq n h1
    simp [h2] at this
  | some i =>
    have h3 : L[i]? = some n := by
      have e : L.find? (fun n => decide (n.path = s)) = some n := h
      rw [List.find?_eq_bind_findIdx?_getElem?, hq] at e
      exact e
    obtain ⟨hi, _⟩ := List.getElem?_eq_some_iff.1 h3
    exact ⟨i, hi, rfl, by rw [List.getD_eq_getElem?_getD, h3]; rfl, h3⟩
/-- put: the first place whose path is no smaller. -/
def placeD (n : Nd) (L : List Nd) : Nat := (L.takeWhile fun m => ltB m.path n.path).length
theorem put_at (n : Nd) (L : List Nd) : L.take (placeD n L) ++ [n] ++ L.drop (placeD n L) = insN n L := by
  unfold placeD
  induction L with
  | nil => rfl
  | cons m L ih =>
    unfold insN
    rw [List.takeWhile_cons]
    split
    · rename_i h
      rw [List.length_cons, List.take_succ_cons, List.drop_succ_cons, List.cons_append, List.cons_append, ih]
    · rfl
end Go.Proofs.YtahdmkmefeocmaaGreatDoor
namespace Go.Proofs.YtahdmkmefeocmaaGreatDoor
open Go.Lib
set_option linter.unusedVariables false

section
variable {T : TS} {src dst : ByteArray} {X Y : List ByteArray}
/-- The tree behind the move. -/
theorem mem_ren (h : TInv T) (r : Ren T src dst X Y) (hg : fnd dst T.L = none) (n : Nd) : n ∈ (((T.L.filter (movesN src)).map (moveN src dst)).foldl (fun R n => insN n R) (restS T.L src dst)) ↔ (n ∈ T.L ∧ movesN src n = false) ∨ ∃ a ∈ T.L, movesN src a = true ∧ n = moveN src dst a := by
  rw [ren_perm.mem_iff, List.mem_append, mem_rest, List.mem_map]
  constructor
  · rintro (⟨h1, h2, h3⟩ | ⟨a, ha, rfl⟩)
    · exact .inl ⟨h1, h2⟩
    · exact .inr ⟨a, (List.mem_filter.1 ha).1, (List.mem_filter.1 ha).2, rfl⟩
  · rintro (⟨h1, h2⟩ | ⟨a, h1, h2, rfl⟩)
    · exact .inl ⟨h1, h2, fnd_none hg n h1⟩
    · exact .inr ⟨a, List.mem_filter.2 ⟨h1, h2⟩, rfl⟩
/-- What stays does not lie under the new path. -/
theorem stay_back (h : TInv T) (r : Ren T src dst X Y) (hg : fnd dst T.L = none) {n : Nd} (hn : n ∈ T.L) : movesN dst n = false := by
  cases hm : movesN dst n
  · rfl
  · exfalso
    obtain ⟨Z, hz, _⟩ := psplit_of_mem h hn
    unfold movesN at hm
    rw [Bool.or_eq_true, decide_eq_true_eq] at hm
    rcases hm with e | e
    · exact fnd_none hg n hn e
    · have h1 := under_split hz r.d e
      have h2 := none_under h r hn hz h1.2
      rw [h2] at h1
      omega
theorem moved_back (h : TInv T) (r : Ren T src dst X Y) {a : Nd} (ha : a ∈ T.L) (hm : movesN src a = true) : movesN dst (moveN src dst a) = true ∧ moveN dst src (moveN src dst a) = a ∧ psplit a.path ≠ none := by
  obtain ⟨Z, hz, hne, hi⟩ := moves_parts h r ha
  have ht := hi.1 hm
  obtain ⟨h1, h2⟩ := new_parts h r ha hm hz
  have hZ : Z = X ++ Z.drop X.length := by conv => lhs; rw [← List.take_append_drop X.length Z, ht]
  refine ⟨?_, ?_, by rw [hz]; simp⟩
  · unfold movesN
    rw [Bool.or_eq_true, decide_eq_true_eq]
    by_cases hw : Z.drop X.length = []
    · left
      show newPath src dst a.path = dst
      rw [h2, hw, List.append_nil, (psplit_ok r.d).2]
    · right
      show punder (newPath src dst a.path) dst = true
      rw [under_parts h1 r.d]
      have := List.length_pos_iff.2 hw
      rw [List.length_drop] at this
      simp
      omega
  · have e : newPath dst src (newPath src dst a.path) = a.path := by
      unfold newPath at h1 ⊢
      unfold partsN at h1 ⊢
      rw [r.s, r.d, hz] at h1
      rw [r.s, r.d, hz]
      simp only [Option.getD_some] at h1 ⊢
      rw [h1]
      simp only [Option.getD_some, List.drop_left]
      rw [← hZ, (psplit_ok hz).2]
    show (⟨newPath dst src (newPath src dst a.path), a.id, a.dir⟩ : Nd) = a
    rw [e]
theorem ahead_of_dir {T1 : TS} (h : TInv T1) {X : List ByteArray} (hp : X.dropLast = [] ∨ ∃ m ∈ T1.L, m.path = pjoin X.dropLast ∧ m.dir = true) : aheadS (fnd · T1.L) X = 0 := by
  unfold aheadS
  split
  · rfl
  · rcases hp with e | ⟨m, h1, h2, h3⟩
    · rw [e, pjoin_nil]
      have : lookS (fnd · T1.L) ⟨#[47]⟩ = (0, true, 0) := by
        unfold lookS
        rw [show psplit ⟨#[47]⟩ = some [] by decide +kernel]
        rfl
      rw [this]; rfl
    · rw [← h2, h.look h1, h3]; rfl
/-- There and back again. -/
theorem back_ok (h : TInv T) (r : Ren T src dst X Y) (hg : fnd dst T.L = none) : canRenS (((T.L.filter (movesN src)).map (moveN src dst)).foldl (fun R n => insN n R) (restS T.L src dst)) dst src = 0 := by
  have h1 := h.ren_ok r
  have hmem := mem_ren h r hg
  obtain ⟨n0, hn0, hp0⟩ := r.node
  have hm0 : movesN src n0 = true := by unfold movesN; simp [hp0]
  have hmv : moveN src dst n0 ∈ (((T.L.filter (movesN src)).map (moveN src dst)).foldl (fun R n => insN n R) (restS T.L src dst)) := (hmem _).2 (.inr ⟨n0, hn0, hm0, rfl⟩)
  have hpd : (moveN src dst n0).path = dst := by show newPath src dst n0.path = dst; rw [hp0]; exact newPath_self r.s r.d
  have hlk := h1.look hmv
  rw [hpd] at hlk
  have hz0 : psplit n0.path = some X := by rw [hp0]; exact r.s
  generalize hL : (((T.L.filter (movesN src)).map (moveN src dst)).foldl (fun R n => insN n R) (restS T.L src dst)) = L1 at *
  have hun : punder src dst = false := by
    rw [under_parts r.s r.d]
    cases hc : (decide (Y.length < X.length) && decide (X.take Y.length = Y))
    · rfl
    · exfalso
      rw [Bool.and_eq_true, decide_eq_true_eq, decide_eq_true_eq] at hc
      have := none_under h r hn0 hz0 hc.2
      rw [this] at hc
      omega
  have hah : aheadS (fnd · L1) X = 0 := by
    refine ahead_of_dir h1 ?_
    obtain ⟨Z, hz, hne, hpar⟩ := h.path n0 hn0
    rw [hz0] at hz
    cases hz
    rcases hpar with e | ⟨m, a1, a2, a3⟩
    · exact .inl e
    · refine .inr ⟨m, (hmem m).2 (.inl ⟨a1, ?_⟩), a2, a3⟩
      cases hmm : movesN src m
      · rfl
      · exfalso
        obtain ⟨Zm, hzm, _, im⟩ := moves_parts h r a1
        have h7 : psplit m.path = some X.dropLast := by rw [a2]; exact psplit_pjoin (psplit_ok r.s).1.dropLast
        rw [hzm] at h7
        have h8 := Option.some.inj h7
        have h9 := congrArg List.length (im.1 hmm)
        have hx := List.length_pos_iff.2 r.x
        rw [h8, List.length_take, List.length_dropLast] at h9
        omega
  have hsn : fnd src L1 = none := by
    cases hq : fnd src L1 with
    | none => rfl
    | some m =>
      exfalso
      obtain ⟨b1, b2⟩ := fnd_some hq
      rcases (hmem m).1 b1 with ⟨c1, c2⟩ | ⟨a, c1, c2, rfl⟩
      · unfold movesN at c2
        simp [b2] at c2
      · have := new_apart h r c1 c2 hn0 (by rw [hp0]; exact b2)
        rw [hm0] at this
        cases this.2.1
  have hdeep : (L1.filter (movesN dst)).any (fun n => (psplit (newPath dst src n.path)).isNone) = false := by
    rw [List.any_eq_false]
    intro n hn
    obtain ⟨b1, b2⟩ := List.mem_filter.1 hn
    rcases (hmem n).1 b1 with ⟨c1, c2⟩ | ⟨a, c1, c2, rfl⟩
    · rw [stay_back h r hg c1] at b2; cases b2
    · have h9 := moved_back h r c1 c2
      have h10 : newPath dst src (moveN src dst a).path = a.path := by have := congrArg Nd.path h9.2.1; exact this
      rw [h10]
      cases hq : psplit a.path with
      | none => exact absurd hq h9.2.2
      | some Q => simp
  unfold canRenS
  rw [r.d, r.s]
  dsimp only
  have hlk : lookS (fnd · L1) dst = ((moveN src dst n0).id, (moveN src dst n0).dir, 0) := hlk
  rw [hlk]
  dsimp only
  rw [if_pos rfl, show Y.isEmpty = false by simpa using r.y, if_neg (by decide), hun, if_neg (by decide), if_pos hah, if_neg (fun e => r.ne e.symm)]
  unfold thereS
  rw [hsn, show X.isEmpty = false by simpa using r.x, hdeep]
  rfl
theorem there_back (h : TInv T) (hc : canRenS T.L src dst = 0) (hne : src ≠ dst) (hg : fnd dst T.L = none) : (renS (renS T src dst).1 dst src).1 = T ∧ (renS (renS T src dst).1 dst src).2.2 = 0 := by
  obtain ⟨X, Y, r⟩ := ren_of h hc hne
  have e1 : (renS T src dst).1 = ⟨((T.L.filter (movesN src)).map (moveN src dst)).foldl (fun R n => insN n R) (restS T.L src dst), T.nx⟩ := by unfold renS; rw [if_pos hc, if_neg hne]
  have h1 := h.ren_ok r
  have hb := back_ok h r hg
  have hmem := mem_ren h r hg
  rw [e1]
  generalize hL : (((T.L.filter (movesN src)).map (moveN src dst)).foldl (fun R n => insN n R) (restS T.L src dst)) = L1 at *
  obtain ⟨Y', X', r'⟩ := ren_of h1 hb (fun e => hne e.symm)
  have e2 : renS ⟨L1, T.nx⟩ dst src = (⟨((L1.filter (movesN dst)).map (moveN dst src)).foldl (fun R n => insN n R) (restS L1 dst src), T.nx⟩, goneS L1 src, 0) := by unfold renS; rw [if_pos hb, if_neg (fun e => hne e.symm)]
  rw [e2]
  refine ⟨?_, rfl⟩
  have key : ((L1.filter (movesN dst)).map (moveN dst src)).foldl (fun R n => insN n R) (restS L1 dst src) = T.L := by
    refine rises_uniq (h1.ren_ok r').rises h.rises ((ren_perm (T := ⟨L1, T.nx⟩)).trans ?_)
    refine (fun (a : Apart _) (b : Apart _) (c : ∀ x, x ∈ _ ↔ x ∈ _) => (List.perm_ext_iff_of_nodup (a.imp fun {x y} hxy e => hxy (by rw [e])) (b.imp fun {x y} hxy e => hxy (by rw [e]))).2 c) (moved_apart h1 r') h.rises.apart fun m => ?_
    rw [List.mem_append, List.mem_map]
    show (m ∈ restS (TS.L ⟨L1, T.nx⟩) dst src ∨ _) ↔ _
    rw [mem_rest]
    constructor
    · rintro (⟨a1, a2, a3⟩ | ⟨b, b1, rfl⟩)
      · rcases (hmem m).1 a1 with ⟨c1, _⟩ | ⟨a, c1, c2, rfl⟩
        · exact c1
        · rw [(moved_back h r c1 c2).1] at a2; cases a2
      · obtain ⟨b1, b2⟩ := List.mem_filter.1 b1
        rcases (hmem b).1 b1 with ⟨c1, _⟩ | ⟨a, c1, c2, rfl⟩
        · rw [stay_back h r hg c1] at b2; cases b2
        · rw [(moved_back h r c1 c2).2.1]; exact c1
    · intro hm
      cases hmm : movesN src m
      · refine .inl ⟨(hmem m).2 (.inl ⟨hm, hmm⟩), stay_back h r hg hm, fun e => ?_⟩
        unfold movesN at hmm
        simp [e] at hmm
      · refine .inr ⟨moveN src dst m, List.mem_filter.2 ⟨(hmem _).2 (.inr ⟨m, hm, hmm, rfl⟩), (moved_back h r hm hmm).1⟩, (moved_back h r hm hmm).2.1⟩
  rw [key]
end
end Go.Proofs.YtahdmkmefeocmaaGreatDoor
