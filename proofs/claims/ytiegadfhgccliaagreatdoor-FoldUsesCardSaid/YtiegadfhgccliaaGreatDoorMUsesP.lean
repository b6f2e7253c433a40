/- FoldUses in plain Lean: a file of its own, written over, cut off, gone. -/
import Derived.Test.YtiegadfhgccliaaGreatDoorMStateI
import Derived.Test.YtiegadfhgccliaaGreatDoorMUsesL
namespace Go.Proofs.YtiegadfhgccliaaGreatDoor
open Go.Lib

/-- A state in which this file came last. -/
structure LastF (S : FS) (fs : List (Int × Bd)) (id : Int) (s : ByteArray) (b : Bd) : Prop where
  inv : FInv S
  fs : S.fs = fs ++ [(id, b)]
  node : ⟨s, id, false⟩ ∈ S.t.L
theorem LastF.has {S : FS} {fs : List (Int × Bd)} {id : Int} {s : ByteArray} {b : Bd} (h : LastF S fs id s b) : bodyOf S.fs id = some b :=
  bodyOf_mem h.inv.once (by rw [h.fs]; simp)
theorem LastF.file {S : FS} {fs : List (Int × Bd)} {id : Int} {s : ByteArray} {b : Bd} (h : LastF S fs id s b) : fileS S.t s = (id, 0) := by
  have := h.inv.t.look h.node
  unfold fileS
  rw [this]
  rfl
theorem LastF.none {S : FS} {fs : List (Int × Bd)} {id : Int} {s : ByteArray} {b : Bd} (h : LastF S fs id s b) : ∀ f ∈ fs, f.1 ≠ id := by
  have h1 := h.inv.once
  rw [h.fs] at h1
  intro f hf
  exact (List.pairwise_append.1 h1).2.2 f hf (id, b) (by simp)
theorem LastF.set {S : FS} {fs : List (Int × Bd)} {id : Int} {s : ByteArray} {b : Bd} (h : LastF S fs id s b) (c : Bd) : setF S.fs id c = fs ++ [(id, c)] := by
  unfold setF
  rw [h.fs, List.map_append, List.map_cons, List.map_nil, if_pos rfl]
  have h2 : fs.map (fun f => if f.1 = id then (id, c) else f) = fs := by
    refine (List.map_congr_left (g := fun x => x) fun f hf => ?_).trans (List.map_id' fs)
    rw [if_neg (h.none f hf)]
  rw [h2]
theorem LastF.drop {S : FS} {fs : List (Int × Bd)} {id : Int} {s : ByteArray} {b : Bd} (h : LastF S fs id s b) : dropF S.fs id = fs := by
  unfold dropF
  rw [h.fs, List.filter_append]
  have : List.filter (fun f => !decide (f.1 = id)) fs = fs := List.filter_eq_self.2 fun f hf => by simpa using h.none f hf
  rw [this]
  simp
theorem last_create {S S' : FS} {e : Ev} {l : List Bp} (h : FInv S) (he : e.op = 1) (h0 : applyS S e l = (S', 0)) : LastF S' S.fs S.t.nx e.path ⟨0, []⟩ := by
  have hi := h.apply e l
  rw [h0] at hi
  have hc : canS S.t.L e.path = 0 := by
    unfold applyS at h0
    by_cases hx : checkS S e = 0
    · unfold checkS at hx; rw [if_pos (.inl he)] at hx; exact hx
    · rw [if_neg hx] at h0; injection h0 with h1 h2; exact absurd h2 hx
  have hx : checkS S e = 0 := by unfold checkS; rw [if_pos (.inl he)]; exact hc
  have h1 : applyS S e l = (⟨(makeS S.t e.path false).1, S.fs ++ [((makeS S.t e.path false).2.1, ⟨0, []⟩)]⟩, 0) := by unfold applyS; rw [if_pos hx, if_pos he]
  have e2 : makeS S.t e.path false = (⟨insN ⟨e.path, S.t.nx, false⟩ S.t.L, S.t.nx + 1⟩, S.t.nx, 0) := by unfold makeS; rw [if_pos hc]
  rw [e2] at h1
  rw [h1] at h0
  injection h0 with h0 _
  subst h0
  exact ⟨hi, rfl, (insN_perm _ _).mem_iff.2 (by simp)⟩
theorem LastF.write {S : FS} {fs : List (Int × Bd)} {id : Int} {s : ByteArray} {b : Bd} (h : LastF S fs id s b) {c : Bd} {l : List Bp} {e : Ev} (e1 : e.op = 3) (e2 : e.path = s) (e3 : e.off = 0) (e4 : e.data = []) (hw : writeS b 0 l = (c, 0)) :
    ∃ S', applyS S e l = (S', 0) ∧ LastF S' fs id s c := by
  have hx : checkS S e = 0 := by
    unfold checkS
    rw [if_neg (by omega), if_pos e1, e2, h.file, if_pos rfl, e4, e3]
    rfl
  have h1 : applyS S e l = putS S e l := by unfold applyS; rw [if_pos hx, if_neg (by omega), if_neg (by omega), if_pos e1]
  have h2 : putS S e l = (⟨S.t, setF S.fs id c⟩, 0) := by
    unfold putS
    rw [e2, h.file, e4, e3]
    dsimp only
    rw [h.has, Option.getD_some, hw, if_neg (by simp), if_pos rfl]
  have hi := h.inv.apply e l
  rw [h1, h2] at hi
  refine ⟨_, h1.trans h2, hi, h.set c, h.node⟩
theorem LastF.trunc {S : FS} {fs : List (Int × Bd)} {id : Int} {s : ByteArray} {b : Bd} (h : LastF S fs id s b) {l : List Bp} {e : Ev} (e1 : e.op = 4) (e2 : e.path = s) (e3 : e.size = 0) :
    ∃ S', applyS S e l = (S', 0) ∧ LastF S' fs id s (truncS b 0).1 := by
  have hx : checkS S e = 0 := by
    unfold checkS
    rw [if_neg (by omega), if_neg (by omega), if_pos e1, e2, h.file, if_pos rfl, e3]
    rfl
  have h1 : applyS S e l = (⟨S.t, setF S.fs id (truncS b 0).1⟩, 0) := by
    unfold applyS
    rw [if_pos hx, if_neg (by omega), if_neg (by omega), if_neg (by omega), if_pos e1, e2, h.file, e3]
    dsimp only
    rw [h.has, Option.getD_some]
  have hi := h.inv.apply e l
  rw [h1] at hi
  exact ⟨_, h1, hi, h.set _, h.node⟩
theorem LastF.unlink {S : FS} {fs : List (Int × Bd)} {id : Int} {s : ByteArray} {b : Bd} (h : LastF S fs id s b) {l : List Bp} {e : Ev} (e1 : e.op = 6) (e2 : e.path = s) :
    ∃ S', applyS S e l = (S', 0) ∧ S'.fs = fs := by
  have hl := h.inv.t.look h.node
  dsimp only at hl
  obtain ⟨P, hP, hor⟩ := lookS_ok hl
  have hne : P ≠ [] := by
    rcases hor with ⟨_, h1, _⟩ | ⟨h1, _⟩
    · have := h.inv.t.ids _ h.node
      dsimp only at this
      omega
    · exact h1
  have hd : canDropS S.t.L s false = 0 := by
    unfold canDropS
    rw [hl]
    dsimp only
    rw [if_pos rfl, if_neg (by decide), if_neg (by decide), if_neg]
    rw [Bool.or_eq_true, decide_eq_true_eq]
    rintro (h1 | h1)
    · rw [h1] at hP
      have := psplit_names (L := []) (by simp) (show psplit (pjoin []) = some P by rw [pjoin_nil]; exact hP)
      exact hne this
    · obtain ⟨n, hn, hu⟩ := List.any_eq_true.1 h1
      obtain ⟨Z, hz, hzn⟩ := h.inv.t.path n hn
      rw [under_parts hz hP, Bool.and_eq_true, decide_eq_true_eq, decide_eq_true_eq] at hu
      obtain ⟨m, hm, hmp, hmd⟩ := h.inv.t.anc _ n Z hn hz rfl P.length (List.length_pos_iff.2 hne) hu.1
      rw [hu.2, split_join hP] at hmp
      have := apart_uniq h.inv.t.rises.apart hm h.node hmp
      rw [this] at hmd
      cases hmd
  have hx : checkS S e = 0 := by
    unfold checkS
    rw [if_neg (by omega), if_neg (by omega), if_neg (by omega), if_neg (by omega), if_pos (.inl e1), e2]
    rw [show decide (e.op = 7) = false by rw [e1]; rfl]
    exact hd
  refine ⟨⟨(dropS S.t s false).1, dropF S.fs (dropS S.t s false).2.1⟩, ?_, ?_⟩
  · unfold applyS
    rw [if_pos hx, if_neg (by omega), if_neg (by omega), if_neg (by omega), if_neg (by omega), if_neg (by omega), if_pos (.inl e1), e2]
    rw [show decide (e.op = 7) = false by rw [e1]; rfl]
  · show dropF S.fs (dropS S.t s false).2.1 = fs
    unfold dropS
    rw [if_pos hd, hl]
    exact h.drop
/-! ### uses -/
theorem uses_last (fs : List (Int × Bd)) (id : Int) (b : Bd) : usesS (fs ++ [(id, b)]) [] = usesB b.parts (usesS fs []) := by
  unfold usesS
  rw [List.foldl_append]; rfl
theorem insI_end {n : Int} : ∀ {l : List Int}, (∀ x ∈ l, x < n) → insI n l = l ++ [n]
  | [], _ => rfl
  | a :: r, h => by
    have h1 := h a (by simp)
    have h2 := insI_end (n := n) (l := r) fun x hx => h x (by simp [hx])
    unfold insI
    simp only [h2]
    first
      | rw [if_pos h1]; rfl
      | (split <;> first | omega | (split <;> first | omega | rfl) | rfl)
theorem uses_one (fs : List (Int × Bd)) (id z : Int) (p : Bp) (h : ∀ x ∈ usesS fs [], x < p.ch) : usesS (fs ++ [(id, ⟨z, [p]⟩)]) [] = usesS fs [] ++ [p.ch] := by
  rw [uses_last]
  exact insI_end h
theorem one_may {ln c : Int} (h1 : 1 ≤ ln) (h2 : ln ≤ 64) (hc : 1 ≤ c) (hc2 : c ≤ 4611686018427387904) : mayBd ⟨ln, [⟨0, ln, c, 0⟩]⟩ = true := by
  have hf : fitsP ⟨0, ln, c, 0⟩ = true := by simp [fitsP]; omega
  simp [mayBd, mayFrom, hf]
  omega
theorem write_new {ln ch : Int} (h1 : 1 ≤ ln) (h2 : ln ≤ 64) (h3 : 1 ≤ ch) (h4 : ch ≤ 4611686018427387904) : writeS ⟨0, []⟩ 0 [⟨0, ln, ch, 0⟩] = (⟨ln, [⟨0, ln, ch, 0⟩]⟩, 0) := by
  have hf : fitsP ⟨0, ln, ch, 0⟩ = true := by simp [fitsP]; omega
  unfold writeS
  rw [if_pos ⟨by decide, by simp [hf]⟩]
  have hn : ¬ ((0 : Int) < 0 ∨ 1099511627776 - sumP [⟨0, ln, ch, 0⟩] < 0) := by show ¬ ((0 : Int) < 0 ∨ 1099511627776 - (ln + 0) < 0); omega
  rw [if_neg hn, if_neg (by simp)]
  simp only [List.filterMap_nil, layP, sumP]
  have : max 0 (0 + (ln + 0)) = ln := by omega
  rw [this]; rfl
theorem write_over {ln c ch : Int} (h1 : 1 ≤ ln) (h2 : ln ≤ 64) (hc : 1 ≤ c) (hc2 : c ≤ 4611686018427387904) (h3 : 1 ≤ ch) (h4 : ch ≤ 4611686018427387904) : writeS ⟨ln, [⟨0, ln, c, 0⟩]⟩ 0 [⟨0, 64, ch, 0⟩] = (⟨64, [⟨0, 64, ch, 0⟩]⟩, 0) := by
  have hf : fitsP ⟨0, 64, ch, 0⟩ = true := by simp [fitsP]; omega
  unfold writeS
  rw [if_pos ⟨one_may h1 h2 hc hc2, by simp [hf]⟩]
  have hn : ¬ ((0 : Int) < 0 ∨ 1099511627776 - sumP [⟨0, 64, ch, 0⟩] < 0) := by show ¬ ((0 : Int) < 0 ∨ 1099511627776 - (64 + 0) < 0); omega
  rw [if_neg hn, if_neg (by simp)]
  simp only [sumP]
  have e1 : max ln (0 + (64 + 0)) = 64 := by omega
  have e2 : aheadP 0 ⟨0, ln, c, 0⟩ = none := rfl
  have e3 : behindP (0 + (64 + 0)) ⟨0, ln, c, 0⟩ = none := by unfold behindP; rw [if_pos]; show (0 : Int) + ln ≤ _; omega
  rw [e1, List.filterMap_cons_none e2, List.filterMap_cons_none e3]
  rfl
theorem trunc_none {ln c : Int} (h1 : 1 ≤ ln) (h2 : ln ≤ 64) (hc : 1 ≤ c) (hc2 : c ≤ 4611686018427387904) : (truncS ⟨ln, [⟨0, ln, c, 0⟩]⟩ 0).1 = ⟨0, []⟩ := by
  unfold truncS
  rw [if_pos (one_may h1 h2 hc hc2), if_neg (by omega)]
  rfl
end Go.Proofs.YtiegadfhgccliaaGreatDoor
