/- States in plain Lean: what always holds of a state; each event keeps it. -/
import Derived.Test.YtiegadfhgccliaaGreatDoorMTreeM
import Derived.Test.YtiegadfhgccliaaGreatDoorMTreeR
namespace Go.Proofs.YtiegadfhgccliaaGreatDoor
open Go.Lib

/-! ### Bodies that may be -/
def endF : Int → List Bp → Int
  | a, [] => a
  | _, p :: r => endF (p.off + p.ln) r
theorem mayFrom_append (size : Int) : ∀ (a : Int) (x y : List Bp), mayFrom size a (x ++ y) = (mayFrom size a x && mayFrom size (endF a x) y)
  | a, [], y => by simp [mayFrom, endF]
  | a, p :: r, y => by
    show ((fitsP p && decide (a ≤ p.off) && decide (p.off ≤ size - p.ln)) && mayFrom size (p.off + p.ln) (r ++ y)) = (((fitsP p && decide (a ≤ p.off) && decide (p.off ≤ size - p.ln)) && mayFrom size (p.off + p.ln) r) && mayFrom size (endF (p.off + p.ln) r) y)
    rw [mayFrom_append size _ r y, Bool.and_assoc (fitsP p && decide (a ≤ p.off) && decide (p.off ≤ size - p.ln))]
theorem mayFrom_mk {size a : Int} {p : Bp} {r : List Bp} (h1 : fitsP p = true) (h2 : a ≤ p.off) (h3 : p.off ≤ size - p.ln) (h4 : mayFrom size (p.off + p.ln) r = true) : mayFrom size a (p :: r) = true := by
  unfold mayFrom
  rw [h1, h4, decide_eq_true h2, decide_eq_true h3]
  rfl
theorem fits_cut {p : Bp} {l a : Int} (h : fitsP p = true) (h1 : 1 ≤ l) (h2 : l ≤ p.ln) (h3 : p.at_ ≤ a) (h4 : a + l ≤ p.at_ + p.ln) (o : Int) : fitsP ⟨o, l, p.ch, a⟩ = true := by
  have := fitsP_spec h
  unfold fitsP
  simp only [Bool.and_eq_true, decide_eq_true_eq]
  omega
theorem may_ahead {size s2 q : Int} (hq : q ≤ s2) : ∀ {l : List Bp} {a : Int}, mayFrom size a l = true → mayFrom s2 a (l.filterMap (aheadP q)) = true ∧ endF a (l.filterMap (aheadP q)) ≤ max a q
  | [], a, _ => ⟨rfl, by show a ≤ max a q; omega⟩
  | p :: r, a, h => by
    obtain ⟨h1, h2, h3, h4⟩ := mayFrom_cons h
    have hf := fitsP_spec h1
    by_cases hc : q ≤ p.off
    · have e : (p :: r).filterMap (aheadP q) = [] := ahead_none fun x hx => by
        rcases List.mem_cons.1 hx with rfl | hx
        · exact hc
        · have := mayFrom_later h4 x hx; omega
      rw [e]
      exact ⟨rfl, by show a ≤ max a q; omega⟩
    · have e : aheadP q p = some ⟨p.off, min p.ln (q - p.off), p.ch, p.at_⟩ := by unfold aheadP; rw [if_neg hc]
      rw [List.filterMap_cons, e]
      have ih := may_ahead hq h4
      by_cases hd : p.off + p.ln ≤ q
      · have e2 : min p.ln (q - p.off) = p.ln := by omega
        rw [e2]
        refine ⟨mayFrom_mk (fits_cut h1 (by omega) (by omega) (by omega) (by omega) _) h2 (by show p.off ≤ s2 - p.ln; omega) ih.1, ?_⟩
        show endF (p.off + p.ln) _ ≤ _
        have := ih.2
        omega
      · have e2 : min p.ln (q - p.off) = q - p.off := by omega
        rw [e2]
        have e3 : r.filterMap (aheadP q) = [] := ahead_none fun x hx => by have := mayFrom_later h4 x hx; omega
        rw [e3]
        refine ⟨mayFrom_mk (fits_cut h1 (by omega) (by omega) (by omega) (by omega) _) h2 (by show p.off ≤ s2 - (q - p.off); omega) rfl, ?_⟩
        show p.off + (q - p.off) ≤ _
        omega
theorem may_behind {size s2 q : Int} (hs : size ≤ s2) : ∀ {l : List Bp} {a b : Int}, mayFrom size a l = true → b ≤ max a q → mayFrom s2 b (l.filterMap (behindP q)) = true
  | [], _, _, _, _ => rfl
  | p :: r, a, b, h, hb => by
    obtain ⟨h1, h2, h3, h4⟩ := mayFrom_cons h
    have hf := fitsP_spec h1
    by_cases hc : p.off + p.ln ≤ q
    · have e : behindP q p = none := by unfold behindP; rw [if_pos hc]
      rw [List.filterMap_cons, e]
      exact may_behind hs h4 (by omega)
    · by_cases hd : p.off < q
      · have e : behindP q p = some ⟨q, p.ln - (q - p.off), p.ch, p.at_ + (q - p.off)⟩ := by unfold behindP; rw [if_neg hc, if_pos hd]
        rw [List.filterMap_cons, e]
        refine mayFrom_mk (fits_cut h1 (by omega) (by omega) (by omega) (by omega) _) (by show b ≤ q; omega) (by show q ≤ s2 - (p.ln - (q - p.off)); omega) ?_
        show mayFrom s2 (q + (p.ln - (q - p.off))) _ = true
        exact may_behind hs h4 (by omega)
      · have e : behindP q p = some p := by unfold behindP; rw [if_neg hc, if_neg hd]
        rw [List.filterMap_cons, e]
        exact mayFrom_mk h1 (by omega) (by omega) (may_behind hs h4 (by omega))
theorem sumP_pos : ∀ {l : List Bp}, l.all fitsP = true → 0 ≤ sumP l
  | [], _ => by unfold sumP; omega
  | p :: r, h => by
    rw [List.all_cons, Bool.and_eq_true] at h
    have := fitsP_spec h.1
    have := sumP_pos h.2
    unfold sumP
    omega
theorem may_lay {s2 : Int} : ∀ {l : List Bp} {a q : Int}, l.all fitsP = true → a ≤ q → q + sumP l ≤ s2 → mayFrom s2 a (layP q l) = true ∧ endF a (layP q l) ≤ q + sumP l
  | [], a, q, _, h, _ => ⟨rfl, by show a ≤ q + 0; omega⟩
  | p :: r, a, q, hl, h, hs => by
    rw [List.all_cons, Bool.and_eq_true] at hl
    have hf := fitsP_spec hl.1
    have hp := sumP_pos hl.2
    unfold sumP at hs
    have ih := may_lay (s2 := s2) (a := q + p.ln) (q := q + p.ln) hl.2 (by omega) (by omega)
    unfold layP
    refine ⟨mayFrom_mk (fits_cut hl.1 (by omega) (by omega) (by omega) (by omega) _) h (by show q ≤ s2 - p.ln; omega) ih.1, ?_⟩
    show endF (q + p.ln) _ ≤ q + sumP (p :: r)
    unfold sumP
    have := ih.2
    omega
theorem mayBd_spec {b : Bd} (h : mayBd b = true) : 0 ≤ b.size ∧ b.size ≤ 1099511627776 ∧ mayFrom b.size 0 b.parts = true := by
  unfold mayBd at h
  simp only [Bool.and_eq_true, decide_eq_true_eq] at h
  exact ⟨h.1.1, h.1.2, h.2⟩
theorem mayBd_mk {b : Bd} (h1 : 0 ≤ b.size) (h2 : b.size ≤ 1099511627776) (h3 : mayFrom b.size 0 b.parts = true) : mayBd b = true := by
  unfold mayBd
  rw [decide_eq_true h1, decide_eq_true h2, h3]
  rfl
theorem writeS_may (b : Bd) (off : Int) (l : List Bp) : mayBd (writeS b off l).1 = true := by
  unfold writeS
  split
  · rename_i h
    split
    · rfl
    · rename_i h2
      split
      · exact h.1
      · obtain ⟨h3, h4, h5⟩ := mayBd_spec h.1
        have hp := sumP_pos h.2
        refine mayBd_mk (by show 0 ≤ max _ _; omega) (by show max _ _ ≤ _; omega) ?_
        show mayFrom (max b.size (off + sumP l)) 0 _ = true
        have ha := may_ahead (s2 := max b.size (off + sumP l)) (q := off) (by omega) h5
        have hl := may_lay (s2 := max b.size (off + sumP l)) (a := endF 0 (b.parts.filterMap (aheadP off))) (q := off) h.2 (by have := ha.2; omega) (by omega)
        rw [mayFrom_append, mayFrom_append, ha.1, hl.1]
        refine may_behind (by omega) h5 ?_
        have e : endF 0 (b.parts.filterMap (aheadP off) ++ layP off l) = endF (endF 0 (b.parts.filterMap (aheadP off))) (layP off l) := by
          generalize b.parts.filterMap (aheadP off) = x
          generalize (0 : Int) = z
          induction x generalizing z with
          | nil => rfl
          | cons p r ih => exact ih _
        rw [e]
        have := hl.2
        omega
  · rfl
theorem truncS_may (b : Bd) (size : Int) : mayBd (truncS b size).1 = true := by
  unfold truncS
  split
  · rename_i h
    split
    · rfl
    · obtain ⟨h3, h4, h5⟩ := mayBd_spec h
      exact mayBd_mk (by show 0 ≤ size; omega) (by show size ≤ _; omega) (may_ahead (Int.le_refl _) h5).1
  · rfl
/-- A cut makes one part more at most. -/
theorem cut_len {size from_ to_ : Int} (hft : from_ ≤ to_) : ∀ {l : List Bp} {a : Int}, mayFrom size a l = true → (l.filterMap (aheadP from_)).length + (l.filterMap (behindP to_)).length ≤ l.length + 1
  | [], _, _ => by simp
  | p :: r, a, h => by
    obtain ⟨h1, h2, _, h4⟩ := mayFrom_cons h
    rw [List.filterMap_cons, List.filterMap_cons]
    cases hb : behindP to_ p with
    | none =>
      have ih := cut_len hft h4
      cases ha : aheadP from_ p with
      | none => dsimp only; rw [List.length_cons]; omega
      | some x => dsimp only; rw [List.length_cons, List.length_cons]; omega
    | some y =>
      have hno : r.filterMap (aheadP from_) = [] := by
        refine ahead_none fun q hq => ?_
        have := mayFrom_later h4 q hq
        unfold behindP at hb
        by_cases h6 : p.off + p.ln ≤ to_
        · rw [if_pos h6] at hb; cases hb
        · omega
      rw [hno]
      have := List.length_filterMap_le (behindP to_) r
      cases ha : aheadP from_ p with
      | none => dsimp only; rw [List.length_cons, List.length_cons, List.length_nil]; omega
      | some x => dsimp only; rw [List.length_cons, List.length_cons, List.length_cons, List.length_nil]; omega
theorem layP_len : ∀ (l : List Bp) (q : Int), (layP q l).length = l.length
  | [], _ => rfl
  | p :: r, q => by unfold layP; rw [List.length_cons, List.length_cons, layP_len]
theorem writeS_len (b : Bd) (off : Int) (l : List Bp) : (writeS b off l).1.parts.length ≤ b.parts.length + l.length + 1 := by
  unfold writeS
  split
  · rename_i h
    split
    · simp
    · split
      · show b.parts.length ≤ _; omega
      · have := sumP_pos h.2
        have := cut_len (from_ := off) (to_ := off + sumP l) (by omega) (mayBd_spec h.1).2.2
        show List.length (_ ++ _ ++ _) ≤ _
        rw [List.length_append, List.length_append, layP_len]
        omega
  · simp
theorem truncS_len (b : Bd) (size : Int) : (truncS b size).1.parts.length ≤ b.parts.length := by
  unfold truncS
  split
  · split
    · simp
    · exact List.length_filterMap_le _ _
  · simp

/-! ### What always holds of a state -/
structure FInv (S : FS) : Prop where
  t : TInv S.t
  has : ∀ n ∈ S.t.L, n.dir = false → ∃ b, (n.id, b) ∈ S.fs
  only : ∀ f ∈ S.fs, ∃ n ∈ S.t.L, n.id = f.1 ∧ n.dir = false
  once : S.fs.Pairwise fun a b => a.1 ≠ b.1
  may : ∀ f ∈ S.fs, mayBd f.2 = true
theorem FInv.new : FInv ⟨⟨[], 1⟩, []⟩ := ⟨TInv.new, by simp, by simp, List.Pairwise.nil, by simp⟩
theorem bodyOf_some {fs : List (Int × Bd)} {id : Int} {b : Bd} (h : bodyOf fs id = some b) : (id, b) ∈ fs := by
  unfold bodyOf at h
  cases hf : fs.find? fun f => decide (f.1 = id) with
  | none => rw [hf] at h; cases h
  | some f =>
    rw [hf] at h
    cases h
    have h1 := List.find?_some hf
    have h2 := List.mem_of_find?_eq_some hf
    rw [decide_eq_true_eq] at h1
    rw [← h1]
    exact h2
theorem bodyOf_none {fs : List (Int × Bd)} {id : Int} (h : bodyOf fs id = none) : ∀ f ∈ fs, f.1 ≠ id := by
  intro f hf e
  unfold bodyOf at h
  rw [Option.map_eq_none_iff, List.find?_eq_none] at h
  exact h f hf (by simpa using e)
theorem once_uniq {fs : List (Int × Bd)} (h : fs.Pairwise fun a b => a.1 ≠ b.1) {id : Int} {b c : Bd} (hb : (id, b) ∈ fs) (hc : (id, c) ∈ fs) : b = c := by
  induction fs with
  | nil => cases hb
  | cons f r ih =>
    obtain ⟨h1, h2⟩ := List.pairwise_cons.1 h
    rcases List.mem_cons.1 hb with e1 | m1
    · rcases List.mem_cons.1 hc with e2 | m2
      · rw [← e1] at e2; cases e2; rfl
      · have := h1 _ m2; rw [← e1] at this; exact absurd rfl this
    · rcases List.mem_cons.1 hc with e2 | m2
      · have := h1 _ m1; rw [← e2] at this; exact absurd rfl this
      · exact ih h2 m1 m2
theorem bodyOf_mem {fs : List (Int × Bd)} (h : fs.Pairwise fun a b => a.1 ≠ b.1) {id : Int} {b : Bd} (hb : (id, b) ∈ fs) : bodyOf fs id = some b := by
  cases hf : bodyOf fs id with
  | none => exact absurd rfl (bodyOf_none hf _ hb)
  | some c => rw [once_uniq h hb (bodyOf_some hf)]
theorem bodyOf_perm {fs gs : List (Int × Bd)} (h : fs.Pairwise fun a b => a.1 ≠ b.1) (hp : gs.Perm fs) (id : Int) : bodyOf gs id = bodyOf fs id := by
  have hg : gs.Pairwise fun a b => a.1 ≠ b.1 := hp.symm.pairwise h fun hab => Ne.symm hab
  cases hf : bodyOf fs id with
  | none =>
    cases hg' : bodyOf gs id with
    | none => rfl
    | some b => exact absurd rfl (bodyOf_none hf _ (hp.mem_iff.1 (bodyOf_some hg')))
  | some b => exact bodyOf_mem hg (hp.mem_iff.2 (bodyOf_some hf))
theorem setF_mem {fs : List (Int × Bd)} {id : Int} {b : Bd} {f : Int × Bd} (h : f ∈ setF fs id b) : (f = (id, b) ∧ ∃ c, (id, c) ∈ fs) ∨ (f ∈ fs ∧ f.1 ≠ id) := by
  unfold setF at h
  obtain ⟨g, hg, rfl⟩ := List.mem_map.1 h
  by_cases e : g.1 = id
  · rw [if_pos e]; exact .inl ⟨rfl, g.2, by rw [← e]; exact hg⟩
  · rw [if_neg e]; exact .inr ⟨hg, e⟩
theorem setF_ids (fs : List (Int × Bd)) (id : Int) (b : Bd) : (setF fs id b).map (·.1) = fs.map (·.1) := by
  unfold setF
  rw [List.map_map]
  refine List.map_congr_left fun f _ => ?_
  show (if f.1 = id then (id, b) else f).1 = f.1
  by_cases e : f.1 = id
  · rw [if_pos e]; exact e.symm
  · rw [if_neg e]
theorem once_map {fs : List (Int × Bd)} : (fs.Pairwise fun a b => a.1 ≠ b.1) ↔ (fs.map (·.1)).Nodup := by
  rw [List.Nodup, List.pairwise_map]
theorem FInv.set {S : FS} (h : FInv S) (id : Int) (b : Bd) (hb : mayBd b = true) : FInv ⟨S.t, setF S.fs id b⟩ := by
  have hids := setF_ids S.fs id b
  refine ⟨h.t, fun n hn hd => ?_, fun f hf => ?_, ?_, fun f hf => ?_⟩
  · obtain ⟨c, hc⟩ := h.has n hn hd
    have : n.id ∈ (setF S.fs id b).map (·.1) := by rw [hids]; exact List.mem_map.2 ⟨_, hc, rfl⟩
    obtain ⟨g, hg, e⟩ := List.mem_map.1 this
    exact ⟨g.2, by rw [← e]; exact hg⟩
  · rcases setF_mem hf with ⟨rfl, c, hc⟩ | ⟨h1, _⟩
    · have := h.only (id, c) hc
      exact this
    · exact h.only _ h1
  · rw [once_map]
    show ((setF S.fs id b).map (·.1)).Nodup
    rw [hids]; exact once_map.1 h.once
  · rcases setF_mem hf with ⟨rfl, _⟩ | ⟨h1, _⟩
    · exact hb
    · exact h.may _ h1
theorem dropF_mem {fs : List (Int × Bd)} {id : Int} {f : Int × Bd} : f ∈ dropF fs id ↔ f ∈ fs ∧ f.1 ≠ id := by
  unfold dropF
  rw [List.mem_filter]
  simp
/-- Nodes whose numbers and kinds stay, but for one file. -/
theorem FInv.less {S : FS} (h : FInv S) {T' : TS} (ht : TInv T') {id : Int} (h1 : ∀ n ∈ T'.L, ∃ m ∈ S.t.L, m.id = n.id ∧ m.dir = n.dir ∧ (n.dir = false → n.id ≠ id))
    (h2 : ∀ m ∈ S.t.L, m.dir = false → m.id ≠ id → ∃ n ∈ T'.L, n.id = m.id ∧ n.dir = m.dir) : FInv ⟨T', dropF S.fs id⟩ := by
  refine ⟨ht, fun n hn hd => ?_, fun f hf => ?_, h.once.filter _, fun f hf => h.may _ (dropF_mem.1 hf).1⟩
  · obtain ⟨m, hm, e1, e2, e3⟩ := h1 n hn
    obtain ⟨b, hb⟩ := h.has m hm (by rw [e2]; exact hd)
    exact ⟨b, dropF_mem.2 ⟨by rw [← e1]; exact hb, e3 hd⟩⟩
  · obtain ⟨hf1, hf2⟩ := dropF_mem.1 hf
    obtain ⟨m, hm, e1, e2⟩ := h.only f hf1
    obtain ⟨n, hn, e3, e4⟩ := h2 m hm e2 (by rw [e1]; exact hf2)
    exact ⟨n, hn, e3.trans e1, e4.trans e2⟩
theorem FInv.create {S : FS} (h : FInv S) (s : ByteArray) (h0 : canS S.t.L s = 0) : FInv ⟨(makeS S.t s false).1, S.fs ++ [((makeS S.t s false).2.1, ⟨0, []⟩)]⟩ := by
  have ht := h.t.make s false
  have e : makeS S.t s false = (⟨insN ⟨s, S.t.nx, false⟩ S.t.L, S.t.nx + 1⟩, S.t.nx, 0) := by unfold makeS; rw [if_pos h0]
  rw [e] at ht ⊢
  dsimp only at ht ⊢
  have hpm := insN_perm ⟨s, S.t.nx, false⟩ S.t.L
  have hmem : ∀ n, n ∈ insN ⟨s, S.t.nx, false⟩ S.t.L ↔ n = ⟨s, S.t.nx, false⟩ ∨ n ∈ S.t.L := fun n => by rw [hpm.mem_iff, List.mem_cons]
  refine ⟨ht, fun n hn hd => ?_, fun f hf => ?_, ?_, fun f hf => ?_⟩
  · rcases (hmem n).1 hn with rfl | hn
    · exact ⟨⟨0, []⟩, by simp⟩
    · obtain ⟨b, hb⟩ := h.has n hn hd
      exact ⟨b, List.mem_append_left _ hb⟩
  · rcases List.mem_append.1 hf with hf | hf
    · obtain ⟨n, hn, e1⟩ := h.only f hf
      exact ⟨n, (hmem n).2 (.inr hn), e1⟩
    · rw [List.mem_singleton.1 hf]
      exact ⟨_, (hmem _).2 (.inl rfl), rfl, rfl⟩
  · refine List.pairwise_append.2 ⟨h.once, by simp, fun a ha b hb => ?_⟩
    rw [List.mem_singleton.1 hb]
    obtain ⟨n, hn, e1, _⟩ := h.only a ha
    have := h.t.ids n hn
    show a.1 ≠ S.t.nx
    omega
  · rcases List.mem_append.1 hf with hf | hf
    · exact h.may f hf
    · rw [List.mem_singleton.1 hf]; rfl
theorem FInv.mkdir {S : FS} (h : FInv S) (s : ByteArray) (h0 : canS S.t.L s = 0) : FInv ⟨(makeS S.t s true).1, S.fs⟩ := by
  have ht := h.t.make s true
  have e : makeS S.t s true = (⟨insN ⟨s, S.t.nx, true⟩ S.t.L, S.t.nx + 1⟩, S.t.nx, 0) := by unfold makeS; rw [if_pos h0]
  rw [e] at ht ⊢
  dsimp only at ht ⊢
  have hpm := insN_perm ⟨s, S.t.nx, true⟩ S.t.L
  have hmem : ∀ n, n ∈ insN ⟨s, S.t.nx, true⟩ S.t.L ↔ n = ⟨s, S.t.nx, true⟩ ∨ n ∈ S.t.L := fun n => by rw [hpm.mem_iff, List.mem_cons]
  refine ⟨ht, fun n hn hd => ?_, fun f hf => ?_, h.once, h.may⟩
  · rcases (hmem n).1 hn with rfl | hn
    · cases hd
    · exact h.has n hn hd
  · obtain ⟨n, hn, e1⟩ := h.only f hf
    exact ⟨n, (hmem n).2 (.inr hn), e1⟩
theorem FInv.drop {S : FS} (h : FInv S) (s : ByteArray) (dir : Bool) (h0 : canDropS S.t.L s dir = 0) : FInv ⟨(dropS S.t s dir).1, dropF S.fs (dropS S.t s dir).2.1⟩ := by
  have ht := h.t.drop s dir
  have e : dropS S.t s dir = (⟨S.t.L.filter fun n => !(decide (n.path = s)), S.t.nx⟩, (lookS (fnd · S.t.L) s).1, 0) := by unfold dropS; rw [if_pos h0]
  rw [e] at ht ⊢
  dsimp only at ht ⊢
  obtain ⟨i, d, x, hl⟩ : ∃ i d x, lookS (fnd · S.t.L) s = (i, d, x) := ⟨_, _, _, rfl⟩
  have hx : x = 0 := by
    unfold canDropS at h0
    rw [hl] at h0
    by_cases hx : x = 0
    · exact hx
    · rw [if_neg hx] at h0; exact h0
  subst hx
  obtain ⟨P, hP, hor⟩ := lookS_ok hl
  rw [hl]
  dsimp only
  have hroot : s ≠ rootP := by
    intro e
    unfold canDropS at h0
    rw [hl] at h0
    dsimp only at h0
    rw [if_pos rfl] at h0
    split at h0
    · cases h0
    · split at h0
      · cases h0
      · rw [decide_eq_true e] at h0
        simp at h0
  have hmem : ∀ n, n ∈ (S.t.L.filter fun n => !(decide (n.path = s))) ↔ n ∈ S.t.L ∧ n.path ≠ s := fun n => by rw [List.mem_filter]; simp
  rcases hor with ⟨h1, _⟩ | ⟨_, n0, hf, hid, _⟩
  · exfalso
    subst h1
    have := (psplit_ok hP).2
    rw [pjoin_nil] at this
    exact hroot this.symm
  · obtain ⟨hn0, hp0⟩ := fnd_some hf
    refine h.less ht (fun n hn => ?_) fun m hm hd hne => ?_
    · obtain ⟨h1, h2⟩ := (hmem n).1 hn
      refine ⟨n, h1, rfl, rfl, fun _ e => h2 ?_⟩
      rw [h.t.uniq n h1 n0 hn0 (by rw [e]; exact hid), hp0]
    · refine ⟨m, (hmem m).2 ⟨hm, fun e => hne ?_⟩, rfl, rfl⟩
      rw [apart_uniq h.t.rises.apart hm hn0 (by rw [e, hp0]), ← hid]
theorem FInv.dropNone {S : FS} (h : FInv S) {id : Int} (hi : ∀ n ∈ S.t.L, n.dir = false → n.id ≠ id) : dropF S.fs id = S.fs := by
  unfold dropF
  refine List.filter_eq_self.2 fun f hf => ?_
  obtain ⟨n, hn, e1, e2⟩ := h.only f hf
  have := hi n hn e2
  rw [e1] at this
  simpa using this
theorem FInv.ren {S : FS} (h : FInv S) (s d : ByteArray) (h0 : canRenS S.t.L s d = 0) : FInv ⟨(renS S.t s d).1, dropF S.fs (renS S.t s d).2.1⟩ := by
  have ht := h.t.ren s d
  by_cases e : s = d
  · have e1 : renS S.t s d = (S.t, -1, 0) := by unfold renS; rw [if_pos h0, if_pos e]
    rw [e1]
    dsimp only
    rw [h.dropNone fun n hn _ => by have := h.t.ids n hn; omega]
    exact ⟨h.t, h.has, h.only, h.once, h.may⟩
  · have e1 : renS S.t s d = (⟨((S.t.L.filter (movesN s)).map (moveN s d)).foldl (fun R n => insN n R) (restS S.t.L s d), S.t.nx⟩, goneS S.t.L d, 0) := by unfold renS; rw [if_pos h0, if_neg e]
    rw [e1] at ht ⊢
    dsimp only at ht ⊢
    obtain ⟨X, Y, r⟩ := ren_of h.t h0 e
    have hmem : ∀ n, n ∈ ((S.t.L.filter (movesN s)).map (moveN s d)).foldl (fun R n => insN n R) (restS S.t.L s d) ↔ (n ∈ S.t.L ∧ movesN s n = false ∧ n.path ≠ d) ∨ ∃ a ∈ S.t.L, movesN s a = true ∧ n = moveN s d a := fun n => by
      rw [ren_perm.mem_iff, List.mem_append, mem_rest, List.mem_map]
      constructor
      · rintro (h1 | ⟨a, ha, rfl⟩)
        · exact .inl h1
        · exact .inr ⟨a, (List.mem_filter.1 ha).1, (List.mem_filter.1 ha).2, rfl⟩
      · rintro (h1 | ⟨a, h1, h2, rfl⟩)
        · exact .inl h1
        · exact .inr ⟨a, List.mem_filter.2 ⟨h1, h2⟩, rfl⟩
    have hdm : ∀ a ∈ S.t.L, movesN s a = true → a.path ≠ d := by
      intro a ha hm he
      obtain ⟨Z, hz, _, iz⟩ := moves_parts h.t r ha
      rw [he, r.d] at hz
      cases hz
      exact dst_moves r (iz.1 hm)
    have hgone : ∀ a ∈ S.t.L, a.id = goneS S.t.L d → a.path = d := by
      intro a ha hg
      unfold goneS at hg
      cases hf : fnd d S.t.L with
      | none => rw [hf] at hg; have := h.t.ids a ha; have hg : a.id = -1 := hg; omega
      | some m =>
        rw [hf] at hg
        obtain ⟨h1, h2⟩ := fnd_some hf
        rw [h.t.uniq a ha m h1 hg, h2]
    have hgone2 : ∀ a ∈ S.t.L, a.path = d → a.id = goneS S.t.L d := by
      intro a ha hp
      unfold goneS
      rw [← hp, fnd_mem h.t.rises.apart ha]
    refine h.less ht (fun n hn => ?_) fun m hm hd hne => ?_
    · rcases (hmem n).1 hn with ⟨h1, _, h3⟩ | ⟨a, h1, h2, rfl⟩
      · exact ⟨n, h1, rfl, rfl, fun _ e => h3 (hgone n h1 e)⟩
      · exact ⟨a, h1, rfl, rfl, fun _ e => hdm a h1 h2 (hgone a h1 e)⟩
    · cases hmv : movesN s m
      · exact ⟨m, (hmem m).2 (.inl ⟨hm, hmv, fun e => hne (hgone2 m hm e)⟩), rfl, rfl⟩
      · exact ⟨moveN s d m, (hmem _).2 (.inr ⟨m, hm, hmv, rfl⟩), rfl, rfl⟩
theorem FInv.put {S : FS} (h : FInv S) (e : Ev) (l : List Bp) : FInv (putS S e l).1 := by
  unfold putS
  split
  · exact h
  · split
    · exact h.set _ _ (writeS_may _ _ _)
    · exact h
/-- Each event keeps it. -/
theorem FInv.apply {S : FS} (h : FInv S) (e : Ev) (l : List Bp) : FInv (applyS S e l).1 := by
  unfold applyS
  by_cases h0 : checkS S e = 0
  · rw [if_pos h0]
    unfold checkS at h0
    by_cases h1 : e.op = 1
    · rw [if_pos (.inl h1)] at h0
      rw [if_pos h1]
      exact h.create _ h0
    rw [if_neg h1]
    by_cases h2 : e.op = 2
    · rw [if_pos (.inr h2)] at h0
      rw [if_pos h2]
      exact h.mkdir _ h0
    rw [if_neg h2]
    rw [if_neg (by rintro (h | h) <;> contradiction)] at h0
    by_cases h3 : e.op = 3
    · rw [if_pos h3]; exact h.put e l
    rw [if_neg h3] at h0 ⊢
    by_cases h4 : e.op = 4
    · rw [if_pos h4]; exact h.set _ _ (truncS_may _ _)
    rw [if_neg h4] at h0 ⊢
    by_cases h5 : e.op = 5
    · rw [if_pos h5] at h0 ⊢; exact h.ren _ _ h0
    rw [if_neg h5] at h0 ⊢
    by_cases h6 : e.op = 6 ∨ e.op = 7
    · rw [if_pos h6] at h0 ⊢; exact h.drop _ _ h0
    rw [if_neg h6]
    exact h
  · rw [if_neg h0]; exact h
/-- No more parts than come. -/
def FewP (N : Nat) (S : FS) : Prop := ∀ f ∈ S.fs, f.2.parts.length ≤ N
theorem FewP.mono {N M : Nat} {S : FS} (h : FewP N S) (hn : N ≤ M) : FewP M S := fun f hf => Nat.le_trans (h f hf) hn
theorem getD_few {N : Nat} {S : FS} (h : FewP N S) (id : Int) : ((bodyOf S.fs id).getD default).parts.length ≤ N := by
  cases hb : bodyOf S.fs id with
  | none => exact Nat.zero_le _
  | some b => exact h _ (bodyOf_some hb)
theorem FewP.set {N : Nat} {S : FS} (h : FewP N S) (id : Int) (b : Bd) (hb : b.parts.length ≤ N) : FewP N ⟨S.t, setF S.fs id b⟩ := by
  intro f hf
  rcases setF_mem hf with ⟨rfl, _⟩ | ⟨h1, _⟩
  · exact hb
  · exact h _ h1
theorem FewP.apply {N : Nat} {S : FS} (h : FewP N S) (e : Ev) (l : List Bp) : FewP (N + l.length + 1) (applyS S e l).1 := by
  have hm : FewP (N + l.length + 1) S := h.mono (by omega)
  unfold applyS
  split
  · split
    · intro f hf
      rcases List.mem_append.1 hf with hf | hf
      · exact hm f hf
      · rw [List.mem_singleton.1 hf]; exact Nat.zero_le _
    · split
      · exact hm
      · split
        · unfold putS
          split
          · exact hm
          · split
            · refine hm.set _ _ ?_
              have h1 := writeS_len ((bodyOf S.fs (fileS S.t e.path).1).getD default) e.off l
              have h2 := getD_few h (fileS S.t e.path).1
              omega
            · exact hm
        · split
          · refine hm.set _ _ ?_
            have h1 := truncS_len ((bodyOf S.fs (fileS S.t e.path).1).getD default) e.size
            have h2 := getD_few h (fileS S.t e.path).1
            omega
          · split
            · intro f hf; exact hm f (dropF_mem.1 hf).1
            · split
              · intro f hf; exact hm f (dropF_mem.1 hf).1
              · exact hm
  · exact hm
/-- The number that comes next rises by one at most. -/
theorem apply_nx (S : FS) (e : Ev) (l : List Bp) : S.t.nx ≤ (applyS S e l).1.t.nx ∧ (applyS S e l).1.t.nx ≤ S.t.nx + 1 := by
  unfold applyS
  split
  · split
    · exact make_nx _ _ _
    · split
      · exact make_nx _ _ _
      · split
        · have : (putS S e l).1.t = S.t := by
            unfold putS
            split
            · rfl
            · split
              · rfl
              · rfl
          rw [this]; omega
        · split
          · exact ⟨Int.le_refl _, by show S.t.nx ≤ S.t.nx + 1; omega⟩
          · split
            · rw [show ((⟨(renS S.t e.path e.to).1, dropF S.fs (renS S.t e.path e.to).2.1⟩ : FS), (0 : Int)).1.t.nx = S.t.nx from ren_nx _ _ _]; omega
            · split
              · rw [show ((⟨(dropS S.t e.path (decide (e.op = 7))).1, dropF S.fs (dropS S.t e.path (decide (e.op = 7))).2.1⟩ : FS), (0 : Int)).1.t.nx = S.t.nx from drop_nx _ _ _]; omega
              · exact ⟨Int.le_refl _, by show S.t.nx ≤ S.t.nx + 1; omega⟩
  · exact ⟨Int.le_refl _, by show S.t.nx ≤ S.t.nx + 1; omega⟩
end Go.Proofs.YtiegadfhgccliaaGreatDoor
