/- FoldIDs in plain Lean: a file keeps its number and its bytes. -/
import Derived.Test.YtiegadfhgccliaaGreatDoorMStateI
namespace Go.Proofs.YtiegadfhgccliaaGreatDoor
open Go.Lib

theorem apply_no {S S' : FS} {e : Ev} {l : List Bp} {x : Int} (h : applyS S e l = (S', x)) (hx : x ≠ 0) : S' = S := by
  unfold applyS at h
  split at h
  · split at h
    · injection h with _ h2; exact absurd h2.symm hx
    · split at h
      · injection h with _ h2; exact absurd h2.symm hx
      · split at h
        · unfold putS at h
          split at h
          · injection h with h1 _; exact h1.symm
          · split at h
            · injection h with _ h2; exact absurd h2.symm hx
            · injection h with h1 _; exact h1.symm
        · split at h
          · injection h with _ h2; exact absurd h2.symm hx
          · split at h
            · injection h with _ h2; exact absurd h2.symm hx
            · split at h
              · injection h with _ h2; exact absurd h2.symm hx
              · injection h with h1 _; exact h1.symm
  · injection h with h1 _; exact h1.symm
/-- What was there before has the same kind; and, where names alone are changed, the same body. -/
structure Kept (S S' : FS) (op : Int) : Prop where
  node : ∀ n ∈ S'.t.L, n.id < S.t.nx → ∃ m ∈ S.t.L, m.id = n.id ∧ m.dir = n.dir
  body : op ≠ 3 → op ≠ 4 → ∀ f ∈ S'.fs, f.1 < S.t.nx → f ∈ S.fs
theorem Kept.refl (S : FS) (op : Int) : Kept S S op := ⟨fun n hn _ => ⟨n, hn, rfl, rfl⟩, fun _ _ _ hf _ => hf⟩
theorem make_kept {S : FS} (s : ByteArray) (dir : Bool) : ∀ n ∈ (makeS S.t s dir).1.L, n.id < S.t.nx → ∃ m ∈ S.t.L, m.id = n.id ∧ m.dir = n.dir := by
  intro n hn hlt
  unfold makeS at hn
  split at hn
  · rcases List.mem_cons.1 ((insN_perm _ _).mem_iff.1 hn) with rfl | h
    · exact absurd hlt (Int.lt_irrefl _)
    · exact ⟨n, h, rfl, rfl⟩
  · exact ⟨n, hn, rfl, rfl⟩
theorem drop_kept {S : FS} (s : ByteArray) (dir : Bool) : ∀ n ∈ (dropS S.t s dir).1.L, ∃ m ∈ S.t.L, m.id = n.id ∧ m.dir = n.dir := by
  intro n hn
  unfold dropS at hn
  split at hn
  · exact ⟨n, (List.mem_filter.1 hn).1, rfl, rfl⟩
  · exact ⟨n, hn, rfl, rfl⟩
theorem ren_kept {S : FS} (s d : ByteArray) : ∀ n ∈ (renS S.t s d).1.L, ∃ m ∈ S.t.L, m.id = n.id ∧ m.dir = n.dir := by
  intro n hn
  unfold renS at hn
  split at hn
  · split at hn
    · exact ⟨n, hn, rfl, rfl⟩
    · rcases List.mem_append.1 (ren_perm.mem_iff.1 hn) with h | h
      · exact ⟨n, (mem_rest.1 h).1, rfl, rfl⟩
      · obtain ⟨a, ha, rfl⟩ := List.mem_map.1 h
        exact ⟨a, (List.mem_filter.1 ha).1, rfl, rfl⟩
  · exact ⟨n, hn, rfl, rfl⟩
theorem apply_kept {S S' : FS} {e : Ev} {l : List Bp} {x : Int} (h : applyS S e l = (S', x)) (hnx : ∀ p, (makeS S.t p false).2.1 = S.t.nx ∨ canS S.t.L p ≠ 0) : Kept S S' e.op := by
  by_cases hx : x = 0
  · unfold applyS at h
    split at h
    next hc =>
      split at h
      next h1 =>
        injection h with h _
        subst h
        refine ⟨make_kept e.path false, fun _ _ f hf hlt => ?_⟩
        rcases List.mem_append.1 hf with hf | hf
        · exact hf
        · rw [List.mem_singleton.1 hf] at hlt
          rcases hnx e.path with h2 | h2
          · dsimp only at hlt; omega
          · unfold checkS at hc; rw [if_pos (.inl h1)] at hc; exact absurd hc h2
      next h1 =>
        split at h
        · injection h with h _
          subst h
          exact ⟨make_kept e.path true, fun _ _ _ hf _ => hf⟩
        · split at h
          next h3 =>
            unfold putS at h
            split at h
            · injection h with h _; subst h; exact Kept.refl _ _
            · split at h
              · injection h with h _
                subst h
                exact ⟨fun n hn _ => ⟨n, hn, rfl, rfl⟩, fun h' => absurd h3 h'⟩
              · injection h with h _; subst h; exact Kept.refl _ _
          next h3 =>
            split at h
            next h4 =>
              injection h with h _
              subst h
              exact ⟨fun n hn _ => ⟨n, hn, rfl, rfl⟩, fun _ h' => absurd h4 h'⟩
            next h4 =>
              split at h
              · injection h with h _
                subst h
                exact ⟨fun n hn _ => ren_kept e.path e.to n hn, fun _ _ f hf _ => (dropF_mem.1 hf).1⟩
              · split at h
                · injection h with h _
                  subst h
                  exact ⟨fun n hn _ => drop_kept e.path _ n hn, fun _ _ f hf _ => (dropF_mem.1 hf).1⟩
                · injection h with h _; subst h; exact Kept.refl _ _
    next hc => injection h with h _; subst h; exact Kept.refl _ _
  · rw [apply_no h hx]; exact Kept.refl _ _
theorem make_id {S : FS} (p : ByteArray) : (makeS S.t p false).2.1 = S.t.nx ∨ canS S.t.L p ≠ 0 := by
  unfold makeS
  split
  · exact .inl rfl
  · exact .inr (by assumption)
/-- Is there a body? Just of files. -/
theorem FInv.isSome {S : FS} (h : FInv S) {n : Nd} (hn : n ∈ S.t.L) : (bodyOf S.fs n.id).isSome = !n.dir := by
  cases hd : n.dir with
  | false =>
    obtain ⟨b, hb⟩ := h.has n hn hd
    rw [bodyOf_mem h.once hb]; rfl
  | true =>
    cases hb : bodyOf S.fs n.id with
    | none => rfl
    | some b =>
      obtain ⟨m, hm, e1, e2⟩ := h.only _ (bodyOf_some hb)
      have := h.t.uniq m hm n hn e1
      rw [this, hd] at e2
      cases e2
/-- An old file had a body. -/
theorem kept_was {S S' : FS} {op : Int} (h : FInv S) (k : Kept S S' op) {n : Nd} (hn : n ∈ S'.t.L) (hlt : n.id < S.t.nx) (hd : n.dir = false) : (bodyOf S.fs n.id).isSome = true := by
  obtain ⟨m, hm, e1, e2⟩ := k.node n hn hlt
  rw [← e1, h.isSome hm, e2, hd]; rfl
/-- Names alone keep bodies. -/
theorem kept_same {S S' : FS} {op : Int} (h : FInv S) (h' : FInv S') (k : Kept S S' op) (h3 : op ≠ 3) (h4 : op ≠ 4) {n : Nd} (hn : n ∈ S'.t.L) (hw : (bodyOf S.fs n.id).isSome = true) : bodyOf S'.fs n.id = bodyOf S.fs n.id := by
  obtain ⟨b, hb⟩ := Option.isSome_iff_exists.1 hw
  obtain ⟨m, hm, e1, e2⟩ := h.only _ (bodyOf_some hb)
  have hlt : n.id < S.t.nx := by rw [show n.id = m.id from e1.symm]; exact (h.t.ids m hm).2
  obtain ⟨m2, hm2, e3, e4⟩ := k.node n hn hlt
  have := h.t.uniq m hm m2 hm2 (e1.trans e3.symm)
  subst this
  obtain ⟨b', hb'⟩ := h'.has n hn (by rw [← e4]; exact e2)
  have := once_uniq h.once (bodyOf_some hb) (k.body h3 h4 _ hb' hlt)
  rw [hb, this]
  exact bodyOf_mem h'.once hb'
/-- Each number is the one ahead, or one more. -/
def StepsI (l : List Int) : Prop := ∀ i, i + 1 < l.length → l.getD i 0 ≤ l.getD (i + 1) 0 ∧ l.getD (i + 1) 0 ≤ l.getD i 0 + 1
theorem StepsI.snoc {l : List Int} {x : Int} (h : StepsI l) (hx : l ≠ [] → l.getD (l.length - 1) 0 ≤ x ∧ x ≤ l.getD (l.length - 1) 0 + 1) : StepsI (l ++ [x]) := by
  intro i hi
  rw [List.length_append, List.length_singleton] at hi
  by_cases e : i + 1 < l.length
  · have := h i e
    simpa [List.getD, List.getElem?_append_left, e, show i < l.length by omega] using this
  · have e1 : i + 1 = l.length := by omega
    have hne : l ≠ [] := by rintro rfl; simp at e1
    have := hx hne
    have e2 : l.length - 1 = i := by omega
    rw [e2] at this
    have g1 : (l ++ [x]).getD i 0 = l.getD i 0 := by simp [List.getD, List.getElem?_append_left (show i < l.length by omega)]
    have g2 : (l ++ [x]).getD (i + 1) 0 = x := by rw [e1]; simp [List.getD]
    rw [g1, g2]
    exact this
end Go.Proofs.YtiegadfhgccliaaGreatDoor
