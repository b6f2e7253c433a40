/- Maps as association lists: ranged over, in whatever order; the laws at the operations. No program in sight. -/
import Derived.Test.YtahdmkmefeocmaaDoorMap
import Derived.Maps.RangeWalk
import Derived.Laws.AppendOwn
namespace Go.Proofs.YtahdmkmefeocmaaDoor
open Go.ChangeMaps (setBlock map_eraseIdx)
open Go.MapKept (IsKey Stamped)
open Go.RowKit

variable {κ : Type}

theorem filter_erase {es : List MapEntry} (hn : (es.map (·.born)).Nodup) : ∀ {i : Nat} {e : MapEntry}, es[i]? = some e → es.filter (fun x => !(x.born == e.born)) = es.eraseIdx i := by
  induction es with
  | nil => intro i e h; simp at h
  | cons a r ih =>
    intro i e h
    have hn' : a.born ∉ r.map (·.born) ∧ (r.map (·.born)).Nodup := List.nodup_cons.1 hn
    cases i with
    | zero =>
      simp at h; subst h
      rw [List.filter_cons]
      simp only [beq_self_eq_true, Bool.not_true, Bool.false_eq_true, if_false, List.eraseIdx_cons_zero]
      refine List.filter_eq_self.2 fun x hx => ?_
      simp only [Bool.not_eq_true', beq_eq_false_iff_ne]
      intro e2
      exact hn'.1 (List.mem_map.2 ⟨x, hx, e2⟩)
    | succ i =>
      simp at h
      have hne : (a.born == e.born) = false := by
        rw [beq_eq_false_iff_ne]
        intro e2
        exact hn'.1 (List.mem_map.2 ⟨e, List.mem_of_getElem? h, e2.symm⟩)
      rw [List.filter_cons, hne]
      simp only [Bool.not_false, if_true, List.eraseIdx_cons_succ]
      rw [ih hn'.2 h]

/-- 'for k, v := range m' under way: block mb is the map M, block r an iterator over it; left: what is still to come. -/
def MapIt (K : KeyOf κ) (w : World) (mb r : Nat) (M left : List (κ × Value)) : Prop :=
  ∃ es clock since seen c0, w.heap[mb]? = some (.map es clock) ∧ Stamped es clock ∧ es.toList.map (fun e => (e.key, e.val)) = M.map (fun p => (K.enc p.1, p.2)) ∧
    w.heap[r]? = some (.mapIter (some mb) since seen c0) ∧ (∀ x ∈ es.toList, x.born < since) ∧ since ≤ c0 ∧ since ≤ clock ∧ (leftOf es seen).toList.map (fun e => (e.key, e.val)) = left.map (fun p => (K.enc p.1, p.2))
theorem MapIt.of_blocks {K : KeyOf κ} {w w' : World} {mb r : Nat} {M left : List (κ × Value)} (h : MapIt K w mb r M left) (h1 : w'.heap[mb]? = w.heap[mb]?) (h2 : w'.heap[r]? = w.heap[r]?) : MapIt K w' mb r M left := by
  obtain ⟨es, clock, since, seen, c0, a, b, c, d, e⟩ := h
  exact ⟨es, clock, since, seen, c0, h1.trans a, b, c, h2.trans d, e⟩
theorem MapIt.is {K : KeyOf κ} {w : World} {mb r : Nat} {M left : List (κ × Value)} (h : MapIt K w mb r M left) : MapIs K w mb M := by
  obtain ⟨es, clock, _, _, _, a, b, c, _⟩ := h
  exact ⟨es, clock, a, b, c⟩
theorem MapIt.lt {K : KeyOf κ} {w : World} {mb r : Nat} {M left : List (κ × Value)} (h : MapIt K w mb r M left) : r < w.heap.size := by
  obtain ⟨es, clock, since, seen, c0, _, _, _, d, _⟩ := h
  exact (Array.getElem?_eq_some_iff.1 d).1
theorem MapIt.ne {K : KeyOf κ} {w : World} {mb r : Nat} {M left : List (κ × Value)} (h : MapIt K w mb r M left) : r ≠ mb := by
  obtain ⟨es, clock, since, seen, c0, a, _, _, d, _⟩ := h
  intro e
  rw [e, a] at d
  cases d
theorem MapIt.alloc {K : KeyOf κ} {w : World} {mb r : Nat} {M left : List (κ × Value)} (h : MapIt K w mb r M left) (o : Obj) : MapIt K (w.alloc o) mb r M left :=
  h.of_blocks (Below.heap_alloc _ _ _ h.is.lt) (Below.heap_alloc _ _ _ h.lt)
/-- A block that is an array's is neither the map nor the iterator. -/
theorem MapIt.ne_row {K : KeyOf κ} {w : World} {mb r g : Nat} {M left : List (κ × Value)} (h : MapIt K w mb r M left) {c : Array Value} {t : TypeId} {f : Nat × Nat} (hg : w.heap[g]? = some (.cells c t f)) : mb ≠ g ∧ r ≠ g := by
  obtain ⟨es, clock, since, seen, c0, a, _, _, d, _⟩ := h
  refine ⟨fun e => ?_, fun e => ?_⟩
  · rw [e, hg] at a; cases a
  · rw [e, hg] at d; cases d
/-- .. while a row of the call's own grows. -/
theorem MapIt.grown {K : KeyOf κ} {w w' : World} {mb r : Nat} {M left : List (κ × Value)} (h : MapIt K w mb r M left) {base : Nat} {e : TypeId} {size : Nat} {v : Value} {n : Nat} {xs : List Value} (ho : w.ownsRow base e size v n xs) (hg : w.grownBy w' v.ownBlock) : MapIt K w' mb r M left := by
  have h1 := h.is.lt
  have h2 := h.lt
  rcases ho.2 with ⟨rfl, _⟩ | ⟨g, cap, cur, rfl, _, hb, _⟩
  · exact h.of_blocks (hg.block mb h1 (by simp [Value.ownBlock])) (hg.block r h2 (by simp [Value.ownBlock]))
  · obtain ⟨n1, n2⟩ := h.ne_row hb
    exact h.of_blocks (hg.block mb h1 (by simpa [Value.ownBlock] using n1)) (hg.block r h2 (by simpa [Value.ownBlock] using n2))

variable {P : Program} {w : World} {mb r : Nat} {M left : List (κ × Value)}

theorem run_range_it {t kt et : TypeId} (K : KeyOf κ) (h : MapIs K w mb M) (ht : P.underlying t = some (.map kt et)) :
    ∃ o, (Instr.range t (.map (some mb))).run P w = .ok (.pointer (some ⟨w.heap.size, 0, none⟩)) (w.alloc o) ∧ MapIt K (w.alloc o) mb w.heap.size M M := by
  have hlt := h.lt
  obtain ⟨es, clock, hb, hs, hM⟩ := h
  refine ⟨_, run_range_map w t kt et mb es clock ht hb, es, clock, clock, #[], clock, (Below.heap_alloc _ _ _ hlt).trans hb, hs, hM, heap_alloc_new _ _, ((MapKept.stamped_iff es clock).1 hs).1, Nat.le_refl _, Nat.le_refl _, ?_⟩
  have : leftOf es #[] = es := by unfold leftOf; exact Array.filter_eq_self.2 (by simp)
  rw [this]; exact hM

/-- The step: nothing is left, or one, whichever, comes out. -/
theorem MapIt.next (K : KeyOf κ) (h : MapIt K w mb r M left) (ty : TypeId) :
    (left = [] ∧ (Instr.next (.pointer (some ⟨r, 0, none⟩)) false ty).run P w = .ok (.tuple #[.bool false]) w) ∨
    ∃ i k v w1 o, left[i]? = some (k, v) ∧ (w1 = w ∨ w1 = w.drew) ∧ (Instr.next (.pointer (some ⟨r, 0, none⟩)) false ty).run P w = .ok (.tuple #[.bool true, K.enc k, v]) (setBlock w1 r o) ∧
      MapIt K (setBlock w1 r o) mb r M (left.eraseIdx i) ∧ (Instr.entry (.pointer (some ⟨r, 0, none⟩))).run P (setBlock w1 r o) = .ok (.tuple #[K.enc k, v]) (setBlock w1 r o) := by
  have hne := h.ne
  obtain ⟨es, clock, since, seen, c0, hb, hs, hM, hr, hold, hsc, hsk, hl⟩ := h
  have hst := (MapKept.stamped_iff es clock).1 hs
  rcases run_next_at (P := P) w ty r mb since c0 seen es clock hr hb hold hsc with ⟨h0, hrun⟩ | ⟨e, he, w1, hal, hrun⟩
  · left
    refine ⟨?_, hrun⟩
    have := congrArg List.length hl
    rw [List.length_map, Array.length_toList, h0, List.length_map] at this
    exact List.eq_nil_of_length_eq_zero this.symm
  · right
    obtain ⟨i, hi⟩ := List.getElem?_of_mem he
    have hmap : ((leftOf es seen).toList.map (fun e => (e.key, e.val)))[i]? = some (e.key, e.val) := by rw [List.getElem?_map, hi]; rfl
    rw [hl, List.getElem?_map] at hmap
    obtain ⟨⟨k, v⟩, hkv, hk⟩ : ∃ p, left[i]? = some p ∧ (K.enc p.1, p.2) = (e.key, e.val) := by
      cases hq : left[i]? with
      | none => rw [hq] at hmap; cases hmap
      | some p => rw [hq] at hmap; exact ⟨p, rfl, Option.some.inj hmap⟩
    have hk1 : K.enc k = e.key := (Prod.mk.inj hk).1
    have hk2 : v = e.val := (Prod.mk.inj hk).2
    obtain ⟨hem, _⟩ := mem_left he
    have hr1 : w1.heap[r]? = some (.mapIter (some mb) since seen c0) := by rcases hal with rfl | rfl <;> exact hr
    have hb1 : w1.heap[mb]? = some (.map es clock) := by rcases hal with rfl | rfl <;> exact hb
    have hset := MapKept.heap_set (o' := .mapIter (some mb) since (seen.push e.born) clock) hr1
    have hb' : (setBlock w1 r (.mapIter (some mb) since (seen.push e.born) clock)).heap[mb]? = some (.map es clock) := (hset.2 mb (fun e1 => hne e1.symm)).trans hb1
    refine ⟨i, k, v, w1, .mapIter (some mb) since (seen.push e.born) clock, hkv, hal, by rw [hk1, hk2]; exact hrun, ⟨es, clock, since, seen.push e.born, clock, hb', hs, hM, hset.1, hold, hsk, hsk, ?_⟩, ?_⟩
    · rw [map_eraseIdx, ← hl, ← map_eraseIdx]
      congr 1
      have hnd : ((leftOf es seen).toList.map (·.born)).Nodup := by
        have : (leftOf es seen).toList.Sublist es.toList := by
          unfold leftOf; rw [Array.toList_filter]; exact List.filter_sublist
        exact (this.map _).nodup hst.2.1
      rw [← filter_erase hnd hi]
      unfold leftOf
      rw [Array.toList_filter, Array.toList_filter, List.filter_filter]
      refine List.filter_congr fun x _ => ?_
      rw [contains_push]
      cases seen.contains x.born <;> cases (x.born == e.born) <;> rfl
    · rw [hk1, hk2]
      exact run_entry_at _ r mb since seen es clock e hset.1 hb' hem hst.2.1

section ops
variable {ops : Array Oper} {rest : List Oper} {o : Oper} {a : Act} {Q : Exit → Act → World → Prop}
theorem wpList_range_it (w : World) (hg : o.guard = none) (m : Operand) (t : TypeId) (hop : o.op = Op.range t m) (kt et : TypeId) (K : KeyOf κ) (ht : P.underlying t = some (.map kt et)) (mb : Nat) (M : List (κ × Value))
    (hm : a.eval m = .map (some mb)) (h : MapIs K w mb M)
    (hK : ∀ ob, MapIt K (w.alloc ob) mb w.heap.size M M → wpList P ops Q rest (a.put o.dst (.pointer (some ⟨w.heap.size, 0, none⟩))) (w.alloc ob)) :
    wpList P ops Q (o :: rest) a w := by
  refine wpList_plain hg fun K' hK' => ?_
  obtain ⟨ob, hrun, h1⟩ := run_range_it (P := P) K h ht
  unfold Oper.wp
  simp [execOp, hop, hm, hrun, Result.andThen]
  exact hK' _ _ (hK ob h1)
theorem wpList_next_it (w : World) (hg : o.guard = none) (it : Operand) (hop : o.op = Op.next it false) (K : KeyOf κ) (mb r : Nat) (M left : List (κ × Value))
    (hit : a.eval it = .pointer (some ⟨r, 0, none⟩)) (h : MapIt K w mb r M left)
    (hDone : left = [] → wpList P ops Q rest (a.put o.dst (.tuple #[.bool false])) w)
    (hMore : ∀ i k v w1 ob, left[i]? = some (k, v) → (w1 = w ∨ w1 = w.drew) → MapIt K (setBlock w1 r ob) mb r M (left.eraseIdx i) →
      (Instr.entry (.pointer (some ⟨r, 0, none⟩))).run P (setBlock w1 r ob) = .ok (.tuple #[K.enc k, v]) (setBlock w1 r ob) → wpList P ops Q rest (a.put o.dst (.tuple #[.bool true, K.enc k, v])) (setBlock w1 r ob)) :
    wpList P ops Q (o :: rest) a w := by
  refine wpList_plain hg fun K' hK' => ?_
  unfold Oper.wp
  rcases h.next (P := P) K o.type with ⟨h0, hrun⟩ | ⟨i, k, v, w1, ob, hi, hw1, hrun, hit2, hen⟩
  · simp [execOp, hop, hit, hrun, Result.andThen]
    exact hK' _ _ (hDone h0)
  · simp [execOp, hop, hit, hrun, Result.andThen]
    exact hK' _ _ (hMore i k v w1 ob hi hw1 hit2 hen)
end ops
end Go.Proofs.YtahdmkmefeocmaaDoor
