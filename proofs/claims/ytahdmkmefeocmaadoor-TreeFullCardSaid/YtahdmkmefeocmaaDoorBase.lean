/- Small laws on worlds and on rows of the call's own. -/
import Derived.Test.YtahdmkmefeocmaaDoorRows
import Derived.WalkKit
import Derived.WalkSpells
import Derived.WalkLawsBesides
import Derived.Lib.Hide
import Derived.RegionTactic
import Derived.BigRegion
import Derived.OwnWalk
import Derived.Laws.AppendOwn
import Derived.IntWalk
import Derived.Below
namespace Go.Proofs.YtahdmkmefeocmaaDoor
open Go.RowKit Go.Lib

theorem blw {a b c : World} (h : Below a.heap.size a b) (k : Below b.heap.size b c) : Below a.heap.size a c := h.trans (k.mono h.size)
theorem bal {a b : World} (h : Below a.heap.size a b) (o : Obj) : Below a.heap.size a (b.alloc o) := h.alloc h.size o
theorem grown_below {B : Nat} {w W w1 : World} {v : Value} {e : TypeId} {size n : Nat} {xs : List Value} (hB : Below B w W) (hBW : B ≤ W.heap.size) (hown : W.ownsRow B e size v n xs) (hg : W.grownBy w1 v.ownBlock) : Below B w w1 :=
  hB.grown hg hBW fun k hk => (hown.lt k hk).1
theorem heap_eq2 {W W' : World} (h : W'.heap = W.heap) {k : Nat} {o : Option Obj} (g : W.heap[k]? = o) : W'.heap[k]? = o := by rw [h]; exact g
theorem own_heap {w w' : World} {base : Nat} {e : TypeId} {size : Nat} {v : Value} {n : Nat} {xs : List Value} (h : w.ownsRow base e size v n xs) (hh : w'.heap = w.heap) : w'.ownsRow base e size v n xs := by
  refine ⟨h.1, ?_⟩
  rw [hh]
  exact h.2
/-- A cell of a row of the call's own, written. -/
theorem own_set {w : World} {base : Nat} {e : TypeId} {g cap : Nat} {n : Nat} {xs : List Value} (h : w.ownsRow base e 1 (.slice (some ⟨g, 0, none⟩) n cap) n xs) {k : Nat} (u : Value) : (w.setCell ⟨g, k, none⟩ u).ownsRow base e 1 (.slice (some ⟨g, 0, none⟩) n cap) n (xs.set k u) := by
  refine ⟨by simpa using h.1, ?_⟩
  rcases h.2 with ⟨hv, _⟩ | ⟨g', cap', cur, hv, hb, hg, h1, h2, h3, h4⟩
  · cases hv
  · obtain ⟨hg', _, hc'⟩ := Value.slice.inj hv
    obtain rfl : g = g' := by simpa using hg'
    subst hc'
    refine .inr ⟨g, cap, cur.setIfInBounds k u, rfl, hb, ?_, h1, h2, by simpa using h3, ?_⟩
    · have hgl := (Array.getElem?_eq_some_iff.1 hg).1
      unfold World.setCell
      simp only [Array.getElem?_modify, hg]
      simp
    · rw [Array.toList_setIfInBounds, ← h4, List.take_set]
theorem own_cell {w : World} {base : Nat} {e : TypeId} {g cap : Nat} {n : Nat} {xs : List Value} (h : w.ownsRow base e 1 (.slice (some ⟨g, 0, none⟩) n cap) n xs) {k : Nat} {u : Value} (hx : xs[k]? = some u) : w.cell? ⟨g, k, none⟩ = some u ∧ w.frozen? ⟨g, k, none⟩ = false ∧ base ≤ g ∧ g < w.heap.size := by
  rcases h.2 with ⟨hv, _⟩ | ⟨g', cap', cur, hv, hb, hg, h1, h2, h3, h4⟩
  · cases hv
  · obtain ⟨hg', _, hc'⟩ := Value.slice.inj hv
    obtain rfl : g = g' := by simpa using hg'
    have hk : k < cur.size := by
      rw [← h4, List.getElem?_take] at hx
      split at hx
      · obtain ⟨hl, _⟩ := List.getElem?_eq_some_iff.1 hx
        simpa using hl
      · cases hx
    rw [← h4, List.getElem?_take] at hx
    split at hx
    · refine ⟨?_, ?_, hb, (Array.getElem?_eq_some_iff.1 hg).1⟩
      · unfold World.cell?; rw [hg]; simpa using hx
      · unfold World.frozen?; rw [hg]; simp
    · cases hx
theorem one_new (w : World) (v : Value) (t : TypeId) : ∀ j u, [v][j]? = some u → (w.alloc (.cells #[v] t)).cell? ((⟨w.heap.size, 0, none⟩ : Addr).add j) = some u := by
  intro j u hu
  cases j with
  | zero =>
    simp at hu; subst hu
    have : ((⟨w.heap.size, 0, none⟩ : Addr).add 0) = ⟨w.heap.size, 0, none⟩ := rfl
    rw [this]
    unfold World.cell?
    rw [heap_alloc_new]; rfl
  | succ j => simp at hu
/-! A block of three cells, written over. -/
theorem heap_setCell_at {W : World} {B : Nat} {cs : Array Value} {T : TypeId} {f : Nat × Nat} (h : W.heap[B]? = some (.cells cs T f)) (k : Nat) (x : Value) : (W.setCell ⟨B, k, none⟩ x).heap[B]? = some (.cells (cs.setIfInBounds k x) T f) := by
  unfold World.setCell
  simp only [Array.getElem?_modify, h]
  simp
theorem b3_cells {W : World} {B : Nat} {a b c : Value} {T : TypeId} (h : W.heap[B]? = some (.cells #[a, b, c] T (0, 0))) : W.cell? ⟨B, 0, none⟩ = some a ∧ W.cell? ⟨B, 1, none⟩ = some b ∧ W.cell? ⟨B, 2, none⟩ = some c ∧ ∀ k, W.frozen? ⟨B, k, none⟩ = false := by
  refine ⟨?_, ?_, ?_, fun k => ?_⟩
  · unfold World.cell?; rw [h]; rfl
  · unfold World.cell?; rw [h]; rfl
  · unfold World.cell?; rw [h]; rfl
  · unfold World.frozen?; rw [h]; simp
theorem b3_facts {W : World} {B : Nat} {a b c : Value} {T : TypeId} (h : W.heap[B]? = some (.cells #[a, b, c] T (0, 0))) (x y : Value) :
    (W.cell? ⟨B, 0, none⟩ = some a ∧ W.frozen? ⟨B, 0, none⟩ = false) ∧ ((W.setCell ⟨B, 0, none⟩ x).cell? ⟨B, 1, none⟩ = some b ∧ (W.setCell ⟨B, 0, none⟩ x).frozen? ⟨B, 1, none⟩ = false) ∧
    (((W.setCell ⟨B, 0, none⟩ x).setCell ⟨B, 1, none⟩ y).cell? ⟨B, 2, none⟩ = some c ∧ ((W.setCell ⟨B, 0, none⟩ x).setCell ⟨B, 1, none⟩ y).frozen? ⟨B, 2, none⟩ = false) := by
  have h1 := heap_setCell_at h 0 x
  have h2 := heap_setCell_at h1 1 y
  have g0 := b3_cells h
  have g1 := b3_cells (a := x) (b := b) (c := c) h1
  have g2 := b3_cells (a := x) (b := y) (c := c) h2
  exact ⟨⟨g0.1, g0.2.2.2 0⟩, ⟨g1.2.1, g1.2.2.2 1⟩, ⟨g2.2.2.1, g2.2.2.2 2⟩⟩
theorem b3_end {W : World} {B : Nat} {a b c : Value} {T : TypeId} (h : W.heap[B]? = some (.cells #[a, b, c] T (0, 0))) (x y z : Value) : (((W.setCell ⟨B, 0, none⟩ x).setCell ⟨B, 1, none⟩ y).setCell ⟨B, 2, none⟩ z).heap[B]? = some (.cells #[x, y, z] T (0, 0)) := by
  have h1 := heap_setCell_at h 0 x
  have h2 := heap_setCell_at h1 1 y
  exact heap_setCell_at h2 2 z
theorem b3_keep {W : World} {B t o : Nat} (hn : t ≠ B) {v : Value} (h : W.cell? ⟨t, o, none⟩ = some v) (x y z : Value) : (((W.setCell ⟨B, 0, none⟩ x).setCell ⟨B, 1, none⟩ y).setCell ⟨B, 2, none⟩ z).cell? ⟨t, o, none⟩ = some v := by
  have e : ∀ k, (⟨B, k, none⟩ : Addr) ≠ ⟨t, o, none⟩ := fun k e => hn (by have := congrArg Addr.block e; exact this.symm)
  rw [World.cell?_setCell_other _ _ _ _ (e 2), World.cell?_setCell_other _ _ _ _ (e 1), World.cell?_setCell_other _ _ _ _ (e 0)]
  exact h
theorem b3_below {W : World} {B n : Nat} (hB : n ≤ B) {a : World} (h : Below n a W) (x y z : Value) : Below n a (((W.setCell ⟨B, 0, none⟩ x).setCell ⟨B, 1, none⟩ y).setCell ⟨B, 2, none⟩ z) :=
  ((h.setCell (p := ⟨B, 0, none⟩) hB _).setCell (p := ⟨B, 1, none⟩) hB _).setCell (p := ⟨B, 2, none⟩) hB _
end Go.Proofs.YtahdmkmefeocmaaDoor
