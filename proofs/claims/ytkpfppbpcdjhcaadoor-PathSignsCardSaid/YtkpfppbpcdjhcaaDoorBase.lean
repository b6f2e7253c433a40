/- Small laws on worlds and on rows of the call's own. -/
import Derived.Test.YtkpfppbpcdjhcaaDoorRows
import Derived.WalkKit
import Derived.WalkSpells
import Derived.WalkLawsBesides
import Derived.Lib.Hide
import Derived.RegionTactic
import Derived.BigRegion
import Derived.OwnWalk
import Derived.Laws.AppendOwn
import Derived.IntWalk
import Derived.Below
namespace Go.Proofs.YtkpfppbpcdjhcaaDoor
open Go.RowKit Go.Lib

theorem blw {a b c : World} (h : Below a.heap.size a b) (k : Below b.heap.size b c) : Below a.heap.size a c := h.trans (k.mono h.size)
theorem bal {a b : World} (h : Below a.heap.size a b) (o : Obj) : Below a.heap.size a (b.alloc o) := h.alloc h.size o
theorem grown_below {B : Nat} {w W w1 : World} {v : Value} {e : TypeId} {size n : Nat} {xs : List Value} (hB : Below B w W) (hBW : B ≤ W.heap.size) (hown : W.ownsRow B e size v n xs) (hg : W.grownBy w1 v.ownBlock) : Below B w w1 :=
  hB.grown hg hBW fun k hk => (hown.lt k hk).1
theorem heap_eq2 {W W' : World} (h : W'.heap = W.heap) {k : Nat} {o : Option Obj} (g : W.heap[k]? = o) : W'.heap[k]? = o := by rw [h]; exact g
theorem own_heap {w w' : World} {base : Nat} {e : TypeId} {size : Nat} {v : Value} {n : Nat} {xs : List Value} (h : w.ownsRow base e size v n xs) (hh : w'.heap = w.heap) : w'.ownsRow base e size v n xs := by
  refine ⟨h.1, ?_⟩
  rw [hh]
  exact h.2
/-- A cell of a row of the call's own, written. -/
theorem own_set {w : World} {base : Nat} {e : TypeId} {g cap : Nat} {n : Nat} {xs : List Value} (h : w.ownsRow base e 1 (.slice (some ⟨g, 0, none⟩) n cap) n xs) {k : Nat} (u : Value) : (w.setCell ⟨g, k, none⟩ u).ownsRow base e 1 (.slice (some ⟨g, 0, none⟩) n cap) n (xs.set k u) := by
  refine ⟨by simpa using h.1, ?_⟩
  rcases h.2 with ⟨hv, _⟩ | ⟨g', cap', cur, hv, hb, hg, h1, h2, h3, h4⟩
  · cases hv
  · obtain ⟨hg', _, hc'⟩ := Value.slice.inj hv
    obtain rfl : g = g' := by simpa using hg'
    subst hc'
    refine .inr ⟨g, cap, cur.setIfInBounds k u, rfl, hb, ?_, h1, h2, by simpa using h3, ?_⟩
    · have hgl := (Array.getElem?_eq_some_iff.1 hg).1
      unfold World.setCell
      simp only [Array.getElem?_modify, hg]
      simp
    · rw [Array.toList_setIfInBounds, ← h4, List.take_set]
theorem own_cell {w : World} {base : Nat} {e : TypeId} {g cap : Nat} {n : Nat} {xs : List Value} (h : w.ownsRow base e 1 (.slice (some ⟨g, 0, none⟩) n cap) n xs) {k : Nat} {u : Value} (hx : xs[k]? = some u) : w.cell? ⟨g, k, none⟩ = some u ∧ w.frozen? ⟨g, k, none⟩ = false ∧ base ≤ g ∧ g < w.heap.size := by
  rcases h.2 with ⟨hv, _⟩ | ⟨g', cap', cur, hv, hb, hg, h1, h2, h3, h4⟩
  · cases hv
  · obtain ⟨hg', _, hc'⟩ := Value.slice.inj hv
    obtain rfl : g = g' := by simpa using hg'
    have hk : k < cur.size := by
      rw [← h4, List.getElem?_take] at hx
      split at hx
      · obtain ⟨hl, _⟩ := List.getElem?_eq_some_iff.1 hx
        simpa using hl
      · cases hx
    rw [← h4, List.getElem?_take] at hx
    split at hx
    · refine ⟨?_, ?_, hb, (Array.getElem?_eq_some_iff.1 hg).1⟩
      · unfold World.cell?; rw [hg]; simpa using hx
      · unfold World.frozen?; rw [hg]; simp
    · cases hx
theorem one_new (w : World) (v : Value) (t : TypeId) : ∀ j u, [v][j]? = some u → (w.alloc (.cells #[v] t)).cell? ((⟨w.heap.size, 0, none⟩ : Addr).add j) = some u := by
  intro j u hu
  cases j with
  | zero =>
    simp at hu; subst hu
    have : ((⟨w.heap.size, 0, none⟩ : Addr).add 0) = ⟨w.heap.size, 0, none⟩ := rfl
    rw [this]
    unfold World.cell?
    rw [heap_alloc_new]; rfl
  | succ j => simp at hu
end Go.Proofs.YtkpfppbpcdjhcaaDoor
