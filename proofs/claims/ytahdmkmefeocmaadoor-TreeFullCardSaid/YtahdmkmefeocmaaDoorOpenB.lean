/- Parameters opened: []bool. -/
import Derived.WalkKit
import Derived.SliceStrings
import Derived.SizedLaws
import Derived.ChangeMaps5
import Derived.ProofKit
import Derived.OpenShut
import Derived.Test.YtahdmkmefeocmaaDoorRows
namespace Go.Proofs.YtahdmkmefeocmaaDoor
open Go.ChangeShapes Go.WideShapes Go.ChangeAt Go.RowKit

/-- A row of Bools. -/
def SlB (w : World) (a : Option Addr) (L : List Bool) : Prop := L = [] ∨ ∃ b o, a = some ⟨b, o, none⟩ ∧ b < w.heap.size ∧ ∀ k, k < L.length → w.cell? ⟨b, o + k, none⟩ = some (.bool (L.getD k false))
theorem SlB.below {w w' : World} {a : Option Addr} {L : List Bool} (h : SlB w a L) (hb : Below w.heap.size w w') : SlB w' a L := by
  rcases h with h | ⟨b, o, e, h1, h2⟩
  · exact .inl h
  · exact .inr ⟨b, o, e, Nat.lt_of_lt_of_le h1 hb.size, fun k hk => (hb.cell (p := ⟨b, o + k, none⟩) h1).trans (h2 k hk)⟩
theorem SlB.at_ {w : World} {a : Option Addr} {L : List Bool} (h : SlB w a L) {k : Nat} (hk : k < L.length) : ∃ b o, a = some ⟨b, o, none⟩ ∧ w.cell? ⟨b, o + k, none⟩ = some (.bool (L.getD k false)) := by
  rcases h with rfl | ⟨b, o, e, _, h2⟩
  · simp at hk
  · exact ⟨b, o, e, h2 k hk⟩
theorem cells_bool : Tryd.prog.cellsOf 4 = 1 := by kernel_rfl
def boolOf {H : Type} (y : DataW H × List MemPlace) : Bool := match y.1 with | .lit (.bool b) => b | _ => false
set_option maxRecDepth 10000 in
theorem open_bools {H : Type} {enc : TypeId × Value → H} {w : World} {base : Nat} {r : Reach} {b0 : Nat} {v : Value} {d : DataW H} {p : List MemPlace} (hv : Value.okWide Tryd.prog w r b0 36 v)
    (h : DataW.Trod enc Tryd.prog w base (fun _ => true) true 36 v d p) : ∃ a L c, v = .slice a L.length c ∧ SlB w a L ∧ L.length ≤ c ∧ c ≤ maxLen := by
  obtain ⟨a, len, cap, rfl⟩ := okWide_slice Tryd.underlying36 hv
  obtain ⟨fuel, hf⟩ := h
  rcases DataW.trod_slice Tryd.underlying36 hf with ⟨e, _⟩ | ⟨a', len', cap', elems, rest, n, _, e, _, _, hl, hm, hlen, hel, _⟩
  · simp [Value.cells] at e
    obtain ⟨rfl, rfl, rfl⟩ := e
    exact ⟨none, [], 0, rfl, .inl rfl, Nat.le_refl 0, Nat.zero_le maxLen⟩
  · simp [Value.cells] at e
    obtain ⟨rfl, rfl, rfl⟩ := e
    have hc : ∀ k, k < len → w.cell? (a'.add k) = some (.bool ((elems.map boolOf).getD k false)) := fun k hk => by
      have h1 := hel k hk
      have hk' : k < elems.length := by omega
      rw [List.getElem?_eq_getElem hk', cells_bool, Nat.mul_one, Option.bind_eq_some_iff] at h1
      obtain ⟨cs', hcs, hy⟩ := h1
      obtain ⟨b, rfl, hw⟩ := DataW.trod_bool Tryd.underlying4 hy
      rw [cell_of_cells?_one hcs]
      rw [List.getD_eq_getElem?_getD, List.getElem?_map, List.getElem?_eq_getElem hk', hw]
      rfl
    have hlt : (elems.map boolOf).length = len := by rw [List.length_map, hlen]
    refine ⟨some a', elems.map boolOf, cap, by rw [hlt], ?_, by omega, hm⟩
    by_cases h0 : len = 0
    · exact .inl (List.eq_nil_of_length_eq_zero (by rw [hlt, h0]))
    · have hsp : a'.spot = none := by
        have := hc 0 (by omega)
        obtain ⟨ab, ao, asp⟩ := a'
        cases asp with
        | none => rfl
        | some q =>
          have h2 : w.cell? ⟨ab, ao, some q⟩ = none := by
            unfold World.cell?
            split <;> simp
          simp [Addr.add, h2] at this
      obtain ⟨ab, ao, asp⟩ := a'
      subst hsp
      refine .inr ⟨ab, ao, rfl, ?_, fun k hk => ?_⟩
      · have h1 := hc 0 (by omega)
        exact World.block_lt_of_cell? w _ (by simpa [Addr.add] using h1)
      · have h1 := hc k (by omega)
        have h4 : (⟨ab, ao, none⟩ : Addr).add k = ⟨ab, ao + k, none⟩ := by unfold Addr.add; split <;> simp_all
        rw [← h4]
        exact h1
end Go.Proofs.YtahdmkmefeocmaaDoor
