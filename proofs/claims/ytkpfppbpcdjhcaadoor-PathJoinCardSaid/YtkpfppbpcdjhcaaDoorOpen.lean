/- Parameters opened: []string. -/
import Derived.Test.YtkpfppbpcdjhcaaDoorStrs
import Derived.SliceStrings
import Derived.SizedLaws
import Derived.ChangeMaps5
import Derived.ProofKit
import Derived.OpenShut
namespace Go.Proofs.YtkpfppbpcdjhcaaDoor
open Go.ChangeShapes Go.WideShapes Go.ChangeAt Go.RowKit

theorem bytes_str : Tryd.prog.bytesOf 9 = 16 := by kernel_rfl
theorem cells_str : Tryd.prog.cellsOf 9 = 1 := by kernel_rfl
theorem open_strs {H : Type} {enc : TypeId × Value → H} {w : World} {base : Nat} {r : Reach} {b0 : Nat} {v : Value} {d : DataW H} {p : List MemPlace} (hv : Value.okWide Tryd.prog w r b0 23 v)
    (h : DataW.Trod enc Tryd.prog w base (fun _ => true) true 23 v d p) (hs : ∀ elems spare, d = .slice elems spare → (elems.length + spare.length) * Tryd.prog.bytesOf 9 ≤ reachBytes) :
    ∃ a L c, v = .slice a L.length c ∧ SlS w a L ∧ L.length ≤ c ∧ (∀ x ∈ L, x.size ≤ maxLen) ∧ c * 16 ≤ 140737488351232 := by
  obtain ⟨a, len, cap, rfl⟩ := okWide_slice Tryd.underlying23 hv
  obtain ⟨fuel, hf⟩ := h
  rcases open_strings Tryd.underlying23 Tryd.underlying9 cells_str hf with ⟨e, _⟩ | ⟨a', len', cap', ss, e, _, hl, hm, hlen, hx, hc, hfit⟩
  · simp [Value.cells] at e
    obtain ⟨rfl, rfl, rfl⟩ := e
    exact ⟨none, [], 0, rfl, .nil _ _, Nat.le_refl _, by simp, by omega⟩
  · simp [Value.cells] at e
    obtain ⟨rfl, rfl, rfl⟩ := e
    simp only [if_true] at hlen
    have hd := (Prod.mk.inj hx).1
    have hb := hs _ _ hd
    rw [bytes_str] at hb
    have hlt : (ss.take len).length = len := by rw [List.length_take]; omega
    have e1 : ∀ l : List ByteArray, (ChangeShapes.strs (H := H) l).length = l.length := fun l => by simp [strs]
    rw [e1, e1, ← List.length_append, List.take_append_drop, hlen] at hb
    refine ⟨some a', ss.take len, cap, by rw [hlt], ?_, by omega, fun x hx => hfit x (List.mem_of_mem_take hx), hb⟩
    by_cases h0 : len = 0
    · subst h0; exact .inl (by simp)
    · have hsp : a'.spot = none := by
        have := hc 0 (by omega)
        obtain ⟨ab, ao, asp⟩ := a'
        cases asp with
        | none => rfl
        | some q =>
          have h2 : w.cell? ⟨ab, ao, some q⟩ = none := by
            unfold World.cell?
            split <;> simp
          simp [Addr.add, h2] at this
      obtain ⟨ab, ao, asp⟩ := a'
      subst hsp
      refine .inr ⟨ab, ao, rfl, ⟨fun k hk => ?_, ?_⟩⟩
      · have hk' : k < len := by omega
        have h1 := hc k (by omega)
        have h2 : (ss.take len).getD k default = ss.getD k ByteArray.empty := by
          have h3 : k < ss.length := by omega
          simp [List.getD, hk', h3]
        have h4 : (⟨ab, ao, none⟩ : Addr).add k = ⟨ab, ao + k, none⟩ := by unfold Addr.add; split <;> simp_all
        rw [h2, ← h4]
        exact h1
      · have h1 := hc 0 (by omega)
        exact World.block_lt_of_cell? w _ (by simpa [Addr.add] using h1)
end Go.Proofs.YtkpfppbpcdjhcaaDoor
