/- Walk of FoldUses. -/
import Derived.Test.YtiegadfhgccliaaGreatDoorMFoldK
import Derived.Test.YtiegadfhgccliaaGreatDoorMUsesP
namespace Go.Proofs.YtiegadfhgccliaaGreatDoor
open Go.RowKit Go.Lib
open Go.ChangeMaps (setBlock)

theorem FInv.few {S : FS} (hI : FInv S) : S.fs.length ≤ 64 := by
  have h1 : (S.fs.map (·.1)).Nodup := once_map.1 hI.once
  have h2 : (S.fs.map (·.1)) ⊆ S.t.L.map (·.id) := fun x hx => by
    obtain ⟨f, hf, rfl⟩ := List.mem_map.1 hx
    obtain ⟨n, hn, e, _⟩ := hI.only f hf
    exact List.mem_map.2 ⟨n, hn, e⟩
  have h3 := nodup_len h1 h2
  rw [List.length_map, List.length_map] at h3
  exact Nat.le_trans h3 hI.t.few
def ptP (nb : Int) : Bp := ⟨0, 1 + nb % 64, 2305843009213693952, 0⟩
def ptQ : Bp := ⟨0, 64, 2305843009213693953, 0⟩
theorem FK.lt {w0 w : World} {sb tb mb lb : Nat} {S : FS} {N : Nat} (h : FK w0 w sb tb mb lb S N) : sb < w.heap.size ∧ tb < w.heap.size ∧ mb < w.heap.size ∧ lb < w.heap.size := h.p.lt
def pathZ : ByteArray := ⟨#[47, 122, 122, 122, 122]⟩
def evZ (op : Int) : Ev := ⟨op, pathZ, ⟨#[]⟩, 0, 0, []⟩
end Go.Proofs.YtiegadfhgccliaaGreatDoor
