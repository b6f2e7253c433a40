/- Walks of package fold: Uses. -/
import Derived.Test.YtiegadfhgccliaaGreatDoorMFoldD
namespace Go.Proofs.YtiegadfhgccliaaGreatDoor
open Go.RowKit Go.Lib Go.Maps
open Go.ChangeMaps (setBlock)

section ops
variable {ops : Array Oper} {rest : List Oper} {o : Oper} {a : Act} {Q : Exit → Act → World → Prop} {P : Program}
end ops
theorem nodup_len : ∀ {a b : List Int}, a.Nodup → a ⊆ b → a.length ≤ b.length
  | [], _, _, _ => Nat.zero_le _
  | x :: r, b, h, hs => by
    obtain ⟨h1, h2⟩ := List.nodup_cons.1 h
    have hx : x ∈ b := hs (by simp)
    have ih := nodup_len (a := r) (b := b.erase x) h2 fun y hy => (List.mem_erase_of_ne (fun e => h1 (by rw [← e]; exact hy))).2 (hs (by simp [hy]))
    rw [List.length_erase_of_mem hx] at ih
    have := List.length_pos_of_mem hx
    rw [List.length_cons]
    omega
/-- The pieces of these files. -/
def usesF (L : List FileM) (x : Int) : Prop := ∃ f ∈ L, ∃ p ∈ f.bd.parts, p.ch = x
end Go.Proofs.YtiegadfhgccliaaGreatDoor
