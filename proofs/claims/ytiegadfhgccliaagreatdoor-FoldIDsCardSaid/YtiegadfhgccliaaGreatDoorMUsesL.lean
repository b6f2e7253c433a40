/- Rising rows of numbers; the pieces that parts use. Plain, and as a map's keys. -/
import Derived.Test.YtiegadfhgccliaaGreatDoorMFoldM
import Derived.Test.YtiegadfhgccliaaGreatDoorMIterI
namespace Go.Proofs.YtiegadfhgccliaaGreatDoor
open Go.RowKit Go.Lib Go.Maps
open Go.ChangeMaps (setBlock)
open Go.WideElems (Fit rd rg rg_of)

def RiseI (l : List Int) : Prop := l.Pairwise fun a b => a < b
def insI (n : Int) : List Int → List Int
  | [] => [n]
  | m :: r => if m < n then m :: insI n r else if m = n then m :: r else n :: m :: r
theorem RiseI.nodup {l : List Int} (h : RiseI l) : l.Nodup := h.imp fun h e => by subst e; exact absurd h (Int.lt_irrefl _)
def usesB (L : List Bp) (U : List Int) : List Int := L.foldl (fun U p => insI p.ch U) U
def usesS (fs : List (Int × Bd)) (U : List Int) : List Int := fs.foldl (fun U f => usesB f.2.parts U) U
/-- A set of numbers as a map. -/
def addK (k : Int) (K : List Int) : List Int := if k ∈ K then K else K ++ [k]
def entsB (K : List Int) : List (Int × Value) := K.map fun k => (k, Value.bool true)
/-! ### Rows of numbers -/
def encI : EncK Int where
  enc x := [.int .i64 x]
  K := 1
  pos := by decide
  len _ := rfl
  one x u hu := by
    simp at hu
    subst hu; rfl
abbrev SlI (w : World) (a : Option Addr) (L : List Int) : Prop := SlK encI w a L
theorem SlI_at {w : World} {a : Option Addr} {L : List Int} (h : SlI w a L) {k : Nat} (hk : k < L.length) : ∃ b o, a = some ⟨b, o, none⟩ ∧ w.cell? ⟨b, o + k, none⟩ = some (.int .i64 (L.getD k default)) ∧ b < w.heap.size := by
  obtain ⟨b, o, e, h1, h2⟩ := h.at_ hk
  have := h1 0 _ rfl
  have e1 : encI.K = 1 := rfl
  rw [e1, Nat.mul_one, Nat.add_zero] at this
  exact ⟨b, o, e, this, h2⟩
/-- What slices.Sorted(maps.Keys(m)) asks of a map of numbers. -/
def keyI : Value → Int
  | .int .i64 n => n
  | _ => 0
def rAnyI : Value → Option (DataW Unit × List MemPlace) := fun _ => some (.nil, [])
end Go.Proofs.YtiegadfhgccliaaGreatDoor
