/- FoldUses in plain Lean: a file of its own, written over, cut off, gone. -/
import Derived.Test.YtiegadfhgccliaaGreatDoorMStateI
import Derived.Test.YtiegadfhgccliaaGreatDoorMUsesL
namespace Go.Proofs.YtiegadfhgccliaaGreatDoor
open Go.Lib

/-- A state in which this file came last. -/
structure LastF (S : FS) (fs : List (Int × Bd)) (id : Int) (s : ByteArray) (b : Bd) : Prop where
  inv : FInv S
  fs : S.fs = fs ++ [(id, b)]
  node : ⟨s, id, false⟩ ∈ S.t.L
theorem LastF.has {S : FS} {fs : List (Int × Bd)} {id : Int} {s : ByteArray} {b : Bd} (h : LastF S fs id s b) : bodyOf S.fs id = some b :=
  bodyOf_mem h.inv.once (by rw [h.fs]; simp)
theorem LastF.file {S : FS} {fs : List (Int × Bd)} {id : Int} {s : ByteArray} {b : Bd} (h : LastF S fs id s b) : fileS S.t s = (id, 0) := by
  have := h.inv.t.look h.node
  unfold fileS
  rw [this]
  rfl
theorem LastF.none {S : FS} {fs : List (Int × Bd)} {id : Int} {s : ByteArray} {b : Bd} (h : LastF S fs id s b) : ∀ f ∈ fs, f.1 ≠ id := by
  have h1 := h.inv.once
  rw [h.fs] at h1
  intro f hf
  exact (List.pairwise_append.1 h1).2.2 f hf (id, b) (by simp)
theorem LastF.set {S : FS} {fs : List (Int × Bd)} {id : Int} {s : ByteArray} {b : Bd} (h : LastF S fs id s b) (c : Bd) : setF S.fs id c = fs ++ [(id, c)] := by
  unfold setF
  rw [h.fs, List.map_append, List.map_cons, List.map_nil, if_pos rfl]
  have h2 : fs.map (fun f => if f.1 = id then (id, c) else f) = fs := by
    refine (List.map_congr_left (g := fun x => x) fun f hf => ?_).trans (List.map_id' fs)
    rw [if_neg (h.none f hf)]
  rw [h2]
theorem LastF.drop {S : FS} {fs : List (Int × Bd)} {id : Int} {s : ByteArray} {b : Bd} (h : LastF S fs id s b) : dropF S.fs id = fs := by
  unfold dropF
  rw [h.fs, List.filter_append]
  have : List.filter (fun f => !decide (f.1 = id)) fs = fs := List.filter_eq_self.2 fun f hf => by simpa using h.none f hf
  rw [this]
  simp
theorem LastF.write {S : FS} {fs : List (Int × Bd)} {id : Int} {s : ByteArray} {b : Bd} (h : LastF S fs id s b) {c : Bd} {l : List Bp} {e : Ev} (e1 : e.op = 3) (e2 : e.path = s) (e3 : e.off = 0) (e4 : e.data = []) (hw : writeS b 0 l = (c, 0)) :
    ∃ S', applyS S e l = (S', 0) ∧ LastF S' fs id s c := by
  have hx : checkS S e = 0 := by
    unfold checkS
    rw [if_neg (by omega), if_pos e1, e2, h.file, if_pos rfl, e4, e3]
    rfl
  have h1 : applyS S e l = putS S e l := by unfold applyS; rw [if_pos hx, if_neg (by omega), if_neg (by omega), if_pos e1]
  have h2 : putS S e l = (⟨S.t, setF S.fs id c⟩, 0) := by
    unfold putS
    rw [e2, h.file, e4, e3]
    dsimp only
    rw [h.has, Option.getD_some, hw, if_neg (by simp), if_pos rfl]
  have hi := h.inv.apply e l
  rw [h1, h2] at hi
  refine ⟨_, h1.trans h2, hi, h.set c, h.node⟩
theorem LastF.trunc {S : FS} {fs : List (Int × Bd)} {id : Int} {s : ByteArray} {b : Bd} (h : LastF S fs id s b) {l : List Bp} {e : Ev} (e1 : e.op = 4) (e2 : e.path = s) (e3 : e.size = 0) :
    ∃ S', applyS S e l = (S', 0) ∧ LastF S' fs id s (truncS b 0).1 := by
  have hx : checkS S e = 0 := by
    unfold checkS
    rw [if_neg (by omega), if_neg (by omega), if_pos e1, e2, h.file, if_pos rfl, e3]
    rfl
  have h1 : applyS S e l = (⟨S.t, setF S.fs id (truncS b 0).1⟩, 0) := by
    unfold applyS
    rw [if_pos hx, if_neg (by omega), if_neg (by omega), if_neg (by omega), if_pos e1, e2, h.file, e3]
    dsimp only
    rw [h.has, Option.getD_some]
  have hi := h.inv.apply e l
  rw [h1] at hi
  exact ⟨_, h1, hi, h.set _, h.node⟩
/-! ### uses -/
end Go.Proofs.YtiegadfhgccliaaGreatDoor
