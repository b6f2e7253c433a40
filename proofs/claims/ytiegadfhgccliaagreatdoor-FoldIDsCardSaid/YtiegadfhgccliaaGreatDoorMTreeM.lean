/- Trees in memory; what a call may turn. -/
import Derived.Test.YtiegadfhgccliaaGreatDoorMTreeL
import Derived.Test.YtiegadfhgccliaaGreatDoorMMap
import Derived.Test.YtiegadfhgccliaaGreatDoorMBase
import Derived.Test.YtiegadfhgccliaaGreatDoorMPathW
namespace Go.Proofs.YtiegadfhgccliaaGreatDoor
open Go.RowKit Go.Lib
open Go.ChangeMaps (setBlock)

/-- Of what was there only these blocks may have turned. -/
structure Turn (bs : List Nat) (w w' : World) : Prop where
  os : w'.os = w.os
  tape : w'.tape = w.tape
  output : w'.output = w.output
  size : w.heap.size ≤ w'.heap.size
  block : ∀ k, k < w.heap.size → k ∉ bs → w'.heap[k]? = w.heap[k]?
theorem Turn.refl (bs : List Nat) (w : World) : Turn bs w w := ⟨rfl, rfl, rfl, Nat.le_refl _, fun _ _ _ => rfl⟩
theorem Turn.trans {bs : List Nat} {a b c : World} (h : Turn bs a b) (k : Turn bs b c) : Turn bs a c :=
  ⟨k.os.trans h.os, k.tape.trans h.tape, k.output.trans h.output, Nat.le_trans h.size k.size, fun i hi hn => (k.block i (Nat.lt_of_lt_of_le hi h.size) hn).trans (h.block i hi hn)⟩
theorem Turn.mono {bs cs : List Nat} {a b : World} (h : Turn bs a b) (hs : ∀ x ∈ bs, x ∈ cs) : Turn cs a b :=
  ⟨h.os, h.tape, h.output, h.size, fun i hi hn => h.block i hi fun e => hn (hs i e)⟩
theorem Turn.of_below {bs : List Nat} {a b : World} (h : Below a.heap.size a b) : Turn bs a b := ⟨h.os, h.tape, h.output, h.size, fun i hi _ => h.block i hi⟩
theorem Turn.below {bs : List Nat} {w a b : World} (h : Turn bs a b) (hw : Below w.heap.size w a) (hs : ∀ x ∈ bs, w.heap.size ≤ x) : Below w.heap.size w b :=
  ⟨h.os.trans hw.os, h.tape.trans hw.tape, h.output.trans hw.output, Nat.le_trans hw.size h.size, fun i hi => (h.block i (Nat.lt_of_lt_of_le hi hw.size) fun e => by have := hs i e; omega).trans (hw.block i hi)⟩
theorem Turn.nil {a b : World} (h : Turn [] a b) : Below a.heap.size a b := h.below (Below.refl _ _) (by simp)
theorem Turn.drewN {bs : List Nat} {a b : World} (h : Turn bs a b) (n : Nat) : Turn bs a (b.drewN n) := ⟨h.os, h.tape, h.output, h.size, h.block⟩
theorem Turn.alloc {bs : List Nat} {a b : World} (h : Turn bs a b) (o : Obj) : Turn bs a (b.alloc o) :=
  h.trans (.of_below ((Below.refl _ _).alloc (Nat.le_refl _) o))
theorem Turn.setCell {bs : List Nat} {a b : World} (h : Turn bs a b) {p : Addr} (hp : p.block ∈ bs ∨ a.heap.size ≤ p.block) (v : Value) : Turn bs a (b.setCell p v) := by
  refine ⟨h.os, h.tape, h.output, Nat.le_trans h.size (by simp [World.setCell]), fun i hi hn => ?_⟩
  rw [Below.heap_setCell _ _ _ _ (by intro e; rw [← e] at hp; rcases hp with hp | hp; exact hn hp; omega)]
  exact h.block i hi hn
theorem Turn.setBlock {bs : List Nat} {a b : World} (h : Turn bs a b) {r : Nat} (hr : r ∈ bs ∨ a.heap.size ≤ r) (o : Obj) : Turn bs a (setBlock b r o) := by
  refine ⟨h.os, h.tape, h.output, Nat.le_trans h.size (by show b.heap.size ≤ (b.heap.setIfInBounds r o).size; simp), fun i hi hn => ?_⟩
  rw [heap_setBlock_ne _ _ _ _ (by intro e; rw [← e] at hr; rcases hr with hr | hr; exact hn hr; omega)]
  exact h.block i hi hn
theorem Turn.cell {bs : List Nat} {a b : World} (h : Turn bs a b) {p : Addr} (hp : p.block < a.heap.size) (hn : p.block ∉ bs) : b.cell? p = a.cell? p := World.cell?_of_block (h.block _ hp hn)
theorem MLen.turn {bs : List Nat} {w w' : World} (h : MLen w) (ht : Turn bs w w') (hn : 0 ∉ bs) : MLen w' := by
  have hl := h.lt
  obtain ⟨m, hm⟩ := h
  exact ⟨m, (ht.cell (p := ⟨0, 0, none⟩) hl hn).trans hm⟩
theorem RdS.turn {bs : List Nat} {w w' : World} {b o : Nat} {L : List ByteArray} (h : RdS w b o L) (ht : Turn bs w w') (hn : b ∉ bs) : RdS w' b o L :=
  ⟨fun k hk => (ht.cell (p := ⟨b, o + k, none⟩) h.lt hn).trans (h.at_ k hk), Nat.lt_of_lt_of_le h.lt ht.size⟩

/-- A node as a map's element. -/
abbrev ndV (n : Nd) : Value := .agg #[.string n.path, .int .i64 n.id, .bool n.dir]
abbrev entN (n : Nd) : ByteArray × Value := (n.path, ndV n)
def ents (L : List Nd) : List (ByteArray × Value) := L.map entN
theorem look_ents (L : List Nd) (s : ByteArray) : look s (ents L) = (fnd s L).map ndV := by
  unfold look ents fnd
  rw [List.find?_map, Option.map_map]
  rfl
/-- A tree: its struct in a block of its own, its map in another one; in whatever order. -/
structure TreeAt (w : World) (tb mb : Nat) (L : List Nd) (nx : Int) : Prop where
  cells : w.heap[tb]? = some (.cells #[.map (some mb), .int .i64 nx] 99 (0, 0))
  map : MapIs strKey w mb (ents L)
theorem TreeAt.lt {w : World} {tb mb : Nat} {L : List Nd} {nx : Int} (h : TreeAt w tb mb L nx) : tb < w.heap.size := (Array.getElem?_eq_some_iff.1 h.cells).1
theorem TreeAt.ltm {w : World} {tb mb : Nat} {L : List Nd} {nx : Int} (h : TreeAt w tb mb L nx) : mb < w.heap.size := h.map.lt
theorem TreeAt.ne {w : World} {tb mb : Nat} {L : List Nd} {nx : Int} (h : TreeAt w tb mb L nx) : tb ≠ mb := by
  obtain ⟨es, clock, hb, _⟩ := h.map
  intro e
  rw [← e, h.cells] at hb
  cases hb
theorem TreeAt.turn {bs : List Nat} {w w' : World} {tb mb : Nat} {L : List Nd} {nx : Int} (h : TreeAt w tb mb L nx) (ht : Turn bs w w') (h1 : tb ∉ bs) (h2 : mb ∉ bs) : TreeAt w' tb mb L nx :=
  ⟨(ht.block tb h.lt h1).trans h.cells, h.map.of_block (ht.block mb h.ltm h2)⟩
theorem TreeAt.below {w w' : World} {tb mb : Nat} {L : List Nd} {nx : Int} (h : TreeAt w tb mb L nx) (hb : Below w.heap.size w w') : TreeAt w' tb mb L nx := h.turn (bs := []) (.of_below hb) (by simp) (by simp)
theorem TreeAt.c0 {w : World} {tb mb : Nat} {L : List Nd} {nx : Int} (h : TreeAt w tb mb L nx) : w.cell? ⟨tb, 0, none⟩ = some (.map (some mb)) := by unfold World.cell?; rw [h.cells]; rfl
theorem TreeAt.c1 {w : World} {tb mb : Nat} {L : List Nd} {nx : Int} (h : TreeAt w tb mb L nx) : w.cell? ⟨tb, 1, none⟩ = some (.int .i64 nx) := by unfold World.cell?; rw [h.cells]; rfl
theorem TreeAt.f1 {w : World} {tb mb : Nat} {L : List Nd} {nx : Int} (h : TreeAt w tb mb L nx) : w.frozen? ⟨tb, 1, none⟩ = false := by unfold World.frozen?; rw [h.cells]; rfl

/-- The tree as its nodes by path: in memory in whatever order. -/
def TreeP (w : World) (tb mb : Nat) (T : TS) : Prop := ∃ L, L.Perm T.L ∧ TreeAt w tb mb L T.nx
theorem TreeP.turn {bs : List Nat} {w w' : World} {tb mb : Nat} {T : TS} (h : TreeP w tb mb T) (ht : Turn bs w w') (h1 : tb ∉ bs) (h2 : mb ∉ bs) : TreeP w' tb mb T := by
  obtain ⟨L, hp, h⟩ := h
  exact ⟨L, hp, h.turn ht h1 h2⟩
theorem TreeP.below {w w' : World} {tb mb : Nat} {T : TS} (h : TreeP w tb mb T) (hb : Below w.heap.size w w') : TreeP w' tb mb T := h.turn (bs := []) (.of_below hb) (by simp) (by simp)
theorem TreeP.lt {w : World} {tb mb : Nat} {T : TS} (h : TreeP w tb mb T) : tb < w.heap.size ∧ mb < w.heap.size ∧ tb ≠ mb := by
  obtain ⟨L, _, h⟩ := h
  exact ⟨h.lt, h.ltm, h.ne⟩
theorem TreeP.facts {w : World} {tb mb : Nat} {T : TS} (h : TreeP w tb mb T) : w.cell? ⟨tb, 0, none⟩ = some (.map (some mb)) ∧ w.cell? ⟨tb, 1, none⟩ = some (.int .i64 T.nx) ∧ w.frozen? ⟨tb, 1, none⟩ = false := by
  obtain ⟨L, _, h⟩ := h
  exact ⟨h.c0, h.c1, h.f1⟩
def zeroNd : Value := .agg #[.string ⟨#[]⟩, .int .i64 0, .bool false]
theorem zero_nd (w : World) : (zeroValue 51).run Tryz.prog w = .ok (.agg #[.string ⟨#[]⟩, .int .i64 0, .bool false]) w := by kernel_rfl
/-- 'n, ok := t.l[s]'. -/
theorem TreeP.look {w : World} {tb mb : Nat} {T : TS} (h : TreeP w tb mb T) (ha : Apart T.L) (s : ByteArray) :
    (Instr.lookup 97 (.map (some mb)) (.string s) true).run Tryz.prog w = .ok (.tuple #[((fnd s T.L).map ndV).getD (.agg #[.string ⟨#[]⟩, .int .i64 0, .bool false]), .bool (fnd s T.L).isSome]) w := by
  obtain ⟨L, hp, h⟩ := h
  have := run_look_ok (P := Tryz.prog) strKey h.map Tryz.underlying97 Tryz.underlying9 (zero_nd w) s
  rw [look_ents, fnd_perm (ha.perm hp.symm) hp s] at this
  rw [Option.isSome_map] at this
  exact this
/-- 't.l[s]'. -/
theorem TreeP.look1 {w : World} {tb mb : Nat} {T : TS} (h : TreeP w tb mb T) (ha : Apart T.L) (s : ByteArray) :
    (Instr.lookup 97 (.map (some mb)) (.string s) false).run Tryz.prog w = .ok (((fnd s T.L).map ndV).getD (.agg #[.string ⟨#[]⟩, .int .i64 0, .bool false])) w := by
  obtain ⟨L, hp, h⟩ := h
  have := run_look (P := Tryz.prog) strKey h.map Tryz.underlying97 Tryz.underlying9 (zero_nd w) s
  rw [look_ents, fnd_perm (ha.perm hp.symm) hp s] at this
  exact this
/-- 'len(t.l)'. -/
theorem TreeP.len {w : World} {tb mb : Nat} {T : TS} (h : TreeP w tb mb T) (rt : TypeId) :
    (Builtin.len_ #[97] rt #[.map (some mb)]).run Tryz.prog w = .ok (.int .i64 T.L.length) w := by
  obtain ⟨L, hp, h⟩ := h
  have := run_maplen (P := Tryz.prog) strKey h.map Tryz.underlying97 #[97] rfl rt
  have e : (ents L).length = T.L.length := by unfold ents; rw [List.length_map]; exact hp.length_eq
  rw [e] at this
  exact this

set_option maxRecDepth 100000 in
/-- tree.New. -/
theorem tree_new (w : World) : Calls Tryz.prog 26 #[] w fun e w' => ∃ tb mb, e = .returned (.pointer (some ⟨tb, 0, none⟩)) ∧ TreeP w' tb mb ⟨[], 1⟩ ∧ w.heap.size ≤ tb ∧ w.heap.size ≤ mb ∧ Below w.heap.size w w' := by
  have hmm := @run_makeMap Tryz.prog
  go_enter Tryz.func26, Tryz.ntmps26
  go_wp2
  go_ret
  have hs : (w.alloc (.map #[] 0)).heap.size = w.heap.size + 1 := by simp
  refine ⟨_, _, rfl, ⟨[], .refl _, ⟨by rw [← hs]; exact heap_alloc_new _ _, ?_⟩⟩, ?_, ?_, ?_⟩
  · exact (MapIs.new strKey w).of_block (Below.heap_alloc _ _ _ (by simp))
  · simp
  · simp
  · exact ((Below.refl _ _).alloc (Nat.le_refl _) _).alloc (by simp) _
end Go.Proofs.YtiegadfhgccliaaGreatDoor
