/- Deeds of layer 15 in memory: an event, and its parts. -/
import Derived.Test.YtiegadfhgccliaaGreatDoorMRowK
namespace Go.Proofs.YtiegadfhgccliaaGreatDoor
open Go.RowKit Go.Lib

/-- A deed, and where its rows lie. -/
structure DeedM where
  e : Ev
  da : Option Addr
  dc : Nat
  l : List Bp
  la : Option Addr
  lc : Nat
instance : Inhabited DeedM := ⟨⟨⟨0, ⟨#[]⟩, ⟨#[]⟩, 0, 0, []⟩, none, 0, [], none, 0⟩⟩
def DeedM.cells (d : DeedM) : List Value := [.int .i64 d.e.op, .string d.e.path, .string d.e.to, .int .i64 d.e.off, .int .i64 d.e.size, .slice d.da d.e.data.length d.dc, .slice d.la d.l.length d.lc]
structure DeedAt (w : World) (b o : Nat) (d : DeedM) : Prop where
  c : ∀ j u, d.cells[j]? = some u → w.cell? ⟨b, o + j, none⟩ = some u
  l : SlPt w d.la d.l
  lc : d.l.length ≤ d.lc
  dc : d.e.data.length ≤ d.dc
  lm : d.lc ≤ 9223372036854775807
  dm : d.dc ≤ 9223372036854775807
theorem DeedAt.lt {w : World} {b o : Nat} {d : DeedM} (h : DeedAt w b o d) (j : Nat) (u : Value) (hu : d.cells[j]? = some u) : b < w.heap.size := by
  have := h.c j u hu
  unfold World.cell? at this
  cases e : w.heap[b]? with
  | none => rw [e] at this; cases this
  | some x => exact (Array.getElem?_eq_some_iff.1 e).1
theorem DeedAt.below {w w' : World} {b o : Nat} {d : DeedM} (h : DeedAt w b o d) (hb : Below w.heap.size w w') : DeedAt w' b o d :=
  ⟨fun j u hu => (hb.cell (p := ⟨b, o + j, none⟩) (h.lt j u hu)).trans (h.c j u hu), h.l.below hb, h.lc, h.dc, h.lm, h.dm⟩
theorem DeedAt.cells_of {w w' : World} {b o : Nat} {d : DeedM} (_ : DeedAt w b o d) (h : ∀ j u, d.cells[j]? = some u → w'.cell? ⟨b, o + j, none⟩ = some u) : w'.cell? ⟨b, o, none⟩ = some (.int .i64 d.e.op) ∧ w'.cell? ⟨b, o + 1, none⟩ = some (.string d.e.path) ∧ w'.cell? ⟨b, o + 2, none⟩ = some (.string d.e.to) ∧ w'.cell? ⟨b, o + 3, none⟩ = some (.int .i64 d.e.off) ∧
    w'.cell? ⟨b, o + 4, none⟩ = some (.int .i64 d.e.size) ∧ w'.cell? ⟨b, o + 5, none⟩ = some (.slice d.da d.e.data.length d.dc) ∧ w'.cell? ⟨b, o + 6, none⟩ = some (.slice d.la d.l.length d.lc) :=
  ⟨h 0 _ rfl, h 1 _ rfl, h 2 _ rfl, h 3 _ rfl, h 4 _ rfl, h 5 _ rfl, h 6 _ rfl⟩
/-- A row of deeds. -/
def SlDd (w : World) (a : Option Addr) (L : List DeedM) : Prop := L = [] ∨ ∃ b o, a = some ⟨b, o, none⟩ ∧ b < w.heap.size ∧ ∀ k, k < L.length → DeedAt w b (o + k * 7) (L.getD k default)
theorem SlDd.below {w w' : World} {a : Option Addr} {L : List DeedM} (h : SlDd w a L) (hb : Below w.heap.size w w') : SlDd w' a L := by
  rcases h with h | ⟨b, o, e, h1, h2⟩
  · exact .inl h
  · refine .inr ⟨b, o, e, Nat.lt_of_lt_of_le h1 hb.size, fun k hk => ?_⟩
    obtain ⟨c, l, lc, dc, lm, dm⟩ := h2 k hk
    exact ⟨fun j u hu => (hb.cell (p := ⟨b, o + k * 7 + j, none⟩) h1).trans (c j u hu), l.below hb, lc, dc, lm, dm⟩
theorem SlDd.at_ {w : World} {a : Option Addr} {L : List DeedM} (h : SlDd w a L) {k : Nat} (hk : k < L.length) : ∃ b o, a = some ⟨b, o, none⟩ ∧ DeedAt w b (o + k * 7) (L.getD k default) ∧ b < w.heap.size := by
  rcases h with rfl | ⟨b, o, e, h1, h2⟩
  · simp at hk
  · exact ⟨b, o, e, h2 k hk, h1⟩
theorem DeedAt.cells {w : World} {b o : Nat} {d : DeedM} (h : DeedAt w b o d) : w.cell? ⟨b, o, none⟩ = some (.int .i64 d.e.op) ∧ w.cell? ⟨b, o + 1, none⟩ = some (.string d.e.path) ∧ w.cell? ⟨b, o + 2, none⟩ = some (.string d.e.to) ∧ w.cell? ⟨b, o + 3, none⟩ = some (.int .i64 d.e.off) ∧
    w.cell? ⟨b, o + 4, none⟩ = some (.int .i64 d.e.size) ∧ w.cell? ⟨b, o + 5, none⟩ = some (.slice d.da d.e.data.length d.dc) ∧ w.cell? ⟨b, o + 6, none⟩ = some (.slice d.la d.l.length d.lc) :=
  ⟨h.c 0 _ rfl, h.c 1 _ rfl, h.c 2 _ rfl, h.c 3 _ rfl, h.c 4 _ rfl, h.c 5 _ rfl, h.c 6 _ rfl⟩
/-- Few deeds, and not great. -/
def smallD (L : List DeedM) (most : Int) : Bool := decide ((L.length : Int) ≤ most) && L.all fun d => decide (d.e.path.size ≤ 300) && decide (d.e.to.size ≤ 300) && decide (d.e.data.length ≤ 2000) && decide (d.l.length ≤ 60)
theorem smallD_spec {L : List DeedM} {most : Int} (h : smallD L most = true) : (L.length : Int) ≤ most ∧ ∀ d ∈ L, d.e.path.size ≤ 300 ∧ d.e.to.size ≤ 300 ∧ d.e.data.length ≤ 2000 ∧ d.l.length ≤ 60 := by
  unfold smallD at h
  rw [Bool.and_eq_true, decide_eq_true_eq, List.all_eq_true] at h
  refine ⟨h.1, fun d hd => ?_⟩
  have := h.2 d hd
  simp only [Bool.and_eq_true, decide_eq_true_eq] at this
  exact ⟨this.1.1.1, this.1.1.2, this.1.2, this.2⟩
end Go.Proofs.YtiegadfhgccliaaGreatDoor
