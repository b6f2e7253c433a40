/- States in plain Lean: names and files' contents; what an event does. -/
import Derived.Test.YtiegadfhgccliaaGreatDoorMTreeM
import Derived.Test.YtiegadfhgccliaaGreatDoorMBase
import Derived.Test.YtiegadfhgccliaaGreatDoorMTreeL
namespace Go.Proofs.YtiegadfhgccliaaGreatDoor
open Go.RowKit Go.Lib
open Go.ChangeMaps (setBlock)

/-- How an element lies: K cells, each of one. -/
structure EncK (α : Type) where
  enc : α → List Value
  K : Nat
  pos : 0 < K
  len : ∀ x, (enc x).length = K
  one : ∀ x, ∀ u ∈ enc x, u.oneCell' = true
variable {α : Type} {E : EncK α}
def EncK.cells (E : EncK α) (L : List α) : List Value := L.flatMap E.enc
theorem cellsK_len (E : EncK α) (L : List α) : (E.cells L).length = L.length * E.K := by
  induction L with
  | nil => simp [EncK.cells]
  | cons n r ih => unfold EncK.cells at *; rw [List.flatMap_cons, List.length_append, ih, List.length_cons, E.len, Nat.add_mul, Nat.one_mul, Nat.add_comm]
theorem cellsK_append (E : EncK α) (A B : List α) : E.cells (A ++ B) = E.cells A ++ E.cells B := by unfold EncK.cells; rw [List.flatMap_append]
theorem cellsK_snoc (E : EncK α) (L : List α) (x : α) : E.cells (L ++ [x]) = E.cells L ++ E.enc x := by rw [cellsK_append]; simp [EncK.cells]
theorem cellsK_get (E : EncK α) : ∀ {L : List α} {k : Nat} (hk : k < L.length) (j : Nat), j < E.K → (E.cells L)[k * E.K + j]? = (E.enc L[k])[j]?
  | n :: r, 0, _, j, hj => by
    unfold EncK.cells
    rw [List.flatMap_cons, Nat.zero_mul, Nat.zero_add, List.getElem?_append_left (by rw [E.len]; exact hj)]
    simp
  | n :: r, k + 1, hk, j, hj => by
    have ih := cellsK_get E (L := r) (k := k) (by simpa using hk) j hj
    unfold EncK.cells at *
    have e0 : (k + 1) * E.K + j = E.K + (k * E.K + j) := by rw [Nat.add_mul, Nat.one_mul]; omega
    rw [List.flatMap_cons, e0, List.getElem?_append_right (by rw [E.len]; omega), E.len]
    have e : E.K + (k * E.K + j) - E.K = k * E.K + j := by omega
    rw [e, ih]
    simp
variable [Inhabited α]
/-- A row from a place on. -/
structure RdK (E : EncK α) (w : World) (b o : Nat) (L : List α) : Prop where
  at_ : ∀ k, k < L.length → ∀ j u, (E.enc (L.getD k default))[j]? = some u → w.cell? ⟨b, o + k * E.K + j, none⟩ = some u
  lt : b < w.heap.size
def SlK (E : EncK α) (w : World) (a : Option Addr) (L : List α) : Prop := L = [] ∨ ∃ b o, a = some ⟨b, o, none⟩ ∧ RdK E w b o L
theorem RdK.turn {bs : List Nat} {w w' : World} {b o : Nat} {L : List α} (h : RdK E w b o L) (ht : Turn bs w w') (hn : b ∉ bs) : RdK E w' b o L :=
  ⟨fun k hk j u hu => (ht.cell (p := ⟨b, o + k * E.K + j, none⟩) h.lt hn).trans (h.at_ k hk j u hu), Nat.lt_of_lt_of_le h.lt ht.size⟩
theorem SlK.below {w w' : World} {a : Option Addr} {L : List α} (h : SlK E w a L) (hb : Below w.heap.size w w') : SlK E w' a L := by
  rcases h with h | ⟨b, o, e, hr⟩
  · exact .inl h
  · exact .inr ⟨b, o, e, hr.turn (bs := []) (.of_below hb) (by simp)⟩
theorem SlK.turn {bs : List Nat} {w w' : World} {a : Option Addr} {L : List α} (h : SlK E w a L) (ht : Turn bs w w') (hn : ∀ b o, a = some ⟨b, o, none⟩ → b ∉ bs) : SlK E w' a L := by
  rcases h with h | ⟨b, o, e, hr⟩
  · exact .inl h
  · exact .inr ⟨b, o, e, hr.turn ht (hn b o e)⟩
theorem SlK.at_ {w : World} {a : Option Addr} {L : List α} (h : SlK E w a L) {k : Nat} (hk : k < L.length) : ∃ b o, a = some ⟨b, o, none⟩ ∧ (∀ j u, (E.enc (L.getD k default))[j]? = some u → w.cell? ⟨b, o + k * E.K + j, none⟩ = some u) ∧ b < w.heap.size := by
  rcases h with rfl | ⟨b, o, e, hr⟩
  · simp at hk
  · exact ⟨b, o, e, hr.at_ k hk, hr.lt⟩
/-- A row of the call's own. -/
theorem SlK.own {w : World} {base : Nat} {e : TypeId} {v : Value} {L : List α} (h : w.ownsRow base e E.K v L.length (E.cells L)) : ∃ a c, v = .slice a L.length c ∧ L.length ≤ c ∧ SlK E w a L ∧ (∀ b o, a = some ⟨b, o, none⟩ → base ≤ b) := by
  obtain ⟨_, ⟨rfl, hn⟩ | ⟨g, cap, cur, rfl, hb, hg, hc, _, _, hx⟩⟩ := h
  · have : L = [] := by cases L; rfl; simp at hn
    subst this
    exact ⟨none, 0, rfl, Nat.le_refl _, .inl rfl, fun b o e => by cases e⟩
  · refine ⟨_, _, rfl, hc, .inr ⟨g, 0, rfl, ⟨fun k hk j u hu => ?_, (Array.getElem?_eq_some_iff.1 hg).1⟩⟩, fun b o e => by cases e; exact hb⟩
    have hd : L.getD k default = L[k] := by simp [List.getD, hk]
    rw [hd] at hu
    have hj : j < E.K := by
      have := (List.getElem?_eq_some_iff.1 hu).1
      rw [E.len] at this
      exact this
    have h1 := cellsK_get E hk j hj
    rw [hu, ← hx, List.getElem?_take] at h1
    split at h1
    · unfold World.cell?
      rw [hg, Nat.zero_add]
      simpa using h1
    · cases h1
theorem RdK.take {w : World} {b o : Nat} {L : List α} (h : RdK E w b o L) (k : Nat) : RdK E w b o (L.take k) := by
  refine ⟨fun j hj => ?_, h.lt⟩
  rw [List.length_take] at hj
  have e : (L.take k).getD j default = L.getD j default := by simp [List.getD, show j < k by omega]
  rw [e]
  exact h.at_ j (by omega)
theorem RdK.drop {w : World} {b o : Nat} {L : List α} (h : RdK E w b o L) (k : Nat) : RdK E w b (o + k * E.K) (L.drop k) := by
  refine ⟨fun j hj => ?_, h.lt⟩
  rw [List.length_drop] at hj
  have e : (L.drop k).getD j default = L.getD (k + j) default := by simp [List.getD]
  rw [e, show o + k * E.K + j * E.K = o + (k + j) * E.K by rw [Nat.add_mul, Nat.add_assoc]]
  exact h.at_ (k + j) (by omega)
end Go.Proofs.YtiegadfhgccliaaGreatDoor
namespace Go.Proofs.YtiegadfhgccliaaGreatDoor

/-- A part: bytes of a chunk, from 'at' on, that lie at 'off'. -/
structure Bp where
  off : Int
  ln : Int
  ch : Int
  at_ : Int
instance : Inhabited Bp := ⟨⟨0, 0, 0, 0⟩⟩
structure Bd where
  size : Int
  parts : List Bp
instance : Inhabited Bd := ⟨⟨0, []⟩⟩
def fitsP (p : Bp) : Bool := decide (1 ≤ p.ln) && decide (p.ln ≤ 64) && decide (1 ≤ p.ch) && decide (p.ch ≤ 4611686018427387904) && decide (0 ≤ p.at_) && decide (p.at_ ≤ 64 - p.ln)
theorem fitsP_spec {p : Bp} (h : fitsP p = true) : 1 ≤ p.ln ∧ p.ln ≤ 64 ∧ 1 ≤ p.ch ∧ p.ch ≤ 4611686018427387904 ∧ 0 ≤ p.at_ ∧ p.at_ ≤ 64 - p.ln := by
  unfold fitsP at h
  simp only [Bool.and_eq_true, decide_eq_true_eq] at h
  omega
/-- May the rest of a body's parts be, from a place on? -/
def mayFrom (size : Int) : Int → List Bp → Bool
  | _, [] => true
  | at_, p :: r => (fitsP p && decide (at_ ≤ p.off) && decide (p.off ≤ size - p.ln)) && mayFrom size (p.off + p.ln) r
def mayBd (b : Bd) : Bool := decide (0 ≤ b.size) && decide (b.size ≤ 1099511627776) && mayFrom b.size 0 b.parts
def endP (p : Bp) : Int := p.off + p.ln
def aheadP (at_ : Int) (p : Bp) : Option Bp := if at_ ≤ p.off then none else some ⟨p.off, min p.ln (at_ - p.off), p.ch, p.at_⟩
def behindP (at_ : Int) (p : Bp) : Option Bp := if p.off + p.ln ≤ at_ then none else if p.off < at_ then some ⟨at_, p.ln - (at_ - p.off), p.ch, p.at_ + (at_ - p.off)⟩ else some p
def layP : Int → List Bp → List Bp
  | _, [] => []
  | at_, p :: r => ⟨at_, p.ln, p.ch, p.at_⟩ :: layP (at_ + p.ln) r
def sumP : List Bp → Int
  | [] => 0
  | p :: r => p.ln + sumP r
/-- Write. -/
def writeS (b : Bd) (off : Int) (l : List Bp) : Bd × Int :=
  if mayBd b = true ∧ l.all fitsP = true then
    if off < 0 ∨ 1099511627776 - sumP l < off then (⟨0, []⟩, 9)
    else if l = [] then (b, 0)
    else (⟨max b.size (off + sumP l), b.parts.filterMap (aheadP off) ++ layP off l ++ b.parts.filterMap (behindP (off + sumP l))⟩, 0)
  else (⟨0, []⟩, 1)
/-- Trunc. -/
def truncS (b : Bd) (size : Int) : Bd × Int :=
  if mayBd b = true then (if size < 0 ∨ 1099511627776 < size then (⟨0, []⟩, 9) else (⟨size, b.parts.filterMap (aheadP size)⟩, 0)) else (⟨0, []⟩, 1)

/-! ### The document's way -/
def aheadD (from_ : Int) (p : Bp) : List Bp := if p.off < from_ then [⟨p.off, min (p.off + p.ln) from_ - p.off, p.ch, p.at_⟩] else []
def behindD (to_ : Int) (p : Bp) : List Bp := if to_ < p.off + p.ln then [⟨max p.off to_, p.off + p.ln - max p.off to_, p.ch, p.at_ + (max p.off to_ - p.off)⟩] else []
def withoutD (l : List Bp) (from_ to_ : Int) : List Bp := l.flatMap fun p => aheadD from_ p ++ behindD to_ p
theorem mayFrom_cons {size a : Int} {p : Bp} {r : List Bp} (h : mayFrom size a (p :: r) = true) : fitsP p = true ∧ a ≤ p.off ∧ p.off ≤ size - p.ln ∧ mayFrom size (p.off + p.ln) r = true := by
  unfold mayFrom at h
  simp only [Bool.and_eq_true, decide_eq_true_eq] at h
  exact ⟨h.1.1.1, h.1.1.2, h.1.2, h.2⟩
/-- All that follows lies no earlier. -/
theorem mayFrom_later {size : Int} : ∀ {r : List Bp} {a : Int}, mayFrom size a r = true → ∀ q ∈ r, a ≤ q.off
  | [], _, _, q, hq => by cases hq
  | p :: r, a, h, q, hq => by
    obtain ⟨h1, h2, _, h4⟩ := mayFrom_cons h
    have h5 := fitsP_spec h1
    rcases List.mem_cons.1 hq with rfl | hq
    · exact h2
    · have := mayFrom_later h4 q hq
      omega
theorem ahead_none {a : Int} {r : List Bp} (h : ∀ q ∈ r, a ≤ q.off) : r.filterMap (aheadP a) = [] := by
  rw [List.filterMap_eq_nil_iff]
  intro q hq
  unfold aheadP
  rw [if_pos (h q hq)]
end Go.Proofs.YtiegadfhgccliaaGreatDoor
namespace Go.Proofs.YtiegadfhgccliaaGreatDoor
open Go.RowKit Go.Lib

def encP : EncK Bp where
  enc p := [.int .i64 p.off, .int .i64 p.ln, .int .i64 p.ch, .int .i64 p.at_]
  K := 4
  pos := by decide
  len _ := rfl
  one x u hu := by
    simp at hu
    rcases hu with rfl | rfl | rfl | rfl <;> rfl
abbrev SlPt (w : World) (a : Option Addr) (L : List Bp) : Prop := SlK encP w a L
end Go.Proofs.YtiegadfhgccliaaGreatDoor
namespace Go.Proofs.YtiegadfhgccliaaGreatDoor
open Go.Lib

structure Ev where
  op : Int
  path : ByteArray
  to : ByteArray
  off : Int
  size : Int
  data : List UInt8
/-- A state: its tree; its files, in the order in which they came. -/
structure FS where
  t : TS
  fs : List (Int × Bd)
def bodyOf (fs : List (Int × Bd)) (id : Int) : Option Bd := (fs.find? fun f => decide (f.1 = id)).map (·.2)
def dropF (fs : List (Int × Bd)) (id : Int) : List (Int × Bd) := fs.filter fun f => !decide (f.1 = id)
def setF (fs : List (Int × Bd)) (id : Int) (b : Bd) : List (Int × Bd) := fs.map fun f => if f.1 = id then (id, b) else f
/-- A file's number; 6: a directory. -/
def fileS (T : TS) (p : ByteArray) : Int × Int :=
  if (lookS (fnd · T.L) p).2.2 = 0 ∧ (lookS (fnd · T.L) p).2.1 = true then (0, 6) else ((lookS (fnd · T.L) p).1, (lookS (fnd · T.L) p).2.2)
/-- Check: what Apply would answer, as far as names go. -/
def checkS (S : FS) (e : Ev) : Int :=
  if e.op = 1 ∨ e.op = 2 then canS S.t.L e.path
  else if e.op = 3 then
    if (fileS S.t e.path).2 = 0 then
      if 1024 < e.data.length then 1 else if e.off < 0 ∨ 1099511627776 - (e.data.length : Int) < e.off then 9 else 0
    else (fileS S.t e.path).2
  else if e.op = 4 then
    if (fileS S.t e.path).2 = 0 then (if e.size < 0 ∨ 1099511627776 < e.size then 9 else 0) else (fileS S.t e.path).2
  else if e.op = 5 then canRenS S.t.L e.path e.to
  else if e.op = 6 ∨ e.op = 7 then canDropS S.t.L e.path (decide (e.op = 7))
  else if e.op = 8 then (if nameOk e.path then 0 else 11)
  else 1
/-- What is written into a file. -/
def putS (S : FS) (e : Ev) (l : List Bp) : FS × Int :=
  if 0 < e.data.length ∧ sumP l ≠ (e.data.length : Int) then (S, 1)
  else
    if (writeS ((bodyOf S.fs (fileS S.t e.path).1).getD default) e.off l).2 = 0
    then (⟨S.t, setF S.fs (fileS S.t e.path).1 (writeS ((bodyOf S.fs (fileS S.t e.path).1).getD default) e.off l).1⟩, 0)
    else (S, (writeS ((bodyOf S.fs (fileS S.t e.path).1).getD default) e.off l).2)
/-- Apply. -/
def applyS (S : FS) (e : Ev) (l : List Bp) : FS × Int :=
  if checkS S e = 0 then
    if e.op = 1 then (⟨(makeS S.t e.path false).1, S.fs ++ [((makeS S.t e.path false).2.1, ⟨0, []⟩)]⟩, 0)
    else if e.op = 2 then (⟨(makeS S.t e.path true).1, S.fs⟩, 0)
    else if e.op = 3 then putS S e l
    else if e.op = 4 then (⟨S.t, setF S.fs (fileS S.t e.path).1 (truncS ((bodyOf S.fs (fileS S.t e.path).1).getD default) e.size).1⟩, 0)
    else if e.op = 5 then (⟨(renS S.t e.path e.to).1, dropF S.fs (renS S.t e.path e.to).2.1⟩, 0)
    else if e.op = 6 ∨ e.op = 7 then (⟨(dropS S.t e.path (decide (e.op = 7))).1, dropF S.fs (dropS S.t e.path (decide (e.op = 7))).2.1⟩, 0)
    else (S, 0)
  else (S, checkS S e)
end Go.Proofs.YtiegadfhgccliaaGreatDoor
