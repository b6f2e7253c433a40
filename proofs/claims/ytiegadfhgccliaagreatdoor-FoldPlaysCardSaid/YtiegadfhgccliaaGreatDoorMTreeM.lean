/- Walks of package tree: Look. -/
import Derived.Test.YtiegadfhgccliaaGreatDoorMTreeI
import Derived.Test.YtiegadfhgccliaaGreatDoorMBase
import Derived.Test.YtiegadfhgccliaaGreatDoorMName
import Derived.Deep.RegionHeld3
import Derived.Deep.QuietTactic
import Derived.BigQuiet
import Derived.Outline
import Derived.Deep.Cut
namespace Go.Proofs.YtiegadfhgccliaaGreatDoor
open Go.RowKit Go.Lib
open Go.ChangeMaps (setBlock)

/-- Of what was there only these blocks may have turned. -/
structure Turn (bs : List Nat) (w w' : World) : Prop where
  os : w'.os = w.os
  tape : w'.tape = w.tape
  output : w'.output = w.output
  size : w.heap.size ≤ w'.heap.size
  block : ∀ k, k < w.heap.size → k ∉ bs → w'.heap[k]? = w.heap[k]?
theorem Turn.refl (bs : List Nat) (w : World) : Turn bs w w := ⟨rfl, rfl, rfl, Nat.le_refl _, fun _ _ _ => rfl⟩
theorem Turn.trans {bs : List Nat} {a b c : World} (h : Turn bs a b) (k : Turn bs b c) : Turn bs a c :=
  ⟨k.os.trans h.os, k.tape.trans h.tape, k.output.trans h.output, Nat.le_trans h.size k.size, fun i hi hn => (k.block i (Nat.lt_of_lt_of_le hi h.size) hn).trans (h.block i hi hn)⟩
theorem Turn.mono {bs cs : List Nat} {a b : World} (h : Turn bs a b) (hs : ∀ x ∈ bs, x ∈ cs) : Turn cs a b :=
  ⟨h.os, h.tape, h.output, h.size, fun i hi hn => h.block i hi fun e => hn (hs i e)⟩
theorem Turn.of_below {bs : List Nat} {a b : World} (h : Below a.heap.size a b) : Turn bs a b := ⟨h.os, h.tape, h.output, h.size, fun i hi _ => h.block i hi⟩
theorem Turn.below {bs : List Nat} {w a b : World} (h : Turn bs a b) (hw : Below w.heap.size w a) (hs : ∀ x ∈ bs, w.heap.size ≤ x) : Below w.heap.size w b :=
  ⟨h.os.trans hw.os, h.tape.trans hw.tape, h.output.trans hw.output, Nat.le_trans hw.size h.size, fun i hi => (h.block i (Nat.lt_of_lt_of_le hi hw.size) fun e => by have := hs i e; omega).trans (hw.block i hi)⟩
theorem Turn.nil {a b : World} (h : Turn [] a b) : Below a.heap.size a b := h.below (Below.refl _ _) (by simp)
theorem Turn.drewN {bs : List Nat} {a b : World} (h : Turn bs a b) (n : Nat) : Turn bs a (b.drewN n) := ⟨h.os, h.tape, h.output, h.size, h.block⟩
theorem Turn.alloc {bs : List Nat} {a b : World} (h : Turn bs a b) (o : Obj) : Turn bs a (b.alloc o) :=
  h.trans (.of_below ((Below.refl _ _).alloc (Nat.le_refl _) o))
theorem Turn.setCell {bs : List Nat} {a b : World} (h : Turn bs a b) {p : Addr} (hp : p.block ∈ bs ∨ a.heap.size ≤ p.block) (v : Value) : Turn bs a (b.setCell p v) := by
  refine ⟨h.os, h.tape, h.output, Nat.le_trans h.size (by simp [World.setCell]), fun i hi hn => ?_⟩
  rw [Below.heap_setCell _ _ _ _ (by intro e; rw [← e] at hp; rcases hp with hp | hp; exact hn hp; omega)]
  exact h.block i hi hn
theorem Turn.setBlock {bs : List Nat} {a b : World} (h : Turn bs a b) {r : Nat} (hr : r ∈ bs ∨ a.heap.size ≤ r) (o : Obj) : Turn bs a (setBlock b r o) := by
  refine ⟨h.os, h.tape, h.output, Nat.le_trans h.size (by show b.heap.size ≤ (b.heap.setIfInBounds r o).size; simp), fun i hi hn => ?_⟩
  rw [heap_setBlock_ne _ _ _ _ (by intro e; rw [← e] at hr; rcases hr with hr | hr; exact hn hr; omega)]
  exact h.block i hi hn
theorem Turn.cell {bs : List Nat} {a b : World} (h : Turn bs a b) {p : Addr} (hp : p.block < a.heap.size) (hn : p.block ∉ bs) : b.cell? p = a.cell? p := World.cell?_of_block (h.block _ hp hn)
theorem MLen.turn {bs : List Nat} {w w' : World} (h : MLen w) (ht : Turn bs w w') (hn : 0 ∉ bs) : MLen w' := by
  have hl := h.lt
  obtain ⟨m, hm⟩ := h
  exact ⟨m, (ht.cell (p := ⟨0, 0, none⟩) hl hn).trans hm⟩
theorem RdS.turn {bs : List Nat} {w w' : World} {b o : Nat} {L : List ByteArray} (h : RdS w b o L) (ht : Turn bs w w') (hn : b ∉ bs) : RdS w' b o L :=
  ⟨fun k hk => (ht.cell (p := ⟨b, o + k, none⟩) h.lt hn).trans (h.at_ k hk), Nat.lt_of_lt_of_le h.lt ht.size⟩

/-- A node as a map's element. -/
abbrev ndV (n : Nd) : Value := .agg #[.string n.path, .int .i64 n.id, .bool n.dir]
abbrev entN (n : Nd) : ByteArray × Value := (n.path, ndV n)
def ents (L : List Nd) : List (ByteArray × Value) := L.map entN
theorem look_ents (L : List Nd) (s : ByteArray) : look s (ents L) = (fnd s L).map ndV := by
  unfold look ents fnd
  rw [List.find?_map, Option.map_map]
  rfl
/-- A tree: its struct in a block of its own, its map in another one; in whatever order. -/
structure TreeAt (w : World) (tb mb : Nat) (L : List Nd) (nx : Int) : Prop where
  cells : w.heap[tb]? = some (.cells #[.map (some mb), .int .i64 nx] 99 (0, 0))
  map : MapIs strKey w mb (ents L)
theorem TreeAt.lt {w : World} {tb mb : Nat} {L : List Nd} {nx : Int} (h : TreeAt w tb mb L nx) : tb < w.heap.size := (Array.getElem?_eq_some_iff.1 h.cells).1
theorem TreeAt.ltm {w : World} {tb mb : Nat} {L : List Nd} {nx : Int} (h : TreeAt w tb mb L nx) : mb < w.heap.size := h.map.lt
theorem TreeAt.ne {w : World} {tb mb : Nat} {L : List Nd} {nx : Int} (h : TreeAt w tb mb L nx) : tb ≠ mb := by
  obtain ⟨es, clock, hb, _⟩ := h.map
  intro e
  rw [← e, h.cells] at hb
  cases hb
theorem TreeAt.turn {bs : List Nat} {w w' : World} {tb mb : Nat} {L : List Nd} {nx : Int} (h : TreeAt w tb mb L nx) (ht : Turn bs w w') (h1 : tb ∉ bs) (h2 : mb ∉ bs) : TreeAt w' tb mb L nx :=
  ⟨(ht.block tb h.lt h1).trans h.cells, h.map.of_block (ht.block mb h.ltm h2)⟩
theorem TreeAt.below {w w' : World} {tb mb : Nat} {L : List Nd} {nx : Int} (h : TreeAt w tb mb L nx) (hb : Below w.heap.size w w') : TreeAt w' tb mb L nx := h.turn (bs := []) (.of_below hb) (by simp) (by simp)
theorem TreeAt.c0 {w : World} {tb mb : Nat} {L : List Nd} {nx : Int} (h : TreeAt w tb mb L nx) : w.cell? ⟨tb, 0, none⟩ = some (.map (some mb)) := by unfold World.cell?; rw [h.cells]; rfl
theorem TreeAt.c1 {w : World} {tb mb : Nat} {L : List Nd} {nx : Int} (h : TreeAt w tb mb L nx) : w.cell? ⟨tb, 1, none⟩ = some (.int .i64 nx) := by unfold World.cell?; rw [h.cells]; rfl
theorem TreeAt.f1 {w : World} {tb mb : Nat} {L : List Nd} {nx : Int} (h : TreeAt w tb mb L nx) : w.frozen? ⟨tb, 1, none⟩ = false := by unfold World.frozen?; rw [h.cells]; rfl

/-- The tree as its nodes by path: in memory in whatever order. -/
def TreeP (w : World) (tb mb : Nat) (T : TS) : Prop := ∃ L, L.Perm T.L ∧ TreeAt w tb mb L T.nx
theorem TreeP.turn {bs : List Nat} {w w' : World} {tb mb : Nat} {T : TS} (h : TreeP w tb mb T) (ht : Turn bs w w') (h1 : tb ∉ bs) (h2 : mb ∉ bs) : TreeP w' tb mb T := by
  obtain ⟨L, hp, h⟩ := h
  exact ⟨L, hp, h.turn ht h1 h2⟩
theorem TreeP.below {w w' : World} {tb mb : Nat} {T : TS} (h : TreeP w tb mb T) (hb : Below w.heap.size w w') : TreeP w' tb mb T := h.turn (bs := []) (.of_below hb) (by simp) (by simp)
theorem TreeP.lt {w : World} {tb mb : Nat} {T : TS} (h : TreeP w tb mb T) : tb < w.heap.size ∧ mb < w.heap.size ∧ tb ≠ mb := by
  obtain ⟨L, _, h⟩ := h
  exact ⟨h.lt, h.ltm, h.ne⟩
theorem TreeP.facts {w : World} {tb mb : Nat} {T : TS} (h : TreeP w tb mb T) : w.cell? ⟨tb, 0, none⟩ = some (.map (some mb)) ∧ w.cell? ⟨tb, 1, none⟩ = some (.int .i64 T.nx) ∧ w.frozen? ⟨tb, 1, none⟩ = false := by
  obtain ⟨L, _, h⟩ := h
  exact ⟨h.c0, h.c1, h.f1⟩
def zeroNd : Value := .agg #[.string ⟨#[]⟩, .int .i64 0, .bool false]
theorem zero_nd (w : World) : (zeroValue 51).run Tryz.prog w = .ok (.agg #[.string ⟨#[]⟩, .int .i64 0, .bool false]) w := by kernel_rfl
/-- 'n, ok := t.l[s]'. -/
theorem TreeP.look {w : World} {tb mb : Nat} {T : TS} (h : TreeP w tb mb T) (ha : Apart T.L) (s : ByteArray) :
    (Instr.lookup 97 (.map (some mb)) (.string s) true).run Tryz.prog w = .ok (.tuple #[((fnd s T.L).map ndV).getD (.agg #[.string ⟨#[]⟩, .int .i64 0, .bool false]), .bool (fnd s T.L).isSome]) w := by
  obtain ⟨L, hp, h⟩ := h
  have := run_look_ok (P := Tryz.prog) strKey h.map Tryz.underlying97 Tryz.underlying9 (zero_nd w) s
  rw [look_ents, fnd_perm (ha.perm hp.symm) hp s] at this
  rw [Option.isSome_map] at this
  exact this
/-- 't.l[s]'. -/
theorem TreeP.look1 {w : World} {tb mb : Nat} {T : TS} (h : TreeP w tb mb T) (ha : Apart T.L) (s : ByteArray) :
    (Instr.lookup 97 (.map (some mb)) (.string s) false).run Tryz.prog w = .ok (((fnd s T.L).map ndV).getD (.agg #[.string ⟨#[]⟩, .int .i64 0, .bool false])) w := by
  obtain ⟨L, hp, h⟩ := h
  have := run_look (P := Tryz.prog) strKey h.map Tryz.underlying97 Tryz.underlying9 (zero_nd w) s
  rw [look_ents, fnd_perm (ha.perm hp.symm) hp s] at this
  exact this
/-- 'len(t.l)'. -/
theorem TreeP.len {w : World} {tb mb : Nat} {T : TS} (h : TreeP w tb mb T) (rt : TypeId) :
    (Builtin.len_ #[97] rt #[.map (some mb)]).run Tryz.prog w = .ok (.int .i64 T.L.length) w := by
  obtain ⟨L, hp, h⟩ := h
  have := run_maplen (P := Tryz.prog) strKey h.map Tryz.underlying97 #[97] rfl rt
  have e : (ents L).length = T.L.length := by unfold ents; rw [List.length_map]; exact hp.length_eq
  rw [e] at this
  exact this

set_option maxRecDepth 100000 in
/-- tree.New. -/
theorem tree_new (w : World) : Calls Tryz.prog 26 #[] w fun e w' => ∃ tb mb, e = .returned (.pointer (some ⟨tb, 0, none⟩)) ∧ TreeP w' tb mb ⟨[], 1⟩ ∧ w.heap.size ≤ tb ∧ w.heap.size ≤ mb ∧ Below w.heap.size w w' := by
  have hmm := @run_makeMap Tryz.prog
  go_enter Tryz.func26, Tryz.ntmps26
  go_wp2
  go_ret
  have hs : (w.alloc (.map #[] 0)).heap.size = w.heap.size + 1 := by simp
  refine ⟨_, _, rfl, ⟨[], .refl _, ⟨by rw [← hs]; exact heap_alloc_new _ _, ?_⟩⟩, ?_, ?_, ?_⟩
  · exact (MapIs.new strKey w).of_block (Below.heap_alloc _ _ _ (by simp))
  · simp
  · simp
  · exact ((Below.refl _ _).alloc (Nat.le_refl _) _).alloc (by simp) _
end Go.Proofs.YtiegadfhgccliaaGreatDoor
namespace Go.Proofs.YtiegadfhgccliaaGreatDoor
open Go.RowKit Go.Lib
open Go.ChangeMaps (setBlock)

/-- How an element lies: K cells, each of one. -/
structure EncK (α : Type) where
  enc : α → List Value
  K : Nat
  pos : 0 < K
  len : ∀ x, (enc x).length = K
  one : ∀ x, ∀ u ∈ enc x, u.oneCell' = true
variable {α : Type} {E : EncK α}
def EncK.cells (E : EncK α) (L : List α) : List Value := L.flatMap E.enc
theorem cellsK_len (E : EncK α) (L : List α) : (E.cells L).length = L.length * E.K := by
  induction L with
  | nil => simp [EncK.cells]
  | cons n r ih => unfold EncK.cells at *; rw [List.flatMap_cons, List.length_append, ih, List.length_cons, E.len, Nat.add_mul, Nat.one_mul, Nat.add_comm]
theorem cellsK_append (E : EncK α) (A B : List α) : E.cells (A ++ B) = E.cells A ++ E.cells B := by unfold EncK.cells; rw [List.flatMap_append]
theorem cellsK_snoc (E : EncK α) (L : List α) (x : α) : E.cells (L ++ [x]) = E.cells L ++ E.enc x := by rw [cellsK_append]; simp [EncK.cells]
theorem cellsK_one (E : EncK α) (L : List α) : ∀ u ∈ E.cells L, u.oneCell' = true := by
  intro u hu
  obtain ⟨x, _, hx⟩ := List.mem_flatMap.1 hu
  exact E.one x u hx
theorem cellsK_get (E : EncK α) : ∀ {L : List α} {k : Nat} (hk : k < L.length) (j : Nat), j < E.K → (E.cells L)[k * E.K + j]? = (E.enc L[k])[j]?
  | n :: r, 0, _, j, hj => by
    unfold EncK.cells
    rw [List.flatMap_cons, Nat.zero_mul, Nat.zero_add, List.getElem?_append_left (by rw [E.len]; exact hj)]
    simp
  | n :: r, k + 1, hk, j, hj => by
    have ih := cellsK_get E (L := r) (k := k) (by simpa using hk) j hj
    unfold EncK.cells at *
    have e0 : (k + 1) * E.K + j = E.K + (k * E.K + j) := by rw [Nat.add_mul, Nat.one_mul]; omega
    rw [List.flatMap_cons, e0, List.getElem?_append_right (by rw [E.len]; omega), E.len]
    have e : E.K + (k * E.K + j) - E.K = k * E.K + j := by omega
    rw [e, ih]
    simp
variable [Inhabited α]
/-- A row from a place on. -/
structure RdK (E : EncK α) (w : World) (b o : Nat) (L : List α) : Prop where
  at_ : ∀ k, k < L.length → ∀ j u, (E.enc (L.getD k default))[j]? = some u → w.cell? ⟨b, o + k * E.K + j, none⟩ = some u
  lt : b < w.heap.size
def SlK (E : EncK α) (w : World) (a : Option Addr) (L : List α) : Prop := L = [] ∨ ∃ b o, a = some ⟨b, o, none⟩ ∧ RdK E w b o L
theorem RdK.turn {bs : List Nat} {w w' : World} {b o : Nat} {L : List α} (h : RdK E w b o L) (ht : Turn bs w w') (hn : b ∉ bs) : RdK E w' b o L :=
  ⟨fun k hk j u hu => (ht.cell (p := ⟨b, o + k * E.K + j, none⟩) h.lt hn).trans (h.at_ k hk j u hu), Nat.lt_of_lt_of_le h.lt ht.size⟩
theorem SlK.below {w w' : World} {a : Option Addr} {L : List α} (h : SlK E w a L) (hb : Below w.heap.size w w') : SlK E w' a L := by
  rcases h with h | ⟨b, o, e, hr⟩
  · exact .inl h
  · exact .inr ⟨b, o, e, hr.turn (bs := []) (.of_below hb) (by simp)⟩
theorem SlK.turn {bs : List Nat} {w w' : World} {a : Option Addr} {L : List α} (h : SlK E w a L) (ht : Turn bs w w') (hn : ∀ b o, a = some ⟨b, o, none⟩ → b ∉ bs) : SlK E w' a L := by
  rcases h with h | ⟨b, o, e, hr⟩
  · exact .inl h
  · exact .inr ⟨b, o, e, hr.turn ht (hn b o e)⟩
theorem SlK.at_ {w : World} {a : Option Addr} {L : List α} (h : SlK E w a L) {k : Nat} (hk : k < L.length) : ∃ b o, a = some ⟨b, o, none⟩ ∧ (∀ j u, (E.enc (L.getD k default))[j]? = some u → w.cell? ⟨b, o + k * E.K + j, none⟩ = some u) ∧ b < w.heap.size := by
  rcases h with rfl | ⟨b, o, e, hr⟩
  · simp at hk
  · exact ⟨b, o, e, hr.at_ k hk, hr.lt⟩
/-- A row of the call's own. -/
theorem SlK.own {w : World} {base : Nat} {e : TypeId} {v : Value} {L : List α} (h : w.ownsRow base e E.K v L.length (E.cells L)) : ∃ a c, v = .slice a L.length c ∧ L.length ≤ c ∧ SlK E w a L ∧ (∀ b o, a = some ⟨b, o, none⟩ → base ≤ b) := by
  obtain ⟨_, ⟨rfl, hn⟩ | ⟨g, cap, cur, rfl, hb, hg, hc, _, _, hx⟩⟩ := h
  · have : L = [] := by cases L; rfl; simp at hn
    subst this
    exact ⟨none, 0, rfl, Nat.le_refl _, .inl rfl, fun b o e => by cases e⟩
  · refine ⟨_, _, rfl, hc, .inr ⟨g, 0, rfl, ⟨fun k hk j u hu => ?_, (Array.getElem?_eq_some_iff.1 hg).1⟩⟩, fun b o e => by cases e; exact hb⟩
    have hd : L.getD k default = L[k] := by simp [List.getD, hk]
    rw [hd] at hu
    have hj : j < E.K := by
      have := (List.getElem?_eq_some_iff.1 hu).1
      rw [E.len] at this
      exact this
    have h1 := cellsK_get E hk j hj
    rw [hu, ← hx, List.getElem?_take] at h1
    split at h1
    · unfold World.cell?
      rw [hg, Nat.zero_add]
      simpa using h1
    · cases h1
theorem RdK.take {w : World} {b o : Nat} {L : List α} (h : RdK E w b o L) (k : Nat) : RdK E w b o (L.take k) := by
  refine ⟨fun j hj => ?_, h.lt⟩
  rw [List.length_take] at hj
  have e : (L.take k).getD j default = L.getD j default := by simp [List.getD, show j < k by omega]
  rw [e]
  exact h.at_ j (by omega)
theorem RdK.drop {w : World} {b o : Nat} {L : List α} (h : RdK E w b o L) (k : Nat) : RdK E w b (o + k * E.K) (L.drop k) := by
  refine ⟨fun j hj => ?_, h.lt⟩
  rw [List.length_drop] at hj
  have e : (L.drop k).getD j default = L.getD (k + j) default := by simp [List.getD]
  rw [e, show o + k * E.K + j * E.K = o + (k + j) * E.K by rw [Nat.add_mul, Nat.add_assoc]]
  exact h.at_ (k + j) (by omega)
/-- The cells that an append takes. -/
theorem rdK_news {w : World} {b o : Nat} {L : List α} (h : RdK E w b o L) : ∀ j u, (E.cells L)[j]? = some u → w.cell? ((⟨b, o, none⟩ : Addr).add j) = some u := by
  intro j u hu
  have hj : j < (E.cells L).length := (List.getElem?_eq_some_iff.1 hu).1
  rw [cellsK_len] at hj
  have hk : j / E.K < L.length := Nat.div_lt_of_lt_mul (by rw [Nat.mul_comm]; exact hj)
  have hr : j % E.K < E.K := Nat.mod_lt _ E.pos
  have e : j = j / E.K * E.K + j % E.K := by rw [Nat.mul_comm]; exact (Nat.div_add_mod j E.K).symm
  have h1 := cellsK_get E hk (j % E.K) hr
  rw [← e, hu] at h1
  have hd : L.getD (j / E.K) default = L[j / E.K] := by simp [List.getD, hk]
  have h2 := h.at_ (j / E.K) hk (j % E.K) u (by rw [hd]; exact h1.symm)
  have ha : (⟨b, o, none⟩ : Addr).add j = ⟨b, o + j, none⟩ := by
    unfold Addr.add
    by_cases h0 : j = 0
    · rw [if_pos h0, h0]; rfl
    · rw [if_neg h0]
  rw [ha]
  rw [Nat.add_assoc, ← e] at h2
  exact h2
theorem slK_news {w : World} {a : Option Addr} {L : List α} (h : SlK E w a L) : ∀ j u, (E.cells L)[j]? = some u → ∃ b, a = some b ∧ w.cell? (b.add j) = some u := by
  intro j u hu
  rcases h with rfl | ⟨b, o, rfl, hr⟩
  · simp [EncK.cells] at hu
  · exact ⟨_, rfl, rdK_news hr j u hu⟩
end Go.Proofs.YtiegadfhgccliaaGreatDoor
namespace Go.Proofs.YtiegadfhgccliaaGreatDoor

/-- A part: bytes of a chunk, from 'at' on, that lie at 'off'. -/
structure Bp where
  off : Int
  ln : Int
  ch : Int
  at_ : Int
instance : Inhabited Bp := ⟨⟨0, 0, 0, 0⟩⟩
structure Bd where
  size : Int
  parts : List Bp
instance : Inhabited Bd := ⟨⟨0, []⟩⟩
def fitsP (p : Bp) : Bool := decide (1 ≤ p.ln) && decide (p.ln ≤ 64) && decide (1 ≤ p.ch) && decide (p.ch ≤ 4611686018427387904) && decide (0 ≤ p.at_) && decide (p.at_ ≤ 64 - p.ln)
theorem fitsP_spec {p : Bp} (h : fitsP p = true) : 1 ≤ p.ln ∧ p.ln ≤ 64 ∧ 1 ≤ p.ch ∧ p.ch ≤ 4611686018427387904 ∧ 0 ≤ p.at_ ∧ p.at_ ≤ 64 - p.ln := by
  unfold fitsP at h
  simp only [Bool.and_eq_true, decide_eq_true_eq] at h
  omega
/-- May the rest of a body's parts be, from a place on? -/
def mayFrom (size : Int) : Int → List Bp → Bool
  | _, [] => true
  | at_, p :: r => (fitsP p && decide (at_ ≤ p.off) && decide (p.off ≤ size - p.ln)) && mayFrom size (p.off + p.ln) r
def mayBd (b : Bd) : Bool := decide (0 ≤ b.size) && decide (b.size ≤ 1099511627776) && mayFrom b.size 0 b.parts
def endP (p : Bp) : Int := p.off + p.ln
def aheadP (at_ : Int) (p : Bp) : Option Bp := if at_ ≤ p.off then none else some ⟨p.off, min p.ln (at_ - p.off), p.ch, p.at_⟩
def behindP (at_ : Int) (p : Bp) : Option Bp := if p.off + p.ln ≤ at_ then none else if p.off < at_ then some ⟨at_, p.ln - (at_ - p.off), p.ch, p.at_ + (at_ - p.off)⟩ else some p
def layP : Int → List Bp → List Bp
  | _, [] => []
  | at_, p :: r => ⟨at_, p.ln, p.ch, p.at_⟩ :: layP (at_ + p.ln) r
def sumP : List Bp → Int
  | [] => 0
  | p :: r => p.ln + sumP r
/-- Write. -/
def writeS (b : Bd) (off : Int) (l : List Bp) : Bd × Int :=
  if mayBd b = true ∧ l.all fitsP = true then
    if off < 0 ∨ 1099511627776 - sumP l < off then (⟨0, []⟩, 9)
    else if l = [] then (b, 0)
    else (⟨max b.size (off + sumP l), b.parts.filterMap (aheadP off) ++ layP off l ++ b.parts.filterMap (behindP (off + sumP l))⟩, 0)
  else (⟨0, []⟩, 1)
/-- Trunc. -/
def truncS (b : Bd) (size : Int) : Bd × Int :=
  if mayBd b = true then (if size < 0 ∨ 1099511627776 < size then (⟨0, []⟩, 9) else (⟨size, b.parts.filterMap (aheadP size)⟩, 0)) else (⟨0, []⟩, 1)

/-! ### The document's way -/
def aheadD (from_ : Int) (p : Bp) : List Bp := if p.off < from_ then [⟨p.off, min (p.off + p.ln) from_ - p.off, p.ch, p.at_⟩] else []
def behindD (to_ : Int) (p : Bp) : List Bp := if to_ < p.off + p.ln then [⟨max p.off to_, p.off + p.ln - max p.off to_, p.ch, p.at_ + (max p.off to_ - p.off)⟩] else []
def withoutD (l : List Bp) (from_ to_ : Int) : List Bp := l.flatMap fun p => aheadD from_ p ++ behindD to_ p
theorem aheadD_eq (a : Int) (p : Bp) : aheadD a p = (aheadP a p).toList := by
  unfold aheadD aheadP
  by_cases h : p.off < a
  · rw [if_pos h, if_neg (by omega)]
    have e : min (p.off + p.ln) a - p.off = min p.ln (a - p.off) := by omega
    rw [e]; rfl
  · rw [if_neg h, if_pos (by omega)]; rfl
theorem behindD_eq (a : Int) (p : Bp) : behindD a p = (behindP a p).toList := by
  unfold behindD behindP
  by_cases h : a < p.off + p.ln
  · rw [if_pos h, if_neg (by omega)]
    by_cases h2 : p.off < a
    · rw [if_pos h2]
      have e1 : max p.off a = a := by omega
      have e2 : p.off + p.ln - a = p.ln - (a - p.off) := by omega
      rw [e1, e2]; rfl
    · rw [if_neg h2]
      have e1 : max p.off a = p.off := by omega
      have e2 : p.off + p.ln - p.off = p.ln := by omega
      have e3 : p.at_ + (p.off - p.off) = p.at_ := by omega
      rw [e1, e2, e3]; rfl
  · rw [if_neg h, if_pos (by omega)]; rfl
theorem mayFrom_cons {size a : Int} {p : Bp} {r : List Bp} (h : mayFrom size a (p :: r) = true) : fitsP p = true ∧ a ≤ p.off ∧ p.off ≤ size - p.ln ∧ mayFrom size (p.off + p.ln) r = true := by
  unfold mayFrom at h
  simp only [Bool.and_eq_true, decide_eq_true_eq] at h
  exact ⟨h.1.1.1, h.1.1.2, h.1.2, h.2⟩
/-- All that follows lies no earlier. -/
theorem mayFrom_later {size : Int} : ∀ {r : List Bp} {a : Int}, mayFrom size a r = true → ∀ q ∈ r, a ≤ q.off
  | [], _, _, q, hq => by cases hq
  | p :: r, a, h, q, hq => by
    obtain ⟨h1, h2, _, h4⟩ := mayFrom_cons h
    have h5 := fitsP_spec h1
    rcases List.mem_cons.1 hq with rfl | hq
    · exact h2
    · have := mayFrom_later h4 q hq
      omega
theorem ahead_none {a : Int} {r : List Bp} (h : ∀ q ∈ r, a ≤ q.off) : r.filterMap (aheadP a) = [] := by
  rw [List.filterMap_eq_nil_iff]
  intro q hq
  unfold aheadP
  rw [if_pos (h q hq)]
/-- Of parts that may be what is left ahead comes first, then what is left behind. -/
theorem without_split {size from_ to_ : Int} (hft : from_ ≤ to_) : ∀ {l : List Bp} {a : Int}, mayFrom size a l = true → withoutD l from_ to_ = l.filterMap (aheadP from_) ++ l.filterMap (behindP to_)
  | [], _, _ => rfl
  | p :: r, a, h => by
    obtain ⟨h1, h2, _, h4⟩ := mayFrom_cons h
    have ih := without_split hft h4
    unfold withoutD at ih ⊢
    rw [List.flatMap_cons, ih, aheadD_eq, behindD_eq, List.filterMap_cons, List.filterMap_cons]
    cases hb : behindP to_ p with
    | none =>
      cases ha : aheadP from_ p with
      | none => simp
      | some x => simp
    | some y =>
      have hno : r.filterMap (aheadP from_) = [] := by
        refine ahead_none fun q hq => ?_
        have := mayFrom_later h4 q hq
        unfold behindP at hb
        by_cases h6 : p.off + p.ln ≤ to_
        · rw [if_pos h6] at hb; cases hb
        · omega
      rw [hno]
      cases ha : aheadP from_ p with
      | none => simp
      | some x => simp
/-- What is ahead lies ahead. -/
theorem ahead_off {a : Int} {l : List Bp} : ∀ q ∈ l.filterMap (aheadP a), q.off < a := by
  intro q hq
  obtain ⟨p, _, hp⟩ := List.mem_filterMap.1 hq
  unfold aheadP at hp
  by_cases h : a ≤ p.off
  · rw [if_pos h] at hp; cases hp
  · rw [if_neg h] at hp
    have := Option.some.inj hp
    rw [← this]
    show p.off < a
    omega
theorem behind_off {a : Int} {l : List Bp} : ∀ q ∈ l.filterMap (behindP a), a ≤ q.off := by
  intro q hq
  obtain ⟨p, _, hp⟩ := List.mem_filterMap.1 hq
  unfold behindP at hp
  by_cases h : p.off + p.ln ≤ a
  · rw [if_pos h] at hp; cases hp
  · rw [if_neg h] at hp
    by_cases h2 : p.off < a
    · rw [if_pos h2] at hp
      have := Option.some.inj hp
      rw [← this]
      exact Int.le_refl _
    · rw [if_neg h2] at hp
      have := Option.some.inj hp
      rw [← this]
      omega
/-- The document's Write: the first ones that lie ahead, the new ones, all that lie behind. -/
theorem doc_parts {size from_ to_ : Int} (hft : from_ ≤ to_) {l : List Bp} {a : Int} (h : mayFrom size a l = true) :
    (withoutD l from_ to_).takeWhile (fun p => decide (p.off < from_)) = l.filterMap (aheadP from_) ∧ (withoutD l from_ to_).filter (fun p => decide (from_ ≤ p.off)) = l.filterMap (behindP to_) := by
  rw [without_split hft h]
  constructor
  · rw [List.takeWhile_append_of_pos (fun q hq => by simpa using ahead_off q hq)]
    cases hb : l.filterMap (behindP to_) with
    | nil => simp
    | cons q r =>
      have := behind_off (a := to_) (l := l) q (by rw [hb]; simp)
      rw [List.takeWhile_cons, if_neg (by simp; omega), List.append_nil]
  · rw [List.filter_append, List.filter_eq_nil_iff.2 (fun q hq => by have := ahead_off q hq; simp; omega), List.nil_append]
    exact List.filter_eq_self.2 fun q hq => by have := behind_off q hq; simp; omega
end Go.Proofs.YtiegadfhgccliaaGreatDoor
namespace Go.Proofs.YtiegadfhgccliaaGreatDoor
open Go.RowKit Go.Lib

def encP : EncK Bp where
  enc p := [.int .i64 p.off, .int .i64 p.ln, .int .i64 p.ch, .int .i64 p.at_]
  K := 4
  pos := by decide
  len _ := rfl
  one x u hu := by
    simp at hu
    rcases hu with rfl | rfl | rfl | rfl <;> rfl
abbrev SlPt (w : World) (a : Option Addr) (L : List Bp) : Prop := SlK encP w a L
theorem SlPt_at {w : World} {a : Option Addr} {L : List Bp} (h : SlPt w a L) {k : Nat} (hk : k < L.length) : ∃ b o, a = some ⟨b, o, none⟩ ∧ w.cell? ⟨b, o + k * 4, none⟩ = some (.int .i64 (L.getD k default).off) ∧ w.cell? ⟨b, o + k * 4 + 1, none⟩ = some (.int .i64 (L.getD k default).ln) ∧ w.cell? ⟨b, o + k * 4 + 2, none⟩ = some (.int .i64 (L.getD k default).ch) ∧ w.cell? ⟨b, o + k * 4 + 3, none⟩ = some (.int .i64 (L.getD k default).at_) ∧ b < w.heap.size := by
  obtain ⟨b, o, e, h1, h2⟩ := h.at_ hk
  exact ⟨b, o, e, h1 0 _ rfl, h1 1 _ rfl, h1 2 _ rfl, h1 3 _ rfl, h2⟩
end Go.Proofs.YtiegadfhgccliaaGreatDoor
namespace Go.Proofs.YtiegadfhgccliaaGreatDoor
open Go.Lib

structure Ev where
  op : Int
  path : ByteArray
  to : ByteArray
  off : Int
  size : Int
  data : List UInt8
/-- A state: its tree; its files, in the order in which they came. -/
structure FS where
  t : TS
  fs : List (Int × Bd)
def bodyOf (fs : List (Int × Bd)) (id : Int) : Option Bd := (fs.find? fun f => decide (f.1 = id)).map (·.2)
def dropF (fs : List (Int × Bd)) (id : Int) : List (Int × Bd) := fs.filter fun f => !decide (f.1 = id)
def setF (fs : List (Int × Bd)) (id : Int) (b : Bd) : List (Int × Bd) := fs.map fun f => if f.1 = id then (id, b) else f
/-- A file's number; 6: a directory. -/
def fileS (T : TS) (p : ByteArray) : Int × Int :=
  if (lookS (fnd · T.L) p).2.2 = 0 ∧ (lookS (fnd · T.L) p).2.1 = true then (0, 6) else ((lookS (fnd · T.L) p).1, (lookS (fnd · T.L) p).2.2)
/-- Check: what Apply would answer, as far as names go. -/
def checkS (S : FS) (e : Ev) : Int :=
  if e.op = 1 ∨ e.op = 2 then canS S.t.L e.path
  else if e.op = 3 then
    if (fileS S.t e.path).2 = 0 then
      if 1024 < e.data.length then 1 else if e.off < 0 ∨ 1099511627776 - (e.data.length : Int) < e.off then 9 else 0
    else (fileS S.t e.path).2
  else if e.op = 4 then
    if (fileS S.t e.path).2 = 0 then (if e.size < 0 ∨ 1099511627776 < e.size then 9 else 0) else (fileS S.t e.path).2
  else if e.op = 5 then canRenS S.t.L e.path e.to
  else if e.op = 6 ∨ e.op = 7 then canDropS S.t.L e.path (decide (e.op = 7))
  else if e.op = 8 then (if nameOk e.path then 0 else 11)
  else 1
/-- What is written into a file. -/
def putS (S : FS) (e : Ev) (l : List Bp) : FS × Int :=
  if 0 < e.data.length ∧ sumP l ≠ (e.data.length : Int) then (S, 1)
  else
    if (writeS ((bodyOf S.fs (fileS S.t e.path).1).getD default) e.off l).2 = 0
    then (⟨S.t, setF S.fs (fileS S.t e.path).1 (writeS ((bodyOf S.fs (fileS S.t e.path).1).getD default) e.off l).1⟩, 0)
    else (S, (writeS ((bodyOf S.fs (fileS S.t e.path).1).getD default) e.off l).2)
/-- Apply. -/
def applyS (S : FS) (e : Ev) (l : List Bp) : FS × Int :=
  if checkS S e = 0 then
    if e.op = 1 then (⟨(makeS S.t e.path false).1, S.fs ++ [((makeS S.t e.path false).2.1, ⟨0, []⟩)]⟩, 0)
    else if e.op = 2 then (⟨(makeS S.t e.path true).1, S.fs⟩, 0)
    else if e.op = 3 then putS S e l
    else if e.op = 4 then (⟨S.t, setF S.fs (fileS S.t e.path).1 (truncS ((bodyOf S.fs (fileS S.t e.path).1).getD default) e.size).1⟩, 0)
    else if e.op = 5 then (⟨(renS S.t e.path e.to).1, dropF S.fs (renS S.t e.path e.to).2.1⟩, 0)
    else if e.op = 6 ∨ e.op = 7 then (⟨(dropS S.t e.path (decide (e.op = 7))).1, dropF S.fs (dropS S.t e.path (decide (e.op = 7))).2.1⟩, 0)
    else (S, 0)
  else (S, checkS S e)
end Go.Proofs.YtiegadfhgccliaaGreatDoor
namespace Go.Proofs.YtiegadfhgccliaaGreatDoor
open Go.RowKit Go.Lib

theorem pathok_join_len {L : List ByteArray} (h : PathOk L) : (join (L.map (·.data.toList)) [47]).length ≤ 281474976710656 := by
  have h1 := h.short
  unfold pjoin at h1
  rw [mkB_size, List.length_cons] at h1
  omega
theorem join_take {w : World} {a : Option Addr} {c : Nat} {P : List ByteArray} (hS : SlS w a P) (hc : P.length ≤ c) (hp : PathOk P) {k : Nat} (hk : k ≤ P.length) :
    Calls Tryz.prog 88 #[.slice a k c] w fun e w' => e = .returned (.string (pjoin (P.take k))) ∧ Below w.heap.size w w' := by
  have h := path_join a c (P.take k) w (hS.take k) (by rw [List.length_take]; omega) (by have := hp.few; rw [List.length_take]; omega) (pathok_join_len (hp.take k))
  rw [List.length_take, Nat.min_eq_left hk] at h
  exact h
theorem lookFrom_step (F : ByteArray → Option Nd) (P : List ByteArray) (k : Nat) (hk : k < P.length) (id : Int) (dir : Bool) :
    lookFrom F (P.take k) (P.drop k) id dir = if dir = false then (0, false, 7) else match F (pjoin (P.take (k + 1))) with
      | none => (0, false, 4)
      | some n => lookFrom F (P.take (k + 1)) (P.drop (k + 1)) n.id n.dir := by
  rw [List.drop_eq_getElem_cons hk]
  conv => lhs; unfold lookFrom
  rw [List.take_succ_eq_append_getElem hk]
  cases F (pjoin (P.take k ++ [P[k]])) <;> rfl

set_option maxRecDepth 100000 in
set_option maxHeartbeats 4000000 in
theorem tree_look (s : ByteArray) (w : World) (hs : s.size ≤ maxLen) {tb mb : Nat} {T : TS} (hT : TreeP w tb mb T) (ha : Apart T.L) (hm : MLen w) {i0 : Int} {d0 : Bool} {x0 : Int} (hl : lookS (fnd · T.L) s = (i0, d0, x0)) :
    Calls Tryz.prog 57 #[.pointer (some ⟨tb, 0, none⟩), .string s] w fun e w' => e = .returned (.tuple #[.int .i64 i0, .bool d0, .int .i64 x0]) ∧ Below w.heap.size w w' := by
  have HSp := Lib.hid (path_split s w hs hm)
  have HT := Lib.hid hT
  have HA := Lib.hid ha
  have HM := Lib.hid hm
  have hfac := hT.facts
  have htl := hT.lt
  clear hT ha hm
  unfold lookS at hl
  cases hx : psplit s with
  | none =>
    rw [hx] at hl
    have HX := Lib.hid hx
    have HL := Lib.hid hl
    clear hx hl
    go_enter Tryz.func57, Tryz.ntmps57
    go_wp2_with fail
    refine HSp.out.mono ?_
    intro e w1 hr
    obtain ⟨rfl, hB1⟩ := splitAns_none HX.out hr
    clear hr
    go_wp2_with fail
    go_ret3
    exact ⟨by obtain ⟨h1, h2⟩ := Prod.mk.inj HL.out; obtain ⟨h2, h3⟩ := Prod.mk.inj h2; subst h1; subst h2; subst h3; rfl, hB1⟩
  | some P =>
    rw [hx] at hl
    have HX := Lib.hid hx
    have hl : lookFrom (fnd · T.L) [] P 0 true = (i0, d0, x0) := hl
    have HL := Lib.hid hl
    have hP := (psplit_ok hx).1
    have h8 := hP.few
    have HP := Lib.hid hP
    clear hx hl hP
    go_enter Tryz.func57, Tryz.ntmps57
    go_wp2_with fail
    refine HSp.out.mono ?_
    intro e w1 hr
    obtain ⟨a1, c1, rfl, hc1, hS1, hB1⟩ := splitAns_some HX.out hr
    clear hr
    have HB1 := Lib.hid hB1
    clear hB1
    go_wp2
    go_loopw [25] (fun i wr => ∃ (k : Nat) (p : ByteArray) (id : Int) (dir : Bool), k ≤ P.length ∧ i = .int .i64 (k : Int) ∧ Hid (wr.heap[w1.heap.size]? = some (.cells #[.string p, .int .i64 id, .bool dir] 51 (0, 0))) ∧ Hid (Below w1.heap.size w1 wr) ∧ Hid (lookFrom (fnd · T.L) (P.take k) (P.drop k) id dir = (i0, d0, x0))) (fun i _ => P.length - (intOf i).toNat)
    case atStart => exact ⟨0, ⟨#[]⟩, 0, true, by omega, rfl, Lib.hid (heap_alloc_new _ _), Lib.hid ((Below.refl _ _).alloc (Nat.le_refl _) _), Lib.hid HL.out⟩
    case round =>
      obtain ⟨k, p, id, dir, hk, rfl, HN, HB, HF⟩ := hrel
      have hn2 : wr.cell? ⟨w1.heap.size, 2, none⟩ = some (.bool dir) := by unfold World.cell?; rw [HN.out]; rfl
      by_cases hlt : k < P.length
      · have hstep := lookFrom_step (fnd · T.L) P k hlt id dir
        have hki : (k : Int) < (P.length : Int) := by omega
        cases dir with
        | false =>
          have HR := Lib.hid (hstep.symm.trans HF.out)
          clear hstep
          go_wp2_with fail
          go_ret3
          exact ⟨by obtain ⟨h1, h2⟩ := Prod.mk.inj HR.out; obtain ⟨h2, h3⟩ := Prod.mk.inj h2; subst h1; subst h2; subst h3; rfl, HB1.out.trans (HB.out.mono HB1.out.size)⟩
        | true =>
          have hstep := hstep.symm.trans HF.out
          rw [if_neg (by decide)] at hstep
          have HTW : Hid (∀ W, Below w1.heap.size w1 W → TreeP W tb mb T) := fun W h => HT.out.below (blw HB1.out h)
          have HJ : Hid (∀ W, Below w1.heap.size w1 W → Calls Tryz.prog 88 #[.slice a1 ((k : Nat) + 1) c1] W fun e w' => e = .returned (.string (pjoin (P.take (k + 1)))) ∧ Below W.heap.size W w') := fun W h => join_take (hS1.below h) hc1 HP.out (k := k + 1) (by omega)
          have hc0 := (HTW.out wr HB.out).facts.1
          have v1 : IntKind.i64.wrap ((k : Int) + 1) = (k : Int) + 1 := IntWalk.i64_in _ (by omega)
          have v2 : ((k : Int) + 1).toNat = k + 1 := by omega
          have v3 : (0 : Int) ≤ (k : Int) + 1 := by omega
          have v4 : (k : Int) + 1 ≤ (c1 : Int) := by omega
          have hnb : w1.heap.size < wr.heap.size := (Array.getElem?_eq_some_iff.1 HN.out).1
          cases hfd : fnd (pjoin (P.take (k + 1))) T.L with
          | none =>
            have HFd := Lib.hid hfd
            have HR := Lib.hid (show ((0 : Int), false, (4 : Int)) = (i0, d0, x0) by rw [← hstep]; simp only [hfd])
            clear hstep hfd
            go_upto_region 13 with (fail)
            go_region_held3 (fun w' => w'.cell? ⟨tb, 0, none⟩ = some (.map (some mb))) (go_keep) (first | (go_at_call 88; refine (HJ.out _ (below_drewN' HB.out 1)).mono ?_; rintro e w2 ⟨rfl, hB2⟩; have HB2 := Lib.hid (blw (below_drewN' HB.out 1) hB2); have hlk := (HTW.out _ HB2.out).look HA.out (pjoin (P.take (k + 1))); rw [HFd.out] at hlk; have hcell2 : w2.cell? ⟨tb, 0, none⟩ = some (.map (some mb)) := (HTW.out _ HB2.out).facts.1; have HN2 := Lib.hid ((hB2.block w1.heap.size hnb).trans HN.out); clear hB2; obtain ⟨⟨f0, f1⟩, ⟨f2, f3⟩, f4, f5⟩ := b3_facts HN2.out (.string ⟨#[]⟩) (.int .i64 0); have hk3 := b3_keep (show tb ≠ w1.heap.size by have := HB1.out.size; omega) hcell2 (.string ⟨#[]⟩) (.int .i64 0) (.bool false)))
            go_wp2
            go_ret3
            exact ⟨by obtain ⟨h1, h2⟩ := Prod.mk.inj HR.out; obtain ⟨h2, h3⟩ := Prod.mk.inj h2; subst h1; subst h2; subst h3; rfl, b3_below HB1.out.size (blw HB1.out HB2.out) _ _ _⟩
          | some nd =>
            obtain ⟨np, ni, ndr⟩ := nd
            have HFd := Lib.hid hfd
            have HR := Lib.hid (show lookFrom (fnd · T.L) (P.take (k + 1)) (P.drop (k + 1)) ni ndr = (i0, d0, x0) by rw [← hstep]; simp only [hfd])
            clear hstep hfd
            go_upto_region 13 with (fail)
            go_region_held3 (fun w' => w'.cell? ⟨tb, 0, none⟩ = some (.map (some mb))) (go_keep) (first | (go_at_call 88; refine (HJ.out _ (below_drewN' HB.out 1)).mono ?_; rintro e w2 ⟨rfl, hB2⟩; have HB2 := Lib.hid (blw (below_drewN' HB.out 1) hB2); have hlk := (HTW.out _ HB2.out).look HA.out (pjoin (P.take (k + 1))); rw [HFd.out] at hlk; have hcell2 : w2.cell? ⟨tb, 0, none⟩ = some (.map (some mb)) := (HTW.out _ HB2.out).facts.1; have HN2 := Lib.hid ((hB2.block w1.heap.size hnb).trans HN.out); clear hB2; obtain ⟨⟨f0, f1⟩, ⟨f2, f3⟩, f4, f5⟩ := b3_facts HN2.out (.string np) (.int .i64 ni); have hk3 := b3_keep (show tb ≠ w1.heap.size by have := HB1.out.size; omega) hcell2 (.string np) (.int .i64 ni) (.bool ndr)))
            go_wp2
            exact ⟨⟨k + 1, np, ni, ndr, by omega, by go_num, Lib.hid (b3_end HN2.out _ _ _), Lib.hid (b3_below (Nat.le_refl _) HB2.out _ _ _), HR⟩, by simp [intOf]; omega⟩
      · obtain rfl : k = P.length := by omega
        have hR := HF.out
        rw [List.drop_length] at hR
        have HR := Lib.hid (show (id, dir, (0 : Int)) = (i0, d0, x0) from hR)
        have hn1 : wr.cell? ⟨w1.heap.size, 1, none⟩ = some (.int .i64 id) := by unfold World.cell?; rw [HN.out]; rfl
        have hlt' : decide ((P.length : Int) < (P.length : Int)) = false := by simp
        clear hR hlt
        go_wp2
        go_quiet (fail)
        go_wp2
        go_ret3
        exact ⟨by obtain ⟨h1, h2⟩ := Prod.mk.inj HR.out; obtain ⟨h2, h3⟩ := Prod.mk.inj h2; subst h1; subst h2; subst h3; rfl, below_drewN' (HB1.out.trans (HB.out.mono HB1.out.size)) _⟩
end Go.Proofs.YtiegadfhgccliaaGreatDoor
