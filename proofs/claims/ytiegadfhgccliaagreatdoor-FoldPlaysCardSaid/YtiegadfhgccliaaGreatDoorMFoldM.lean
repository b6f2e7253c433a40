/- Walks of the document's Split, Under. -/
import Derived.Test.YtiegadfhgccliaaGreatDoorMTreeM
import Derived.Test.YtiegadfhgccliaaGreatDoorMStateI
import Derived.Test.YtiegadfhgccliaaGreatDoorMTreeR
import Derived.Test.YtiegadfhgccliaaGreatDoorMTreeW2
import Derived.Test.YtiegadfhgccliaaGreatDoorMName
import Derived.Test.YtiegadfhgccliaaGreatDoorMBase
import Derived.RegionTactic
import Derived.BigRegion
import Derived.OwnWalk
import Derived.Laws.AppendOwn
import Derived.IntWalk
import Derived.Below
namespace Go.Proofs.YtiegadfhgccliaaGreatDoor
open Go.RowKit Go.Lib
open Go.ChangeMaps (setBlock)

/-- A body as a map's element: its size, its row of parts. -/
abbrev bdV (bd : Bd) (a : Option Addr) (c : Nat) : Value := .agg #[.int .i64 bd.size, .slice a bd.parts.length c]
/-- No three whole numbers stand in a row here: no row of parts. -/
def NoInt3 (w : World) (b : Nat) : Prop := ∀ o x y z, ¬ (w.cell? ⟨b, o, none⟩ = some (.int .i64 x) ∧ w.cell? ⟨b, o + 1, none⟩ = some (.int .i64 y) ∧ w.cell? ⟨b, o + 2, none⟩ = some (.int .i64 z))
theorem NoInt3.of_map {w : World} {b : Nat} {es : Array MapEntry} {c : Nat} (h : w.heap[b]? = some (.map es c)) : NoInt3 w b := by
  rintro o x y z ⟨e, _⟩
  unfold World.cell? at e
  rw [h] at e
  simp at e
theorem NoInt3.of_new {w : World} {b : Nat} (h : w.heap.size ≤ b) : NoInt3 w b := by
  rintro o x y z ⟨e, _⟩
  have := World.block_lt_of_cell? w _ e
  have : b < w.heap.size := this
  omega
/-- A struct of two or three cells whose second, or third, is no number. -/
theorem NoInt3.of_short {w : World} {b : Nat} {cs : Array Value} {t : TypeId} {f : Nat × Nat} (h : w.heap[b]? = some (.cells cs t f)) (hn : cs.size ≤ 3) (h0 : ∀ x, cs[0]? ≠ some (.int .i64 x)) : NoInt3 w b := by
  rintro o x y z ⟨e, _, e2⟩
  unfold World.cell? at e e2
  rw [h] at e e2
  have e : cs[o]? = some (.int .i64 x) := by simpa using e
  have e2 : cs[o + 2]? = some (.int .i64 z) := by simpa using e2
  have := (Array.getElem?_eq_some_iff.1 e2).1
  obtain rfl : o = 0 := by omega
  exact h0 x e
theorem NoInt3.of_two {w : World} {b : Nat} {cs : Array Value} {t : TypeId} {f : Nat × Nat} (h : w.heap[b]? = some (.cells cs t f)) (hn : cs.size ≤ 2) : NoInt3 w b := by
  rintro o x y z ⟨_, _, e2⟩
  unfold World.cell? at e2
  rw [h] at e2
  have e2 : cs[o + 2]? = some (.int .i64 z) := by simpa using e2
  have := (Array.getElem?_eq_some_iff.1 e2).1
  omega
theorem SlPt.turnP {bs : List Nat} {w w' : World} {a : Option Addr} {L : List Bp} (h : SlPt w a L) (ht : Turn bs w w') (h2 : ∀ b ∈ bs, NoInt3 w b) : SlPt w' a L := by
  cases L with
  | nil => exact .inl rfl
  | cons n r =>
    rcases h with h | ⟨b, o, e, hr⟩
    · cases h
    · have c0 := hr.at_ 0 (by simp) 0 _ rfl
      have c1 := hr.at_ 0 (by simp) 1 _ rfl
      have c2 := hr.at_ 0 (by simp) 2 _ rfl
      exact .inr ⟨b, o, e, hr.turn ht fun hb => h2 b hb _ _ _ _ ⟨c0, c1, c2⟩⟩
/-- The block of a row. -/
def abl (fa : Option Addr) : List Nat := match fa with
  | some a => [a.block]
  | none => []
/-- A block whose elements are parts. -/
def PtB (w : World) (b : Nat) : Prop := ∃ cur t, w.heap[b]? = some (.cells cur t (0, 0)) ∧ (t = 40 ∨ t = 87)
def NoPt (w : World) (b : Nat) : Prop := ¬ PtB w b
theorem NoPt.of_map {w : World} {b : Nat} {es : Array MapEntry} {c : Nat} (h : w.heap[b]? = some (.map es c)) : NoPt w b := by
  rintro ⟨cur, t, e, _⟩
  rw [h] at e
  cases e
theorem NoPt.of_new {w : World} {b : Nat} (h : w.heap.size ≤ b) : NoPt w b := by
  rintro ⟨cur, t, e, _⟩
  have := (Array.getElem?_eq_some_iff.1 e).1
  omega
theorem NoPt.of_cells {w : World} {b : Nat} {cs : Array Value} {t : TypeId} {f : Nat × Nat} (h : w.heap[b]? = some (.cells cs t f)) (h1 : t ≠ 40) (h2 : t ≠ 87) : NoPt w b := by
  rintro ⟨cur, t', e, ht⟩
  rw [h] at e
  injection e with e
  injection e with _ e2 _
  subst e2
  rcases ht with ht | ht
  · exact h1 ht
  · exact h2 ht
/-- A row of parts that a call has made. -/
structure SlPo (w : World) (a : Option Addr) (L : List Bp) : Prop where
  s : SlPt w a L
  o : ∀ x ∈ abl a, PtB w x
theorem SlPo.nil (w : World) : SlPo w none [] := ⟨.inl rfl, by simp [abl]⟩
theorem PtB.lt {w : World} {b : Nat} (h : PtB w b) : b < w.heap.size := by
  obtain ⟨_, _, e, _⟩ := h
  exact (Array.getElem?_eq_some_iff.1 e).1
theorem PtB.of_block {w w' : World} {b : Nat} (h : PtB w b) (e : w'.heap[b]? = w.heap[b]?) : PtB w' b := by
  obtain ⟨cur, t, e1, ht⟩ := h
  exact ⟨cur, t, e.trans e1, ht⟩
theorem SlPo.turnP {bs : List Nat} {w w' : World} {a : Option Addr} {L : List Bp} (h : SlPo w a L) (ht : Turn bs w w') (h2 : ∀ b ∈ bs, NoPt w b) : SlPo w' a L := by
  have hn : ∀ x ∈ abl a, x ∉ bs := fun x hx hb => h2 x hb (h.o x hx)
  exact ⟨SlK.turn h.s ht fun b o e => hn b (by rw [e]; simp [abl]), fun x hx => (h.o x hx).of_block (ht.block x (h.o x hx).lt (hn x hx))⟩
theorem SlPo.below {w w' : World} {a : Option Addr} {L : List Bp} (h : SlPo w a L) (hb : Below w.heap.size w w') : SlPo w' a L := h.turnP (bs := []) (.of_below hb) (by simp)
theorem SlPo.of_heap {w w' : World} {a : Option Addr} {L : List Bp} (h : SlPo w a L) (e : w'.heap = w.heap) : SlPo w' a L := by
  refine ⟨?_, fun x hx => (h.o x hx).of_block (by rw [e])⟩
  rcases h.s with hs | ⟨x, o, e1, hr⟩
  · exact .inl hs
  · refine .inr ⟨x, o, e1, ⟨fun k hk j u hu => ?_, by rw [e]; exact hr.lt⟩⟩
    have := hr.at_ k hk j u hu
    unfold World.cell? at this ⊢
    rw [e]; exact this
theorem NoPt.of_block {w w' : World} {b : Nat} (h : NoPt w b) (e : w'.heap[b]? = w.heap[b]?) : NoPt w' b := fun hp => h (hp.of_block e.symm)
theorem SlPo.own {w : World} {base : Nat} {e : TypeId} {v : Value} {L : List Bp} (h : w.ownsRow base e 4 v L.length (encP.cells L)) (he : e = 40 ∨ e = 87) : ∃ a c, v = .slice a L.length c ∧ L.length ≤ c ∧ SlPo w a L ∧ (∀ b o, a = some ⟨b, o, none⟩ → base ≤ b) := by
  obtain ⟨a, c, hv, hc, hS, hb⟩ := SlK.own (E := encP) h
  refine ⟨a, c, hv, hc, ⟨hS, fun x hx => ?_⟩, hb⟩
  rcases h.2 with ⟨e1, _⟩ | ⟨g, cap, cur, e1, _, hg, _⟩
  · rw [e1] at hv
    obtain ⟨rfl, _, _⟩ := Value.slice.inj hv
    simp [abl] at hx
  · rw [e1] at hv
    obtain ⟨rfl, _, _⟩ := Value.slice.inj hv
    simp [abl] at hx
    subst hx
    exact ⟨cur, e, hg, he⟩
structure FileM where
  id : Int
  bd : Bd
  a : Option Addr
  c : Nat
abbrev FileM.pair (f : FileM) : Int × Bd := (f.id, f.bd)
abbrev FileM.ent (f : FileM) : Int × Value := (f.id, bdV f.bd f.a f.c)
def FileM.ok (w : World) (f : FileM) : Prop := SlPo w f.a f.bd.parts ∧ f.bd.parts.length ≤ f.c
/-- A state: its struct, its tree (struct, map), its map of bodies. -/
structure FoldP (w : World) (sb tb mb lb : Nat) (S : FS) : Prop where
  c : w.heap[sb]? = some (.cells #[.pointer (some ⟨tb, 0, none⟩), .map (some lb)] 80 (0, 0))
  t : TreeP w tb mb S.t
  f : ∃ F : List FileM, (F.map FileM.pair).Perm S.fs ∧ MapIs intKey w lb (F.map FileM.ent) ∧ ∀ f ∈ F, f.ok w
  n : mb ≠ lb
theorem FoldP.cells {w : World} {sb tb mb lb : Nat} {S : FS} (h : FoldP w sb tb mb lb S) : w.cell? ⟨sb, 0, none⟩ = some (.pointer (some ⟨tb, 0, none⟩)) ∧ w.cell? ⟨sb, 1, none⟩ = some (.map (some lb)) := by
  unfold World.cell?
  rw [h.c]
  exact ⟨rfl, rfl⟩
theorem FoldP.lt {w : World} {sb tb mb lb : Nat} {S : FS} (h : FoldP w sb tb mb lb S) : sb < w.heap.size ∧ tb < w.heap.size ∧ mb < w.heap.size ∧ lb < w.heap.size := by
  obtain ⟨h1, h2, _⟩ := h.t.lt
  obtain ⟨F, _, h3, _⟩ := h.f
  exact ⟨(Array.getElem?_eq_some_iff.1 h.c).1, h1, h2, h3.lt⟩
theorem FoldP.maps {w : World} {sb tb mb lb : Nat} {S : FS} (h : FoldP w sb tb mb lb S) : NoInt3 w tb ∧ NoInt3 w mb ∧ NoInt3 w lb ∧ sb ≠ tb ∧ sb ≠ mb ∧ sb ≠ lb ∧ tb ≠ mb ∧ tb ≠ lb := by
  obtain ⟨L, _, hA⟩ := h.t
  obtain ⟨es, clock, hb, _⟩ := hA.map
  obtain ⟨F, _, ⟨es2, clock2, hb2, _⟩, _⟩ := h.f
  have hc := h.c
  have ht := hA.cells
  refine ⟨.of_short ht (by simp) (by simp), .of_map hb, .of_map hb2, ?_, ?_, ?_, ?_, ?_⟩
  · intro e; rw [e, ht] at hc; simp at hc
  · intro e; rw [e, hb] at hc; cases hc
  · intro e; rw [e, hb2] at hc; cases hc
  · intro e; rw [e, hb] at ht; cases ht
  · intro e; rw [e, hb2] at ht; cases ht
theorem FoldP.nostr {w : World} {sb tb mb lb : Nat} {S : FS} (h : FoldP w sb tb mb lb S) : ∀ b ∈ [tb, mb, lb], ∀ o s, w.cell? ⟨b, o, none⟩ ≠ some (.string s) := by
  obtain ⟨L, _, hA⟩ := h.t
  obtain ⟨es, clock, hb, _⟩ := hA.map
  obtain ⟨F, _, ⟨es2, clock2, hb2, _⟩, _⟩ := h.f
  have ht := hA.cells
  intro b hm o s e
  unfold World.cell? at e
  simp only [List.mem_cons, List.not_mem_nil, or_false] at hm
  rcases hm with rfl | rfl | rfl
  · rw [ht] at e
    rcases o with _ | _ | o <;> simp at e
  · rw [hb] at e; simp at e
  · rw [hb2] at e; simp at e
theorem FoldP.nopt {w : World} {sb tb mb lb : Nat} {S : FS} (h : FoldP w sb tb mb lb S) : NoPt w sb ∧ NoPt w tb ∧ NoPt w mb ∧ NoPt w lb := by
  obtain ⟨L, _, hA⟩ := h.t
  obtain ⟨es, clock, hb, _⟩ := hA.map
  obtain ⟨F, _, ⟨es2, clock2, hb2, _⟩, _⟩ := h.f
  exact ⟨.of_cells h.c (by decide) (by decide), .of_cells hA.cells (by decide) (by decide), .of_map hb, .of_map hb2⟩
theorem FoldP.nopt3 {w : World} {sb tb mb lb : Nat} {S : FS} (h : FoldP w sb tb mb lb S) : ∀ b ∈ [tb, mb, lb], NoPt w b := by
  obtain ⟨_, h1, h2, h3⟩ := h.nopt
  intro b hb
  simp only [List.mem_cons, List.not_mem_nil, or_false] at hb
  rcases hb with rfl | rfl | rfl
  · exact h1
  · exact h2
  · exact h3
theorem FoldP.turn {bs : List Nat} {w w' : World} {sb tb mb lb : Nat} {S : FS} (h : FoldP w sb tb mb lb S) (ht : Turn bs w w') (h1 : sb ∉ bs) (h2 : tb ∉ bs) (h3 : mb ∉ bs) (h4 : lb ∉ bs) (h5 : ∀ b ∈ bs, NoPt w b) : FoldP w' sb tb mb lb S := by
  have hsb : sb < w.heap.size := (Array.getElem?_eq_some_iff.1 h.c).1
  obtain ⟨F, f1, f2, f3⟩ := h.f
  exact ⟨(ht.block sb hsb h1).trans h.c, h.t.turn ht h2 h3, ⟨F, f1, f2.of_block (ht.block lb f2.lt h4), fun f hf => ⟨(f3 f hf).1.turnP ht h5, (f3 f hf).2⟩⟩, h.n⟩
theorem FoldP.below {w w' : World} {sb tb mb lb : Nat} {S : FS} (h : FoldP w sb tb mb lb S) (hb : Below w.heap.size w w') : FoldP w' sb tb mb lb S := h.turn (bs := []) (.of_below hb) (by simp) (by simp) (by simp) (by simp) (by simp)
/-- What its tree's methods turn. -/
theorem FoldP.tree {w w' : World} {sb tb mb lb : Nat} {S : FS} {T' : TS} (h : FoldP w sb tb mb lb S) (ht : Turn [tb, mb] w w') (hT : TreeP w' tb mb T') : FoldP w' sb tb mb lb ⟨T', S.fs⟩ := by
  obtain ⟨_, _, _, n4, n5, n6, n7, n8⟩ := h.maps
  obtain ⟨_, n1, n2, _⟩ := h.nopt
  obtain ⟨l1, l2, l3, l4⟩ := h.lt
  have hn := h.n
  obtain ⟨F, f1, f2, f3⟩ := h.f
  refine ⟨(ht.block sb l1 (by simp; omega)).trans h.c, hT, ⟨F, f1, f2.of_block (ht.block lb l4 (by simp; omega)), fun f hf => ⟨(f3 f hf).1.turnP ht ?_, (f3 f hf).2⟩⟩, h.n⟩
  intro b hb
  simp only [List.mem_cons, List.not_mem_nil, or_false] at hb
  rcases hb with rfl | rfl
  · exact n1
  · exact n2
theorem zero_bd (w : World) : (zeroValue 47).run Tryz.prog w = .ok (.agg #[.int .i64 0, .slice none 0 0]) w := by kernel_rfl
theorem look_files {F : List FileM} {id : Int} : look id (F.map FileM.ent) = ((F.find? fun f => decide (f.id = id)).map fun f => bdV f.bd f.a f.c) ∧ bodyOf (F.map FileM.pair) id = (F.find? fun f => decide (f.id = id)).map (·.bd) := by
  unfold look bodyOf
  rw [List.find?_map, List.find?_map, Option.map_map, Option.map_map]
  exact ⟨rfl, rfl⟩
/-- 's.l[id]', 'b, ok := s.l[id]'. -/
theorem FoldP.look {w : World} {sb tb mb lb : Nat} {S : FS} (h : FoldP w sb tb mb lb S) (ho : S.fs.Pairwise fun a b => a.1 ≠ b.1) (id : Int) :
    ∃ a c, SlPt w a ((bodyOf S.fs id).getD default).parts ∧ ((bodyOf S.fs id).getD default).parts.length ≤ c ∧
      (∀ W : World, W.heap[lb]? = w.heap[lb]? → (Instr.lookup 78 (.map (some lb)) (.int .i64 id) false).run Tryz.prog W = .ok (.agg #[.int .i64 ((bodyOf S.fs id).getD default).size, .slice a ((bodyOf S.fs id).getD default).parts.length c]) W) ∧
      (∀ W : World, W.heap[lb]? = w.heap[lb]? → (Instr.lookup 78 (.map (some lb)) (.int .i64 id) true).run Tryz.prog W = .ok (.tuple #[.agg #[.int .i64 ((bodyOf S.fs id).getD default).size, .slice a ((bodyOf S.fs id).getD default).parts.length c], .bool (bodyOf S.fs id).isSome]) W) := by
  obtain ⟨F, f1, f2, f3⟩ := h.f
  have hb := bodyOf_perm ho f1 id
  obtain ⟨g1, g2⟩ := look_files (F := F) (id := id)
  rw [g2] at hb
  have r1 := fun W (hW : W.heap[lb]? = w.heap[lb]?) => run_look (P := Tryz.prog) intKey (w := W) (f2.of_block hW) Tryz.underlying78 Tryz.underlying3 (zero_bd W) id
  have r2 := fun W (hW : W.heap[lb]? = w.heap[lb]?) => run_look_ok (P := Tryz.prog) intKey (w := W) (f2.of_block hW) Tryz.underlying78 Tryz.underlying3 (zero_bd W) id
  rw [g1] at r1 r2
  rw [← hb]
  cases hf : F.find? fun f => decide (f.id = id) with
  | none =>
    rw [hf] at r1 r2
    exact ⟨none, 0, .inl rfl, Nat.le_refl _, r1, r2⟩
  | some f =>
    rw [hf] at r1 r2
    obtain ⟨k1, k2⟩ := f3 f (List.mem_of_find?_eq_some hf)
    exact ⟨f.a, f.c, k1.s, k2, r1, r2⟩
def putF (fs : List (Int × Bd)) (id : Int) (b : Bd) : List (Int × Bd) := if fs.any (fun p => decide (p.1 = id)) then setF fs id b else fs ++ [(id, b)]
theorem putF_has {fs : List (Int × Bd)} {id : Int} {c : Bd} (h : (id, c) ∈ fs) (b : Bd) : putF fs id b = setF fs id b := by
  unfold putF
  rw [if_pos (List.any_eq_true.2 ⟨_, h, by simp⟩)]
theorem putF_new {fs : List (Int × Bd)} {id : Int} (h : ∀ f ∈ fs, f.1 ≠ id) (b : Bd) : putF fs id b = fs ++ [(id, b)] := by
  unfold putF
  rw [if_neg (by rw [List.any_eq_true]; rintro ⟨x, hx, e⟩; exact h x hx (by simpa using e))]
theorem SlPo.set {w : World} {lb : Nat} {o : Obj} {a : Option Addr} {L : List Bp} (h : SlPo w a L) (hn : NoPt w lb) : SlPo (setBlock w lb o) a L :=
  h.turnP (bs := [lb]) ((Turn.refl _ _).setBlock (.inl (by simp)) o) (by simpa using hn)
/-- 's.l[id] = b'. -/
theorem FoldP.put {w : World} {sb tb mb lb : Nat} {S : FS} (h : FoldP w sb tb mb lb S) (id : Int) (b : Bd) {a : Option Addr} {c : Nat} (hS : SlPo w a b.parts) (hc : b.parts.length ≤ c) :
    ∃ ob, ∀ W : World, W.heap = w.heap → (Instr.mapUpdate 78 (.map (some lb)) (.int .i64 id) (.agg #[.int .i64 b.size, .slice a b.parts.length c])).run Tryz.prog W = .ok () (setBlock W lb ob) ∧ FoldP (setBlock W lb ob) sb tb mb lb ⟨S.t, putF S.fs id b⟩ := by
  obtain ⟨n1, n2, n3, n4, n5, n6, n7, n8⟩ := h.maps
  have hn := h.n
  obtain ⟨F, f1, f2, f3⟩ := h.f
  obtain ⟨ob, hput⟩ := run_put (P := Tryz.prog) intKey f2 Tryz.underlying78 Tryz.underlying3 id (bdV b a c)
  refine ⟨ob, fun W hW => ?_⟩
  obtain ⟨p1, p2⟩ := hput W (by rw [hW])
  have hcell : ∀ p, W.cell? p = w.cell? p := fun p => by unfold World.cell?; rw [hW]
  have hslW : ∀ {a : Option Addr} {L : List Bp}, SlPo w a L → SlPo W a L := fun {a L} hs => hs.of_heap hW
  have n3W : NoPt W lb := h.nopt.2.2.2.of_block (by rw [hW])
  refine ⟨p1, ⟨(heap_setBlock_ne _ _ _ _ n6).trans (by rw [hW]; exact h.c), ?_, ?_, h.n⟩⟩
  · obtain ⟨L, hp, hA⟩ := h.t
    exact ⟨L, hp, ⟨(heap_setBlock_ne _ _ _ _ n8).trans (by rw [hW]; exact hA.cells), hA.map.of_block ((heap_setBlock_ne _ _ _ _ hn).trans (by rw [hW]))⟩⟩
  · have hany : S.fs.any (fun p => decide (p.1 = id)) = F.any fun f => decide (f.id = id) := by
      rw [← f1.any_eq, List.any_map]; rfl
    have hany2 : (F.map FileM.ent).any (fun p => decide (p.1 = id)) = F.any fun f => decide (f.id = id) := by rw [List.any_map]; rfl
    cases hx : F.any fun f => decide (f.id = id) with
    | true =>
      refine ⟨F.map fun f => if f.id = id then ⟨id, b, a, c⟩ else f, ?_, ?_, ?_⟩
      · show _root_.List.Perm _ (putF S.fs id b)
        unfold putF
        rw [hany, hx, if_pos rfl]
        unfold setF
        rw [List.map_map]
        have e : (FileM.pair ∘ fun f => if f.id = id then (⟨id, b, a, c⟩ : FileM) else f) = (fun f : Int × Bd => if f.1 = id then (id, b) else f) ∘ FileM.pair := by
          funext f
          show FileM.pair (if f.id = id then _ else f) = if f.id = id then (id, b) else f.pair
          split <;> rfl
        rw [e, ← List.map_map]
        exact f1.map _
      · have e : (F.map fun f => if f.id = id then (⟨id, b, a, c⟩ : FileM) else f).map FileM.ent = mput id (bdV b a c) (F.map FileM.ent) := by
          unfold mput
          rw [hany2, hx, if_pos rfl, List.map_map, List.map_map]
          refine List.map_congr_left fun f _ => ?_
          show FileM.ent (if f.id = id then _ else f) = if f.id = id then (id, bdV b a c) else f.ent
          split <;> rfl
        rw [e]; exact p2
      · intro f hf
        obtain ⟨g, hg, rfl⟩ := List.mem_map.1 hf
        by_cases e : g.id = id
        · rw [if_pos e]; exact ⟨(hslW hS).set n3W, hc⟩
        · rw [if_neg e]; exact ⟨(hslW (f3 g hg).1).set n3W, (f3 g hg).2⟩
    | false =>
      refine ⟨F ++ [⟨id, b, a, c⟩], ?_, ?_, ?_⟩
      · show _root_.List.Perm _ (putF S.fs id b)
        unfold putF
        rw [hany, hx, if_neg (by decide), List.map_append]
        exact f1.append_right _
      · have e : (F ++ [(⟨id, b, a, c⟩ : FileM)]).map FileM.ent = mput id (bdV b a c) (F.map FileM.ent) := by
          unfold mput
          rw [hany2, hx, if_neg (by decide), List.map_append]
          rfl
        rw [e]; exact p2
      · intro f hf
        rcases List.mem_append.1 hf with hf | hf
        · exact ⟨(hslW (f3 f hf).1).set n3W, (f3 f hf).2⟩
        · rw [List.mem_singleton.1 hf]; exact ⟨(hslW hS).set n3W, hc⟩
/-- 'delete(s.l, id)'. -/
theorem FoldP.del {w : World} {sb tb mb lb : Nat} {S : FS} (h : FoldP w sb tb mb lb S) (id : Int) (rt : TypeId) :
    ∃ ob, ∀ W : World, W.heap = w.heap → (Builtin.delete_ #[78, 3] rt #[.map (some lb), .int .i64 id]).run Tryz.prog W = .ok (.tuple #[]) (setBlock W lb ob) ∧ FoldP (setBlock W lb ob) sb tb mb lb ⟨S.t, dropF S.fs id⟩ := by
  obtain ⟨n1, n2, n3, n4, n5, n6, n7, n8⟩ := h.maps
  have hn := h.n
  obtain ⟨F, f1, f2, f3⟩ := h.f
  obtain ⟨ob, hput⟩ := run_del (P := Tryz.prog) intKey f2 Tryz.underlying78 Tryz.underlying3 id #[78, 3] rfl rt
  refine ⟨ob, fun W hW => ?_⟩
  obtain ⟨p1, p2⟩ := hput W (by rw [hW])
  have hcell : ∀ p, W.cell? p = w.cell? p := fun p => by unfold World.cell?; rw [hW]
  have hslW : ∀ {a : Option Addr} {L : List Bp}, SlPo w a L → SlPo W a L := fun {a L} hs => hs.of_heap hW
  have n3W : NoPt W lb := h.nopt.2.2.2.of_block (by rw [hW])
  refine ⟨p1, ⟨(heap_setBlock_ne _ _ _ _ n6).trans (by rw [hW]; exact h.c), ?_, ⟨F.filter fun f => !decide (f.id = id), ?_, ?_, ?_⟩, h.n⟩⟩
  · obtain ⟨L, hp, hA⟩ := h.t
    exact ⟨L, hp, ⟨(heap_setBlock_ne _ _ _ _ n8).trans (by rw [hW]; exact hA.cells), hA.map.of_block ((heap_setBlock_ne _ _ _ _ hn).trans (by rw [hW]))⟩⟩
  · show _root_.List.Perm _ (dropF S.fs id)
    unfold dropF
    have := f1.filter fun f => !decide (f.1 = id)
    rw [List.filter_map] at this
    exact this
  · have e : (F.filter fun f => !decide (f.id = id)).map FileM.ent = mdel id (F.map FileM.ent) := by
      unfold mdel
      rw [List.filter_map]
      refine congrArg (List.map FileM.ent) (List.filter_congr fun f _ => ?_)
      by_cases e : f.id = id
      · simp [Function.comp, e]
      · simp [Function.comp, e]
    rw [e]; exact p2
  · intro f hf
    have hf := (List.mem_filter.1 hf).1
    exact ⟨(hslW (f3 f hf).1).set n3W, (f3 f hf).2⟩
end Go.Proofs.YtiegadfhgccliaaGreatDoor
namespace Go.Proofs.YtiegadfhgccliaaGreatDoor
open Go.Lib
set_option linter.unusedVariables false

/-- Rename: 'n.ID == id || Under(n.Path, from)'. -/
theorem doc_moves {T : TS} (h : TInv T) {src : ByteArray} {n0 : Nd} (h0 : fnd src T.L = some n0) {n : Nd} (hn : n ∈ T.L) : (decide (n.id = n0.id) || punder n.path src) = movesN src n := by
  obtain ⟨h1, h2⟩ := fnd_some h0
  unfold movesN
  congr 1
  rw [Bool.eq_iff_iff, decide_eq_true_eq, decide_eq_true_eq]
  exact ⟨fun e => by rw [h.uniq n hn n0 h1 e, h2], fun e => by rw [apart_uniq h.rises.apart hn h1 (e.trans h2.symm)]⟩
/-- .. 'n.ID != gone'. -/
theorem doc_stays {T : TS} (h : TInv T) {dst : ByteArray} {n : Nd} (hn : n ∈ T.L) : decide (n.id = goneS T.L dst) = decide (n.path = dst) := by
  unfold goneS
  rw [Bool.eq_iff_iff, decide_eq_true_eq, decide_eq_true_eq]
  cases hf : fnd dst T.L with
  | none =>
    refine ⟨fun e => ?_, fun e => absurd e (fnd_none hf n hn)⟩
    have := (h.ids n hn).1
    have e : n.id = -1 := e
    omega
  | some m =>
    obtain ⟨h1, h2⟩ := fnd_some hf
    exact ⟨fun e => by rw [h.uniq n hn m h1 e, h2], fun e => by rw [apart_uniq h.rises.apart hn h1 (e.trans h2.symm)]⟩
/-- Drop: 'n.ID != id'. -/
theorem doc_drops {T : TS} (h : TInv T) {s : ByteArray} {n0 : Nd} (h0 : fnd s T.L = some n0) {n : Nd} (hn : n ∈ T.L) : decide (n.id = n0.id) = decide (n.path = s) := by
  obtain ⟨h1, h2⟩ := fnd_some h0
  rw [Bool.eq_iff_iff, decide_eq_true_eq, decide_eq_true_eq]
  exact ⟨fun e => by rw [h.uniq n hn n0 h1 e, h2], fun e => by rw [apart_uniq h.rises.apart hn h1 (e.trans h2.symm)]⟩

/-- Where a path is: '-2' the root, '-1' nowhere. -/
def atD (L : List Nd) (s : ByteArray) : Int := if s = rootP then -2 else match L.findIdx? (fun n => decide (n.path = s)) with
  | some i => i
  | none => -1
theorem atD_none {L : List Nd} {s : ByteArray} (hr : s ≠ rootP) (h : fnd s L = none) : atD L s = -1 := by
  unfold atD
  rw [if_neg hr, List.findIdx?_eq_none_iff.2 fun n hn => by simpa using fnd_none h n hn]
theorem atD_some {L : List Nd} {s : ByteArray} (hr : s ≠ rootP) {n : Nd} (h : fnd s L = some n) : ∃ i : Nat, i < L.length ∧ atD L s = i ∧ L.getD i default = n ∧ L[i]? = some n := by
  unfold atD
  rw [if_neg hr]
  cases hq : L.findIdx? (fun n => decide (n.path = s)) with
  | none =>
    obtain ⟨h1, h2⟩ := fnd_some h
    have := List.findIdx?_eq_none_iff.1 hq n h1
    simp [h2] at this
  | some i =>
    have h3 : L[i]? = some n := by
      have e : L.find? (fun n => decide (n.path = s)) = some n := h
      rw [List.find?_eq_bind_findIdx?_getElem?, hq] at e
      exact e
    obtain ⟨hi, _⟩ := List.getElem?_eq_some_iff.1 h3
    exact ⟨i, hi, rfl, by rw [List.getD_eq_getElem?_getD, h3]; rfl, h3⟩
/-- put: the first place whose path is no smaller. -/
def placeD (n : Nd) (L : List Nd) : Nat := (L.takeWhile fun m => ltB m.path n.path).length
theorem put_at (n : Nd) (L : List Nd) : L.take (placeD n L) ++ [n] ++ L.drop (placeD n L) = insN n L := by
  unfold placeD
  induction L with
  | nil => rfl
  | cons m L ih =>
    unfold insN
    rw [List.takeWhile_cons]
    split
    · rename_i h
      rw [List.length_cons, List.take_succ_cons, List.drop_succ_cons, List.cons_append, List.cons_append, ih]
    · rfl
end Go.Proofs.YtiegadfhgccliaaGreatDoor
namespace Go.Proofs.YtiegadfhgccliaaGreatDoor
open Go.RowKit Go.Lib
open Go.ChangeMaps (setBlock)

theorem joinTail_take (L : List ByteArray) (k : Nat) : (joinTail [47] (raws (L.take k))).length ≤ (joinTail [47] (raws L)).length := by
  have e : raws L = raws (L.take k) ++ raws (L.drop k) := by rw [raws, raws, raws, ← List.map_append, List.take_append_drop]
  rw [e, joinTail_append, List.length_append]
  omega
theorem joinTail_snoc (L : List ByteArray) (k : Nat) (hk : k < L.length) : joinTail [47] (raws (L.take (k + 1))) = joinTail [47] (raws (L.take k)) ++ 47 :: (L.getD k default).data.toList := by
  have e : L.take (k + 1) = L.take k ++ [L.getD k default] := by
    rw [List.take_succ_eq_append_getElem hk]
    congr 2
    simp [List.getD, hk]
  rw [e, raws_append, joinTail_append]
  congr 1
  simp [joinTail, raws]
set_option maxRecDepth 100000 in
set_option maxHeartbeats 4000000 in
/-- treeringref1.Join. -/
theorem ref_join (L : List ByteArray) (a : Option Addr) (c : Nat) (w : World) (hS : SlS w a L) (hc : L.length ≤ c) (hn : L.length ≤ 1000) (hb : (joinTail [47] (raws L)).length ≤ 100000) :
    Calls Tryz.prog 75 #[.slice a L.length c] w fun e w' => e = .returned (.string (pjoin L)) ∧ w' = w := by
  by_cases h0 : L = []
  · subst h0
    have hp : pjoin [] = ⟨#[47]⟩ := pjoin_nil
    have HP := Lib.hid hp
    clear hp hS hb
    go_enter Tryz.func75, Tryz.ntmps75
    go_wp2
    go_ret
    exact ⟨by rw [HP.out]; rfl, rfl⟩
  · have hpos : 0 < L.length := List.length_pos_iff.2 h0
    have d0 : ((L.length : Int) == 0) = false := by rw [beq_eq_false_iff_ne]; omega
    have HP : Hid (pjoin L = mkB (joinTail [47] (raws (L.take L.length)))) := bytes_ext (by rw [pjoin_tail h0, mkB_toList, List.take_length])
    have HS := Lib.hid hS
    have HB := Lib.hid hb
    clear hS hb h0
    go_enter Tryz.func75, Tryz.ntmps75
    go_wp2
    go_loopw [3, 4] (fun s i wr => ∃ k : Nat, k ≤ L.length ∧ s = .string (mkB (joinTail [47] (raws (L.take k)))) ∧ i = .int .i64 (k : Int) ∧ wr = w) (fun _ i _ => L.length - (intOf i).toNat)
    case atStart => exact ⟨0, by omega, rfl, rfl, rfl⟩
    case round =>
      obtain ⟨k, hk, rfl, rfl, rfl⟩ := hrel
      by_cases hlt : k < L.length
      · obtain ⟨b, o, rfl, c0, _⟩ := HS.out.at_ hlt
        have hki : (k : Int) < (L.length : Int) := by omega
        have hkc : (k : Int) < (c : Int) := by omega
        have hsn := joinTail_snoc L k hlt
        have h1 := joinTail_take L (k + 1)
        have h2 := HB.out
        generalize hx : L.getD k default = x at *
        generalize ht : joinTail [47] (raws (L.take k)) = t at *
        have hxs : t.length + 1 + x.size ≤ 100000 := by rw [hsn, List.length_append, List.length_cons] at h1; rw [size_eq]; omega
        have hms : (mkB t).size = t.length := mkB_size t
        have HNx : Hid (mkB (joinTail [47] (raws (L.take (k + 1)))) = (mkB t ++ ⟨#[47]⟩) ++ x) := bytes_ext (by rw [mkB_toList, hsn]; simp)
        generalize mkB t = m at *
        have q1 : ¬ 9223372036854775807 < m.size + 1 := by omega
        have q2 : ¬ 9223372036854775807 < m.size + 1 + x.size := by omega
        clear hsn h1 h2 ht hx hms hxs
        go_wp2
        exact ⟨⟨k + 1, by omega, by rw [HNx.out], by go_num, trivial⟩, by simp [intOf]; omega⟩
      · obtain rfl : k = L.length := by omega
        have hlt' : decide ((L.length : Int) < (L.length : Int)) = false := by simp
        clear hlt
        go_wp2
        go_ret
        exact ⟨by rw [HP.out]; rfl, rfl⟩

/-- What lies behind a tree's two cells in its block (no text), and the block's type. -/
structure DX where
  xs : List Value
  ty : TypeId
  ns : ∀ v ∈ xs, ∀ s, v ≠ .string s
def dC (dx : DX) (s n : Value) : Array Value := (s :: n :: dx.xs).toArray
theorem dc_set0 {dx : DX} {w : World} {td : Nat} {s n : Value} {t : TypeId} {f : Nat × Nat} (h : w.heap[td]? = some (.cells (dC dx s n) t f)) (x : Value) : (w.setCell ⟨td, 0, none⟩ x).heap[td]? = some (.cells (dC dx x n) t f) := by
  rw [heap_setCell_at h 0 x]
  unfold dC
  simp
theorem dc_set1 {dx : DX} {w : World} {td : Nat} {s n : Value} {t : TypeId} {f : Nat × Nat} (h : w.heap[td]? = some (.cells (dC dx s n) t f)) (x : Value) : (w.setCell ⟨td, 1, none⟩ x).heap[td]? = some (.cells (dC dx s x) t f) := by
  rw [heap_setCell_at h 1 x]
  unfold dC
  simp
/-- A block without texts. -/
def NoStr (w : World) (b : Nat) : Prop := ∀ o s, w.cell? ⟨b, o, none⟩ ≠ some (.string s)
theorem NoStr.of_cells {w : World} {b : Nat} {cs : Array Value} {t : TypeId} {f : Nat × Nat} (h : w.heap[b]? = some (.cells cs t f)) (hn : ∀ v ∈ cs.toList, ∀ s, v ≠ .string s) : NoStr w b := by
  intro o s e
  unfold World.cell? at e
  rw [h] at e
  have e : cs[o]? = some (.string s) := by simpa using e
  have hm := Array.mem_of_getElem? e
  exact hn _ (Array.mem_toList_iff.2 hm) s rfl
theorem NoStr.of_map {w : World} {b : Nat} {es : Array MapEntry} {c : Nat} (h : w.heap[b]? = some (.map es c)) : NoStr w b := by
  intro o s e
  unfold World.cell? at e
  rw [h] at e
  simp at e
theorem NoStr.of_new {w : World} {b : Nat} (h : w.heap.size ≤ b) : NoStr w b := by
  intro o s e
  have := World.block_lt_of_cell? w _ e
  have : b < w.heap.size := this
  omega
/-- The document's tree: its struct in a block, its row of nodes, by path. -/
structure DocP (dx : DX) (w : World) (td : Nat) (T : TS) : Prop where
  ex : ∃ a c, w.heap[td]? = some (.cells (dC dx (.slice a T.L.length c) (.int .i64 T.nx)) dx.ty (0, 0)) ∧ T.L.length ≤ c ∧ SlN w a T.L
theorem DocP.lt {w : World} {td : Nat} {dx : DX} {T : TS} (h : DocP dx w td T) : td < w.heap.size := by
  obtain ⟨a, c, h1, _⟩ := h.ex
  exact (Array.getElem?_eq_some_iff.1 h1).1
theorem DocP.mk2 {w : World} {td : Nat} {dx : DX} {L : List Nd} {nx : Int} {a : Option Addr} {c : Nat} (h1 : w.heap[td]? = some (.cells (dC dx (.slice a L.length c) (.int .i64 nx)) dx.ty (0, 0))) (h2 : L.length ≤ c) (h3 : SlN w a L) : DocP dx w td ⟨L, nx⟩ :=
  ⟨⟨a, c, h1, h2, h3⟩⟩
theorem DocP.below {w w' : World} {td : Nat} {dx : DX} {T : TS} (h : DocP dx w td T) (hb : Below w.heap.size w w') : DocP dx w' td T := by
  have e := hb.block td h.lt
  obtain ⟨a, c, h1, h2, h3⟩ := h.ex
  exact ⟨⟨a, c, e.trans h1, h2, h3.below hb⟩⟩
theorem SlN.turnS {bs : List Nat} {w w' : World} {a : Option Addr} {L : List Nd} (h : SlN w a L) (ht : Turn bs w w') (h2 : ∀ b ∈ bs, NoStr w b) : SlN w' a L := by
  cases L with
  | nil => exact .inl rfl
  | cons n r =>
    rcases h with h | ⟨b, o, e, hr⟩
    · cases h
    · obtain ⟨c0, _⟩ := hr.at_ 0 (by simp)
      exact .inr ⟨b, o, e, hr.turn ht fun hb => h2 b hb _ _ c0⟩
theorem dc_nostr {w : World} {td : Nat} {dx : DX} {a : Option Addr} {n c : Nat} {k : IntKind} {x : Int} {t : TypeId} {f : Nat × Nat} (h : w.heap[td]? = some (.cells (dC dx (.slice a n c) (.int k x)) t f)) : NoStr w td := by
  refine .of_cells h fun v hv s e => ?_
  subst e
  unfold dC at hv
  simp at hv
  exact dx.ns _ hv s rfl
theorem DocP.nostr {w : World} {td : Nat} {dx : DX} {T : TS} (h : DocP dx w td T) : NoStr w td := by
  obtain ⟨a, c, h1, _⟩ := h.ex
  exact dc_nostr h1
theorem DocP.turn {bs : List Nat} {w w' : World} {td : Nat} {dx : DX} {T : TS} (h : DocP dx w td T) (ht : Turn bs w w') (h1 : td ∉ bs) (h2 : ∀ b ∈ bs, NoStr w b) : DocP dx w' td T := by
  have e := ht.block td h.lt h1
  obtain ⟨a, c, g1, g2, g3⟩ := h.ex
  exact ⟨⟨a, c, e.trans g1, g2, g3.turnS ht h2⟩⟩
set_option maxRecDepth 100000 in
set_option maxHeartbeats 4000000 in
/-- At. -/
theorem doc_at (s : ByteArray) (w : World) {td : Nat} {dx : DX} {T : TS} (hT : DocP dx w td T) (hn : T.L.length ≤ 1000000) :
    Calls Tryz.prog 74 #[.pointer (some ⟨td, 0, none⟩), .string s] w fun e w' => e = .returned (.int .i64 (atD T.L s)) ∧ w' = w := by
  obtain ⟨a, c, h1, hc, hS⟩ := hT.ex
  have c0 : w.cell? ⟨td, 0, none⟩ = some (.slice a T.L.length c) := by unfold World.cell?; rw [h1]; rfl
  have hroot := beq_bytes s rootP
  have e47 : rootP.toList = [47] := by rw [toList_data]; rfl
  rw [e47] at hroot
  have HS := Lib.hid hS
  clear hT h1 hS e47
  by_cases hr : s = rootP
  · have HA : Hid (atD T.L s = -2) := by unfold atD; rw [if_pos hr]; exact Lib.hid rfl
    rw [decide_eq_true hr] at hroot
    clear hr
    go_enter Tryz.func74, Tryz.ntmps74
    go_wp2
    go_ret
    exact ⟨by rw [HA.out]; rfl, rfl⟩
  · rw [decide_eq_false hr] at hroot
    have HR := Lib.hid hr
    clear hr
    generalize hL : T.L = L at *
    clear hL
    go_enter Tryz.func74, Tryz.ntmps74
    go_wp2
    go_loopw [5] (fun i wr => ∃ k : Nat, k ≤ L.length ∧ i = .int .i64 (k : Int) ∧ wr = w ∧ Hid (∀ j, j < k → (L.getD j default).path ≠ s)) (fun i _ => L.length - (intOf i).toNat)
    case atStart => exact ⟨0, by omega, rfl, rfl, Lib.hid fun j hj => by omega⟩
    case round =>
      obtain ⟨k, hk, rfl, rfl, HF⟩ := hrel
      by_cases hlt : k < L.length
      · obtain ⟨b, o, rfl, p0, _, _, _⟩ := HS.out.at_ hlt
        have hki : (k : Int) < (L.length : Int) := by omega
        have hkc : (k : Int) < (c : Int) := by omega
        by_cases he : (L.getD k default).path = s
        · have HA : Hid (atD L s = k) := by
            unfold atD
            rw [if_neg HR.out]
            have h5 : L.findIdx? (fun n => decide (n.path = s)) = some k := by
              rw [List.findIdx?_eq_some_iff_getElem]
              refine ⟨hlt, by have e : L[k] = L.getD k default := by simp [List.getD, hlt]
                              rw [e]; simpa using he, fun j hj => ?_⟩
              have e : L[j]'(by omega) = L.getD j default := by simp [List.getD, show j < L.length by omega]
              rw [e]
              simpa using HF.out j hj
            rw [h5]
            exact Lib.hid rfl
          generalize (L.getD k default).path = np at *
          subst he
          clear HF
          go_wp2
          go_ret
          exact ⟨by rw [HA.out]; rfl, rfl⟩
        · generalize hnp : (L.getD k default).path = np at *
          have HF2 : Hid (∀ j, j < k + 1 → (L.getD j default).path ≠ s) := fun j hj => by
            by_cases e : j = k
            · subst e; rw [hnp]; exact he
            · exact HF.out j (by omega)
          have hbq : (np.toList == s.toList) = false := by rw [beq_bytes]; exact decide_eq_false he
          clear hnp HF he
          go_wp2
          exact ⟨⟨k + 1, by omega, by go_num, trivial, HF2⟩, by simp [intOf]; omega⟩
      · obtain rfl : k = L.length := by omega
        have HA : Hid (atD L s = -1) := by
          refine Lib.hid (atD_none HR.out ?_)
          unfold fnd
          rw [List.find?_eq_none]
          intro n hn2
          obtain ⟨j, hj, rfl⟩ := List.getElem_of_mem hn2
          have e : L[j] = L.getD j default := by simp [List.getD, hj]
          rw [e]
          simpa using HF.out j hj
        have hlt' : decide ((L.length : Int) < (L.length : Int)) = false := by simp
        clear hlt HF
        go_wp2
        go_ret
        exact ⟨by rw [HA.out]; rfl, rfl⟩
end Go.Proofs.YtiegadfhgccliaaGreatDoor
namespace Go.Proofs.YtiegadfhgccliaaGreatDoor
open Go.RowKit

set_option maxHeartbeats 1000000 in
theorem rname_any (s : ByteArray) (hs : s.size ≤ maxLen) (w : World) :
    Calls Tryz.prog 80 #[.string s] w fun e w' => e = .returned (.bool (nameOk s)) ∧ w = w' := by
  unfold maxLen at hs
  by_cases h1 : 1 ≤ s.size
  · have d1 : decide ((s.size : Int) < 1) = false := by simp; omega
    by_cases h2 : s.size ≤ 16
    · have d2 : decide ((16 : Int) < (s.size : Int)) = false := by simp; omega
      cases d3 : (s.toList == [46])
      · cases d4 : (s.toList == [46, 46])
        · have hfin : nameOk s = s.data.toList.all nameByte := by unfold nameOk; rw [d3, d4]; simp [h1, h2]
          go_enter Tryz.func80, Tryz.ntmps80
          go_wp2
          go_loop [3] (fun i => ∃ k : Nat, k ≤ s.size ∧ i = .int .i64 k ∧ (s.data.toList.take k).all nameByte = true) (fun i => s.size - (intOf i).toNat)
          case atStart => exact ⟨0, by omega, rfl, rfl⟩
          case round =>
            obtain ⟨k, hk, rfl, hall⟩ := hrel
            by_cases hlt : k < s.size
            · have hts := take_snoc s k hlt
              have hb := all_bad s k hlt nameByte
              have HA : Hid (nameByte s[k] = true → (s.data.toList.take (k + 1)).all nameByte = true) := by intro h; rw [hts, List.all_append, hall]; simp [h]
              have HB : Hid (nameByte s[k] = false → nameOk s = false) := fun h => by rw [hfin]; exact hb h
              clear hts hb hall hfin
              rcases nameByte_cases s[k] with ⟨c0, c1, c2, c3⟩ | ⟨c0, c1⟩ | ⟨c0, c1, c2⟩ | ⟨c0, c1, c2, c3⟩
              · go_wp2
                exact ⟨⟨k + 1, by omega, by go_num, HA.out c0⟩, by simp [intOf]; omega⟩
              all_goals
                go_wp2
                go_ret
                exact ⟨by rw [HB.out c0]; rfl, rfl⟩
            · have hk2 : nameOk s = true := by rw [hfin, ← hall, List.take_of_length_le (by simp; omega)]
              clear hfin hall
              go_wp2
              go_ret
              exact ⟨rfl, rfl⟩
        · go_enter Tryz.func80, Tryz.ntmps80
          go_wp2
          all_goals (go_ret; exact ⟨by simp [nameOk, d4], rfl⟩)
      · go_enter Tryz.func80, Tryz.ntmps80
        go_wp2
        all_goals (go_ret; exact ⟨by simp [nameOk, d3], rfl⟩)
    · have d2 : decide ((16 : Int) < (s.size : Int)) = true := by simp; omega
      go_enter Tryz.func80, Tryz.ntmps80
      go_wp2
      all_goals (go_ret; exact ⟨by simp [nameOk, h2], rfl⟩)
  · have d1 : decide ((s.size : Int) < 1) = true := by simp; omega
    go_enter Tryz.func80, Tryz.ntmps80
    go_wp2
    all_goals (go_ret; exact ⟨by simp [nameOk, h1], rfl⟩)
end Go.Proofs.YtiegadfhgccliaaGreatDoor
namespace Go.Proofs.YtiegadfhgccliaaGreatDoor
open Go.RowKit Go.Lib

/-- The parts behind the first sign. -/
def refOf : List UInt8 → List (List UInt8)
  | [] => []
  | _ :: q => pieces q
theorem refOf_slash (p : List UInt8) : refOf (p ++ [47]) = refOf p ++ [[]] := by
  cases p with
  | nil => rfl
  | cons c q => exact pieces_snoc_slash q
theorem refOf_sign {c : UInt8} (h : c ≠ 47) (p : List UInt8) (hp : p ≠ []) : refOf (p ++ [c]) = (refOf p).dropLast ++ [(refOf p).getLastD [] ++ [c]] := by
  cases p with
  | nil => exact absurd rfl hp
  | cons d q => exact pieces_snoc_sign h q
def refB (s : ByteArray) (k : Nat) : List ByteArray := (refOf (s.data.toList.take k)).map mkB
theorem refB_zero (s : ByteArray) : refB s 0 = [] := rfl
theorem refB_slash {s : ByteArray} {k : Nat} (hk : k < s.size) (h : s[k] = 47) : refB s (k + 1) = refB s k ++ [⟨#[]⟩] := by
  unfold refB
  rw [take_snoc s k hk, h, refOf_slash, List.map_append]; rfl
theorem refB_sign {s : ByteArray} {k : Nat} (hk : k < s.size) (h : s[k] ≠ 47) (h0 : 0 < k) : ∃ x, (refB s k)[(refB s k).length - 1]? = some x ∧ refB s (k + 1) = (refB s k).set ((refB s k).length - 1) (x ++ mkB [s[k]]) := by
  have hne : s.data.toList.take k ≠ [] := by
    intro e
    have := congrArg List.length e
    rw [List.length_take, ← size_eq, List.length_nil] at this
    omega
  have hr : refOf (s.data.toList.take k) ≠ [] := by
    cases hp : s.data.toList.take k with
    | nil => exact absurd hp hne
    | cons c q => exact pieces_ne q
  unfold refB
  rw [take_snoc s k hk, refOf_sign h _ hne]
  generalize refOf (s.data.toList.take k) = R at hr
  obtain ⟨l, a, rfl⟩ : ∃ l a, R = l ++ [a] := ⟨R.dropLast, R.getLast hr, (List.dropLast_concat_getLast hr).symm⟩
  refine ⟨mkB a, by simp, ?_⟩
  simp
  apply bytes_ext; simp
theorem refB_len (s : ByteArray) : ∀ k, (refB s k).length ≤ k
  | 0 => by simp [refB_zero]
  | k + 1 => by
    have ih := refB_len s k
    by_cases hk : k < s.size
    · by_cases h : s[k] = 47
      · rw [refB_slash hk h]; simp; omega
      · by_cases h0 : 0 < k
        · obtain ⟨x, _, e⟩ := refB_sign hk h h0
          rw [e]; simp; omega
        · have : k = 0 := by omega
          subst this
          have h1 : s.data.toList.take (0 + 1) = [s[0]] := by rw [take_snoc s 0 hk]; simp
          unfold refB
          rw [h1]
          simp [refOf, pieces]
    · have : s.data.toList.take (k + 1) = s.data.toList.take k := by
        rw [List.take_of_length_le (by rw [← size_eq]; omega), List.take_of_length_le (by rw [← size_eq]; omega)]
      unfold refB at *
      rw [this]; omega
theorem refB_all {s : ByteArray} (h : s.data.toList = 47 :: s.data.toList.tail) : refB s s.size = partsOf (s.extract 1 s.size) := by
  unfold refB partsOf
  rw [extract_tail, List.take_of_length_le (by rw [size_eq]; exact Nat.le_refl _)]
  conv => lhs; rw [h]
  rfl
theorem refB_size (s : ByteArray) : ∀ k (x : ByteArray), x ∈ refB s k → x.size ≤ k
  | 0, x, h => by simp [refB_zero] at h
  | k + 1, x, h => by
    have ih := refB_size s k
    by_cases hk : k < s.size
    · by_cases h47 : s[k] = 47
      · rw [refB_slash hk h47] at h
        rcases List.mem_append.1 h with h | h
        · have := ih x h; omega
        · simp at h; subst h; simp [ByteArray.size]
      · by_cases h0 : 0 < k
        · obtain ⟨y, hy, e⟩ := refB_sign hk h47 h0
          rw [e] at h
          rcases List.mem_or_eq_of_mem_set h with h | h
          · have := ih x h; omega
          · subst h
            have := ih y (List.mem_of_getElem? hy)
            have e1 : (mkB [s[k]]).size = 1 := rfl
            rw [ByteArray.size_append, e1]; omega
        · have : k = 0 := by omega
          subst this
          have h1 : s.data.toList.take (0 + 1) = [s[0]] := by rw [take_snoc s 0 hk]; simp
          unfold refB at h
          rw [h1] at h
          simp [refOf, pieces] at h
          subst h; simp [ByteArray.size]
    · have : s.data.toList.take (k + 1) = s.data.toList.take k := by
        rw [List.take_of_length_le (by rw [← size_eq]; omega), List.take_of_length_le (by rw [← size_eq]; omega)]
      unfold refB at h ih
      rw [this] at h
      have := ih x h; omega

theorem info_str : (Tryz.prog.info? 9).map (fun i => (i.zero, i.size, i.bytes)) = some (some (.string ByteArray.empty), 1, 16) := by kernel_rfl
end Go.Proofs.YtiegadfhgccliaaGreatDoor
