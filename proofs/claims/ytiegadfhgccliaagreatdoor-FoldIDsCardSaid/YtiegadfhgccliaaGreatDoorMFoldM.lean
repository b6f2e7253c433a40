/- States in memory. -/
import Derived.Test.YtiegadfhgccliaaGreatDoorMRowK
import Derived.Test.YtiegadfhgccliaaGreatDoorMStateI
namespace Go.Proofs.YtiegadfhgccliaaGreatDoor
open Go.RowKit Go.Lib
open Go.ChangeMaps (setBlock)

/-- A body as a map's element: its size, its row of parts. -/
abbrev bdV (bd : Bd) (a : Option Addr) (c : Nat) : Value := .agg #[.int .i64 bd.size, .slice a bd.parts.length c]
/-- No three whole numbers stand in a row here: no row of parts. -/
def NoInt3 (w : World) (b : Nat) : Prop := ∀ o x y z, ¬ (w.cell? ⟨b, o, none⟩ = some (.int .i64 x) ∧ w.cell? ⟨b, o + 1, none⟩ = some (.int .i64 y) ∧ w.cell? ⟨b, o + 2, none⟩ = some (.int .i64 z))
theorem NoInt3.of_map {w : World} {b : Nat} {es : Array MapEntry} {c : Nat} (h : w.heap[b]? = some (.map es c)) : NoInt3 w b := by
  rintro o x y z ⟨e, _⟩
  unfold World.cell? at e
  rw [h] at e
  simp at e
theorem NoInt3.of_new {w : World} {b : Nat} (h : w.heap.size ≤ b) : NoInt3 w b := by
  rintro o x y z ⟨e, _⟩
  have := World.block_lt_of_cell? w _ e
  have : b < w.heap.size := this
  omega
/-- A struct of two or three cells whose second, or third, is no number. -/
theorem NoInt3.of_short {w : World} {b : Nat} {cs : Array Value} {t : TypeId} {f : Nat × Nat} (h : w.heap[b]? = some (.cells cs t f)) (hn : cs.size ≤ 3) (h0 : ∀ x, cs[0]? ≠ some (.int .i64 x)) : NoInt3 w b := by
  rintro o x y z ⟨e, _, e2⟩
  unfold World.cell? at e e2
  rw [h] at e e2
  have e : cs[o]? = some (.int .i64 x) := by simpa using e
  have e2 : cs[o + 2]? = some (.int .i64 z) := by simpa using e2
  have := (Array.getElem?_eq_some_iff.1 e2).1
  obtain rfl : o = 0 := by omega
  exact h0 x e
theorem NoInt3.of_two {w : World} {b : Nat} {cs : Array Value} {t : TypeId} {f : Nat × Nat} (h : w.heap[b]? = some (.cells cs t f)) (hn : cs.size ≤ 2) : NoInt3 w b := by
  rintro o x y z ⟨_, _, e2⟩
  unfold World.cell? at e2
  rw [h] at e2
  have e2 : cs[o + 2]? = some (.int .i64 z) := by simpa using e2
  have := (Array.getElem?_eq_some_iff.1 e2).1
  omega
theorem SlPt.turnP {bs : List Nat} {w w' : World} {a : Option Addr} {L : List Bp} (h : SlPt w a L) (ht : Turn bs w w') (h2 : ∀ b ∈ bs, NoInt3 w b) : SlPt w' a L := by
  cases L with
  | nil => exact .inl rfl
  | cons n r =>
    rcases h with h | ⟨b, o, e, hr⟩
    · cases h
    · have c0 := hr.at_ 0 (by simp) 0 _ rfl
      have c1 := hr.at_ 0 (by simp) 1 _ rfl
      have c2 := hr.at_ 0 (by simp) 2 _ rfl
      exact .inr ⟨b, o, e, hr.turn ht fun hb => h2 b hb _ _ _ _ ⟨c0, c1, c2⟩⟩
/-- The block of a row. -/
def abl (fa : Option Addr) : List Nat := match fa with
  | some a => [a.block]
  | none => []
/-- A block whose elements are parts. -/
def PtB (w : World) (b : Nat) : Prop := ∃ cur t, w.heap[b]? = some (.cells cur t (0, 0)) ∧ (t = 40 ∨ t = 87)
def NoPt (w : World) (b : Nat) : Prop := ¬ PtB w b
theorem NoPt.of_map {w : World} {b : Nat} {es : Array MapEntry} {c : Nat} (h : w.heap[b]? = some (.map es c)) : NoPt w b := by
  rintro ⟨cur, t, e, _⟩
  rw [h] at e
  cases e
theorem NoPt.of_new {w : World} {b : Nat} (h : w.heap.size ≤ b) : NoPt w b := by
  rintro ⟨cur, t, e, _⟩
  have := (Array.getElem?_eq_some_iff.1 e).1
  omega
theorem NoPt.of_cells {w : World} {b : Nat} {cs : Array Value} {t : TypeId} {f : Nat × Nat} (h : w.heap[b]? = some (.cells cs t f)) (h1 : t ≠ 40) (h2 : t ≠ 87) : NoPt w b := by
  rintro ⟨cur, t', e, ht⟩
  rw [h] at e
  injection e with e
  injection e with _ e2 _
  subst e2
  rcases ht with ht | ht
  · exact h1 ht
  · exact h2 ht
/-- A row of parts that a call has made. -/
structure SlPo (w : World) (a : Option Addr) (L : List Bp) : Prop where
  s : SlPt w a L
  o : ∀ x ∈ abl a, PtB w x
theorem SlPo.nil (w : World) : SlPo w none [] := ⟨.inl rfl, by simp [abl]⟩
theorem PtB.lt {w : World} {b : Nat} (h : PtB w b) : b < w.heap.size := by
  obtain ⟨_, _, e, _⟩ := h
  exact (Array.getElem?_eq_some_iff.1 e).1
theorem PtB.of_block {w w' : World} {b : Nat} (h : PtB w b) (e : w'.heap[b]? = w.heap[b]?) : PtB w' b := by
  obtain ⟨cur, t, e1, ht⟩ := h
  exact ⟨cur, t, e.trans e1, ht⟩
theorem SlPo.turnP {bs : List Nat} {w w' : World} {a : Option Addr} {L : List Bp} (h : SlPo w a L) (ht : Turn bs w w') (h2 : ∀ b ∈ bs, NoPt w b) : SlPo w' a L := by
  have hn : ∀ x ∈ abl a, x ∉ bs := fun x hx hb => h2 x hb (h.o x hx)
  exact ⟨SlK.turn h.s ht fun b o e => hn b (by rw [e]; simp [abl]), fun x hx => (h.o x hx).of_block (ht.block x (h.o x hx).lt (hn x hx))⟩
theorem SlPo.below {w w' : World} {a : Option Addr} {L : List Bp} (h : SlPo w a L) (hb : Below w.heap.size w w') : SlPo w' a L := h.turnP (bs := []) (.of_below hb) (by simp)
theorem SlPo.of_heap {w w' : World} {a : Option Addr} {L : List Bp} (h : SlPo w a L) (e : w'.heap = w.heap) : SlPo w' a L := by
  refine ⟨?_, fun x hx => (h.o x hx).of_block (by rw [e])⟩
  rcases h.s with hs | ⟨x, o, e1, hr⟩
  · exact .inl hs
  · refine .inr ⟨x, o, e1, ⟨fun k hk j u hu => ?_, by rw [e]; exact hr.lt⟩⟩
    have := hr.at_ k hk j u hu
    unfold World.cell? at this ⊢
    rw [e]; exact this
theorem NoPt.of_block {w w' : World} {b : Nat} (h : NoPt w b) (e : w'.heap[b]? = w.heap[b]?) : NoPt w' b := fun hp => h (hp.of_block e.symm)
theorem SlPo.own {w : World} {base : Nat} {e : TypeId} {v : Value} {L : List Bp} (h : w.ownsRow base e 4 v L.length (encP.cells L)) (he : e = 40 ∨ e = 87) : ∃ a c, v = .slice a L.length c ∧ L.length ≤ c ∧ SlPo w a L ∧ (∀ b o, a = some ⟨b, o, none⟩ → base ≤ b) := by
  obtain ⟨a, c, hv, hc, hS, hb⟩ := SlK.own (E := encP) h
  refine ⟨a, c, hv, hc, ⟨hS, fun x hx => ?_⟩, hb⟩
  rcases h.2 with ⟨e1, _⟩ | ⟨g, cap, cur, e1, _, hg, _⟩
  · rw [e1] at hv
    obtain ⟨rfl, _, _⟩ := Value.slice.inj hv
    simp [abl] at hx
  · rw [e1] at hv
    obtain ⟨rfl, _, _⟩ := Value.slice.inj hv
    simp [abl] at hx
    subst hx
    exact ⟨cur, e, hg, he⟩
structure FileM where
  id : Int
  bd : Bd
  a : Option Addr
  c : Nat
abbrev FileM.pair (f : FileM) : Int × Bd := (f.id, f.bd)
abbrev FileM.ent (f : FileM) : Int × Value := (f.id, bdV f.bd f.a f.c)
def FileM.ok (w : World) (f : FileM) : Prop := SlPo w f.a f.bd.parts ∧ f.bd.parts.length ≤ f.c
/-- A state: its struct, its tree (struct, map), its map of bodies. -/
structure FoldP (w : World) (sb tb mb lb : Nat) (S : FS) : Prop where
  c : w.heap[sb]? = some (.cells #[.pointer (some ⟨tb, 0, none⟩), .map (some lb)] 80 (0, 0))
  t : TreeP w tb mb S.t
  f : ∃ F : List FileM, (F.map FileM.pair).Perm S.fs ∧ MapIs intKey w lb (F.map FileM.ent) ∧ ∀ f ∈ F, f.ok w
  n : mb ≠ lb
theorem FoldP.cells {w : World} {sb tb mb lb : Nat} {S : FS} (h : FoldP w sb tb mb lb S) : w.cell? ⟨sb, 0, none⟩ = some (.pointer (some ⟨tb, 0, none⟩)) ∧ w.cell? ⟨sb, 1, none⟩ = some (.map (some lb)) := by
  unfold World.cell?
  rw [h.c]
  exact ⟨rfl, rfl⟩
theorem FoldP.lt {w : World} {sb tb mb lb : Nat} {S : FS} (h : FoldP w sb tb mb lb S) : sb < w.heap.size ∧ tb < w.heap.size ∧ mb < w.heap.size ∧ lb < w.heap.size := by
  obtain ⟨h1, h2, _⟩ := h.t.lt
  obtain ⟨F, _, h3, _⟩ := h.f
  exact ⟨(Array.getElem?_eq_some_iff.1 h.c).1, h1, h2, h3.lt⟩
theorem FoldP.maps {w : World} {sb tb mb lb : Nat} {S : FS} (h : FoldP w sb tb mb lb S) : NoInt3 w tb ∧ NoInt3 w mb ∧ NoInt3 w lb ∧ sb ≠ tb ∧ sb ≠ mb ∧ sb ≠ lb ∧ tb ≠ mb ∧ tb ≠ lb := by
  obtain ⟨L, _, hA⟩ := h.t
  obtain ⟨es, clock, hb, _⟩ := hA.map
  obtain ⟨F, _, ⟨es2, clock2, hb2, _⟩, _⟩ := h.f
  have hc := h.c
  have ht := hA.cells
  refine ⟨.of_short ht (by simp) (by simp), .of_map hb, .of_map hb2, ?_, ?_, ?_, ?_, ?_⟩
  · intro e; rw [e, ht] at hc; simp at hc
  · intro e; rw [e, hb] at hc; cases hc
  · intro e; rw [e, hb2] at hc; cases hc
  · intro e; rw [e, hb] at ht; cases ht
  · intro e; rw [e, hb2] at ht; cases ht
theorem FoldP.nopt {w : World} {sb tb mb lb : Nat} {S : FS} (h : FoldP w sb tb mb lb S) : NoPt w sb ∧ NoPt w tb ∧ NoPt w mb ∧ NoPt w lb := by
  obtain ⟨L, _, hA⟩ := h.t
  obtain ⟨es, clock, hb, _⟩ := hA.map
  obtain ⟨F, _, ⟨es2, clock2, hb2, _⟩, _⟩ := h.f
  exact ⟨.of_cells h.c (by decide) (by decide), .of_cells hA.cells (by decide) (by decide), .of_map hb, .of_map hb2⟩
theorem FoldP.nopt3 {w : World} {sb tb mb lb : Nat} {S : FS} (h : FoldP w sb tb mb lb S) : ∀ b ∈ [tb, mb, lb], NoPt w b := by
  obtain ⟨_, h1, h2, h3⟩ := h.nopt
  intro b hb
  simp only [List.mem_cons, List.not_mem_nil, or_false] at hb
  rcases hb with rfl | rfl | rfl
  · exact h1
  · exact h2
  · exact h3
theorem FoldP.turn {bs : List Nat} {w w' : World} {sb tb mb lb : Nat} {S : FS} (h : FoldP w sb tb mb lb S) (ht : Turn bs w w') (h1 : sb ∉ bs) (h2 : tb ∉ bs) (h3 : mb ∉ bs) (h4 : lb ∉ bs) (h5 : ∀ b ∈ bs, NoPt w b) : FoldP w' sb tb mb lb S := by
  have hsb : sb < w.heap.size := (Array.getElem?_eq_some_iff.1 h.c).1
  obtain ⟨F, f1, f2, f3⟩ := h.f
  exact ⟨(ht.block sb hsb h1).trans h.c, h.t.turn ht h2 h3, ⟨F, f1, f2.of_block (ht.block lb f2.lt h4), fun f hf => ⟨(f3 f hf).1.turnP ht h5, (f3 f hf).2⟩⟩, h.n⟩
theorem FoldP.below {w w' : World} {sb tb mb lb : Nat} {S : FS} (h : FoldP w sb tb mb lb S) (hb : Below w.heap.size w w') : FoldP w' sb tb mb lb S := h.turn (bs := []) (.of_below hb) (by simp) (by simp) (by simp) (by simp) (by simp)
/-- What its tree's methods turn. -/
theorem FoldP.tree {w w' : World} {sb tb mb lb : Nat} {S : FS} {T' : TS} (h : FoldP w sb tb mb lb S) (ht : Turn [tb, mb] w w') (hT : TreeP w' tb mb T') : FoldP w' sb tb mb lb ⟨T', S.fs⟩ := by
  obtain ⟨_, _, _, n4, n5, n6, n7, n8⟩ := h.maps
  obtain ⟨_, n1, n2, _⟩ := h.nopt
  obtain ⟨l1, l2, l3, l4⟩ := h.lt
  have hn := h.n
  obtain ⟨F, f1, f2, f3⟩ := h.f
  refine ⟨(ht.block sb l1 (by simp; omega)).trans h.c, hT, ⟨F, f1, f2.of_block (ht.block lb l4 (by simp; omega)), fun f hf => ⟨(f3 f hf).1.turnP ht ?_, (f3 f hf).2⟩⟩, h.n⟩
  intro b hb
  simp only [List.mem_cons, List.not_mem_nil, or_false] at hb
  rcases hb with rfl | rfl
  · exact n1
  · exact n2
theorem zero_bd (w : World) : (zeroValue 47).run Tryz.prog w = .ok (.agg #[.int .i64 0, .slice none 0 0]) w := by kernel_rfl
theorem look_files {F : List FileM} {id : Int} : look id (F.map FileM.ent) = ((F.find? fun f => decide (f.id = id)).map fun f => bdV f.bd f.a f.c) ∧ bodyOf (F.map FileM.pair) id = (F.find? fun f => decide (f.id = id)).map (·.bd) := by
  unfold look bodyOf
  rw [List.find?_map, List.find?_map, Option.map_map, Option.map_map]
  exact ⟨rfl, rfl⟩
/-- 's.l[id]', 'b, ok := s.l[id]'. -/
theorem FoldP.look {w : World} {sb tb mb lb : Nat} {S : FS} (h : FoldP w sb tb mb lb S) (ho : S.fs.Pairwise fun a b => a.1 ≠ b.1) (id : Int) :
    ∃ a c, SlPt w a ((bodyOf S.fs id).getD default).parts ∧ ((bodyOf S.fs id).getD default).parts.length ≤ c ∧
      (∀ W : World, W.heap[lb]? = w.heap[lb]? → (Instr.lookup 78 (.map (some lb)) (.int .i64 id) false).run Tryz.prog W = .ok (.agg #[.int .i64 ((bodyOf S.fs id).getD default).size, .slice a ((bodyOf S.fs id).getD default).parts.length c]) W) ∧
      (∀ W : World, W.heap[lb]? = w.heap[lb]? → (Instr.lookup 78 (.map (some lb)) (.int .i64 id) true).run Tryz.prog W = .ok (.tuple #[.agg #[.int .i64 ((bodyOf S.fs id).getD default).size, .slice a ((bodyOf S.fs id).getD default).parts.length c], .bool (bodyOf S.fs id).isSome]) W) := by
  obtain ⟨F, f1, f2, f3⟩ := h.f
  have hb := bodyOf_perm ho f1 id
  obtain ⟨g1, g2⟩ := look_files (F := F) (id := id)
  rw [g2] at hb
  have r1 := fun W (hW : W.heap[lb]? = w.heap[lb]?) => run_look (P := Tryz.prog) intKey (w := W) (f2.of_block hW) Tryz.underlying78 Tryz.underlying3 (zero_bd W) id
  have r2 := fun W (hW : W.heap[lb]? = w.heap[lb]?) => run_look_ok (P := Tryz.prog) intKey (w := W) (f2.of_block hW) Tryz.underlying78 Tryz.underlying3 (zero_bd W) id
  rw [g1] at r1 r2
  rw [← hb]
  cases hf : F.find? fun f => decide (f.id = id) with
  | none =>
    rw [hf] at r1 r2
    exact ⟨none, 0, .inl rfl, Nat.le_refl _, r1, r2⟩
  | some f =>
    rw [hf] at r1 r2
    obtain ⟨k1, k2⟩ := f3 f (List.mem_of_find?_eq_some hf)
    exact ⟨f.a, f.c, k1.s, k2, r1, r2⟩
def putF (fs : List (Int × Bd)) (id : Int) (b : Bd) : List (Int × Bd) := if fs.any (fun p => decide (p.1 = id)) then setF fs id b else fs ++ [(id, b)]
theorem putF_has {fs : List (Int × Bd)} {id : Int} {c : Bd} (h : (id, c) ∈ fs) (b : Bd) : putF fs id b = setF fs id b := by
  unfold putF
  rw [if_pos (List.any_eq_true.2 ⟨_, h, by simp⟩)]
theorem putF_new {fs : List (Int × Bd)} {id : Int} (h : ∀ f ∈ fs, f.1 ≠ id) (b : Bd) : putF fs id b = fs ++ [(id, b)] := by
  unfold putF
  rw [if_neg (by rw [List.any_eq_true]; rintro ⟨x, hx, e⟩; exact h x hx (by simpa using e))]
theorem SlPo.set {w : World} {lb : Nat} {o : Obj} {a : Option Addr} {L : List Bp} (h : SlPo w a L) (hn : NoPt w lb) : SlPo (setBlock w lb o) a L :=
  h.turnP (bs := [lb]) ((Turn.refl _ _).setBlock (.inl (by simp)) o) (by simpa using hn)
/-- 's.l[id] = b'. -/
theorem FoldP.put {w : World} {sb tb mb lb : Nat} {S : FS} (h : FoldP w sb tb mb lb S) (id : Int) (b : Bd) {a : Option Addr} {c : Nat} (hS : SlPo w a b.parts) (hc : b.parts.length ≤ c) :
    ∃ ob, ∀ W : World, W.heap = w.heap → (Instr.mapUpdate 78 (.map (some lb)) (.int .i64 id) (.agg #[.int .i64 b.size, .slice a b.parts.length c])).run Tryz.prog W = .ok () (setBlock W lb ob) ∧ FoldP (setBlock W lb ob) sb tb mb lb ⟨S.t, putF S.fs id b⟩ := by
  obtain ⟨n1, n2, n3, n4, n5, n6, n7, n8⟩ := h.maps
  have hn := h.n
  obtain ⟨F, f1, f2, f3⟩ := h.f
  obtain ⟨ob, hput⟩ := run_put (P := Tryz.prog) intKey f2 Tryz.underlying78 Tryz.underlying3 id (bdV b a c)
  refine ⟨ob, fun W hW => ?_⟩
  obtain ⟨p1, p2⟩ := hput W (by rw [hW])
  have hcell : ∀ p, W.cell? p = w.cell? p := fun p => by unfold World.cell?; rw [hW]
  have hslW : ∀ {a : Option Addr} {L : List Bp}, SlPo w a L → SlPo W a L := fun {a L} hs => hs.of_heap hW
  have n3W : NoPt W lb := h.nopt.2.2.2.of_block (by rw [hW])
  refine ⟨p1, ⟨(heap_setBlock_ne _ _ _ _ n6).trans (by rw [hW]; exact h.c), ?_, ?_, h.n⟩⟩
  · obtain ⟨L, hp, hA⟩ := h.t
    exact ⟨L, hp, ⟨(heap_setBlock_ne _ _ _ _ n8).trans (by rw [hW]; exact hA.cells), hA.map.of_block ((heap_setBlock_ne _ _ _ _ hn).trans (by rw [hW]))⟩⟩
  · have hany : S.fs.any (fun p => decide (p.1 = id)) = F.any fun f => decide (f.id = id) := by
      rw [← f1.any_eq, List.any_map]; rfl
    have hany2 : (F.map FileM.ent).any (fun p => decide (p.1 = id)) = F.any fun f => decide (f.id = id) := by rw [List.any_map]; rfl
    cases hx : F.any fun f => decide (f.id = id) with
    | true =>
      refine ⟨F.map fun f => if f.id = id then ⟨id, b, a, c⟩ else f, ?_, ?_, ?_⟩
      · show _root_.List.Perm _ (putF S.fs id b)
        unfold putF
        rw [hany, hx, if_pos rfl]
        unfold setF
        rw [List.map_map]
        have e : (FileM.pair ∘ fun f => if f.id = id then (⟨id, b, a, c⟩ : FileM) else f) = (fun f : Int × Bd => if f.1 = id then (id, b) else f) ∘ FileM.pair := by
          funext f
          show FileM.pair (if f.id = id then _ else f) = if f.id = id then (id, b) else f.pair
          split <;> rfl
        rw [e, ← List.map_map]
        exact f1.map _
      · have e : (F.map fun f => if f.id = id then (⟨id, b, a, c⟩ : FileM) else f).map FileM.ent = mput id (bdV b a c) (F.map FileM.ent) := by
          unfold mput
          rw [hany2, hx, if_pos rfl, List.map_map, List.map_map]
          refine List.map_congr_left fun f _ => ?_
          show FileM.ent (if f.id = id then _ else f) = if f.id = id then (id, bdV b a c) else f.ent
          split <;> rfl
        rw [e]; exact p2
      · intro f hf
        obtain ⟨g, hg, rfl⟩ := List.mem_map.1 hf
        by_cases e : g.id = id
        · rw [if_pos e]; exact ⟨(hslW hS).set n3W, hc⟩
        · rw [if_neg e]; exact ⟨(hslW (f3 g hg).1).set n3W, (f3 g hg).2⟩
    | false =>
      refine ⟨F ++ [⟨id, b, a, c⟩], ?_, ?_, ?_⟩
      · show _root_.List.Perm _ (putF S.fs id b)
        unfold putF
        rw [hany, hx, if_neg (by decide), List.map_append]
        exact f1.append_right _
      · have e : (F ++ [(⟨id, b, a, c⟩ : FileM)]).map FileM.ent = mput id (bdV b a c) (F.map FileM.ent) := by
          unfold mput
          rw [hany2, hx, if_neg (by decide), List.map_append]
          rfl
        rw [e]; exact p2
      · intro f hf
        rcases List.mem_append.1 hf with hf | hf
        · exact ⟨(hslW (f3 f hf).1).set n3W, (f3 f hf).2⟩
        · rw [List.mem_singleton.1 hf]; exact ⟨(hslW hS).set n3W, hc⟩
/-- 'delete(s.l, id)'. -/
theorem FoldP.del {w : World} {sb tb mb lb : Nat} {S : FS} (h : FoldP w sb tb mb lb S) (id : Int) (rt : TypeId) :
    ∃ ob, ∀ W : World, W.heap = w.heap → (Builtin.delete_ #[78, 3] rt #[.map (some lb), .int .i64 id]).run Tryz.prog W = .ok (.tuple #[]) (setBlock W lb ob) ∧ FoldP (setBlock W lb ob) sb tb mb lb ⟨S.t, dropF S.fs id⟩ := by
  obtain ⟨n1, n2, n3, n4, n5, n6, n7, n8⟩ := h.maps
  have hn := h.n
  obtain ⟨F, f1, f2, f3⟩ := h.f
  obtain ⟨ob, hput⟩ := run_del (P := Tryz.prog) intKey f2 Tryz.underlying78 Tryz.underlying3 id #[78, 3] rfl rt
  refine ⟨ob, fun W hW => ?_⟩
  obtain ⟨p1, p2⟩ := hput W (by rw [hW])
  have hcell : ∀ p, W.cell? p = w.cell? p := fun p => by unfold World.cell?; rw [hW]
  have hslW : ∀ {a : Option Addr} {L : List Bp}, SlPo w a L → SlPo W a L := fun {a L} hs => hs.of_heap hW
  have n3W : NoPt W lb := h.nopt.2.2.2.of_block (by rw [hW])
  refine ⟨p1, ⟨(heap_setBlock_ne _ _ _ _ n6).trans (by rw [hW]; exact h.c), ?_, ⟨F.filter fun f => !decide (f.id = id), ?_, ?_, ?_⟩, h.n⟩⟩
  · obtain ⟨L, hp, hA⟩ := h.t
    exact ⟨L, hp, ⟨(heap_setBlock_ne _ _ _ _ n8).trans (by rw [hW]; exact hA.cells), hA.map.of_block ((heap_setBlock_ne _ _ _ _ hn).trans (by rw [hW]))⟩⟩
  · show _root_.List.Perm _ (dropF S.fs id)
    unfold dropF
    have := f1.filter fun f => !decide (f.1 = id)
    rw [List.filter_map] at this
    exact this
  · have e : (F.filter fun f => !decide (f.id = id)).map FileM.ent = mdel id (F.map FileM.ent) := by
      unfold mdel
      rw [List.filter_map]
      refine congrArg (List.map FileM.ent) (List.filter_congr fun f _ => ?_)
      by_cases e : f.id = id
      · simp [Function.comp, e]
      · simp [Function.comp, e]
    rw [e]; exact p2
  · intro f hf
    have hf := (List.mem_filter.1 hf).1
    exact ⟨(hslW (f3 f hf).1).set n3W, (f3 f hf).2⟩
end Go.Proofs.YtiegadfhgccliaaGreatDoor
