/- Whatever events: whether each may be, and then names, files, sizes, parts; a copy goes its own way: for every input, no condition (the listed variables read as the program's text lays them: tied). -/
import Derived.Test.YtiegadfhgccliaaGreatDoorMSame15
import Derived.Deep.Slices
import Derived.Deep.Strs
import Derived.Lib.SmallJoins
import Derived.SliceStrings
import Derived.SizedLaws
import Derived.ProofKit
import Derived.OpenShut
import Derived.Test.YtiegadfhgccliaaGreatDoorRows
import Derived.WalkKit
import Derived.Laws.Cover2
import Derived.Test.YtiegadfhgccliaaGreatDoorMBase
import Derived.Test.YtiegadfhgccliaaGreatDoorCards
import Derived.Test.YtiegadfhgccliaaGreatDoorTie
import Derived.LaidMore
import Derived.Lay
import Derived.LaidLaws
import Derived.Shelf.Vars
import Derived.SevenTiedAt
import Derived.Test.YtiegadfhgccliaaGreatDoorMTri
namespace Go.Proofs.YtiegadfhgccliaaGreatDoor
open Go.ChangeShapes Go.WideShapes Go.ChangeAt Go.RowKit Go.Deep Go.Joins

section
variable {H : Type} {enc : TypeId × Value → H} {w : World} {base : Nat} {spare : Nat → Bool} {held : Bool} {P : Program}
theorem trod_struct6 {t : TypeId} {f0 f1 f2 f3 f4 f5 : Field} {fuel : Nat} {cs : List Value} {x : DataW H × List MemPlace} (ht : P.underlying t = some (.struct #[f0, f1, f2, f3, f4, f5])) (h : DataW.trod enc P w base spare held fuel t cs = some x) :
    ∃ y0 y1 y2 y3 y4 y5 n, cs.length = P.cellsOf t ∧ DataW.trod enc P w base spare held n f0.type ((cs.drop f0.offset).take (P.cellsOf f0.type)) = some y0 ∧
      DataW.trod enc P w base spare held n f1.type ((cs.drop f1.offset).take (P.cellsOf f1.type)) = some y1 ∧ DataW.trod enc P w base spare held n f2.type ((cs.drop f2.offset).take (P.cellsOf f2.type)) = some y2 ∧
      DataW.trod enc P w base spare held n f3.type ((cs.drop f3.offset).take (P.cellsOf f3.type)) = some y3 ∧ DataW.trod enc P w base spare held n f4.type ((cs.drop f4.offset).take (P.cellsOf f4.type)) = some y4 ∧ DataW.trod enc P w base spare held n f5.type ((cs.drop f5.offset).take (P.cellsOf f5.type)) = some y5 := by
  obtain ⟨xs, n, _, rfl, hl, hlen, hf⟩ := DataW.trod_struct ht h
  match xs, hlen with
  | [y0, y1, y2, y3, y4, y5], _ => exact ⟨y0, y1, y2, y3, y4, y5, n, hl, by simpa using hf 0 f0 rfl, by simpa using hf 1 f1 rfl, by simpa using hf 2 f2 rfl, by simpa using hf 3 f3 rfl, by simpa using hf 4 f4 rfl, by simpa using hf 5 f5 rfl⟩
end
section
variable {H : Type} {enc : TypeId × Value → H} {w : World} {base : Nat} {spare : Nat → Bool} {held : Bool}
theorem spot_none {a : Addr} {v : Value} (h : w.cell? a = some v) : a.spot = none := by
  obtain ⟨ab, ao, asp⟩ := a
  cases asp with
  | none => rfl
  | some q =>
    have : w.cell? ⟨ab, ao, some q⟩ = none := by
      unfold World.cell?
      split <;> simp
    rw [this] at h
    cases h
theorem add_spot {a : Addr} (hs : a.spot = none) (j : Nat) : a.add j = ⟨a.block, a.off + j, none⟩ := by
  obtain ⟨b, o, s⟩ := a
  dsimp only at hs
  subst hs
  unfold Addr.add
  split <;> simp_all
set_option maxRecDepth 100000 in
/-- The cells of a part. -/
theorem trod_part {n : Nat} {cs : List Value} {x : DataW H × List MemPlace} (h : DataW.trod enc Tryz.prog w base spare held n 87 cs = some x) (hl : cs.length = 4) : ∃ p : Bp, cs = encP.enc p := by
  obtain ⟨y0, y1, y2, y3, n', _, _, h0, h1, h2, h3⟩ := trod_struct4 Tryz.underlying87 h
  obtain ⟨c0, c1, c2, c3, rfl⟩ : ∃ c0 c1 c2 c3, cs = [c0, c1, c2, c3] := by
    match cs, hl with
    | [c0, c1, c2, c3], _ => exact ⟨c0, c1, c2, c3, rfl⟩
  have k0 : Tryz.prog.cellsOf 2 = 1 := by kernel_rfl
  have k1 : Tryz.prog.cellsOf 3 = 1 := by kernel_rfl
  simp only [k0, k1, List.drop_zero, List.take_succ_cons, List.take_zero, List.drop_succ_cons] at h0 h1 h2 h3
  obtain ⟨a, e0, _, _⟩ := DataW.trod_int Tryz.underlying2 h0
  obtain ⟨b, e1, _, _⟩ := DataW.trod_int Tryz.underlying3 h1
  obtain ⟨c, e2, _, _⟩ := DataW.trod_int Tryz.underlying3 h2
  obtain ⟨d, e3, _, _⟩ := DataW.trod_int Tryz.underlying3 h3
  obtain rfl : c0 = .int .i64 a := by simpa using e0
  obtain rfl : c1 = .int .i64 b := by simpa using e1
  obtain rfl : c2 = .int .i64 c := by simpa using e2
  obtain rfl : c3 = .int .i64 d := by simpa using e3
  exact ⟨⟨a, b, c, d⟩, rfl⟩
set_option maxRecDepth 100000 in
/-- A row of parts. -/
theorem trod_parts {n : Nat} {v : Value} {x : DataW H × List MemPlace} (h : DataW.trod enc Tryz.prog w base spare held n 32 [v] = some x) : ∃ (L : List Bp) (a : Option Addr) (c : Nat), v = .slice a L.length c ∧ SlPt w a L ∧ L.length ≤ c ∧ c ≤ maxLen := by
  have k4 : Tryz.prog.cellsOf 87 = 4 := by kernel_rfl
  rcases open_slice Tryz.underlying32 h with ⟨e, _⟩ | ⟨a', len, cap, m, n', D, Pl, e, _, hl, hm, hmm, _, hx⟩
  · simp at e
    exact ⟨[], none, 0, e, .inl rfl, Nat.le_refl _, by unfold maxLen; omega⟩
  · simp at e
    have hlm : len ≤ m := by rw [hmm]; split <;> omega
    rw [k4] at hx
    cases len with
    | zero => exact ⟨[], some a', cap, e, .inl rfl, hl, hm⟩
    | succ q =>
      have each : ∀ i, i < q + 1 → ∃ d : Bp, ∀ j u, (encP.enc d)[j]? = some u → w.cell? ((a'.add (i * 4)).add j) = some u := by
        intro i hi
        obtain ⟨cs', h1, h2⟩ := hx i (by omega)
        obtain ⟨_, hl1, hx1⟩ := World.cells?_some h1
        obtain ⟨p, rfl⟩ := trod_part h2 hl1
        refine ⟨p, fun j u hu => ?_⟩
        have hj : j < 4 := by have := (List.getElem?_eq_some_iff.1 hu).1; rw [encP.len] at this; exact this
        have := hx1 j hj
        rw [this]
        exact hu
      have hsp : a'.spot = none := by
        obtain ⟨d, hd⟩ := each 0 (by omega)
        have := spot_none (hd 0 _ rfl)
        simpa [Addr.add] using this
      obtain ⟨V, hV⟩ := choose_lt each
      have hlt : a'.block < w.heap.size := by
        have h0 := hV 0 (by omega) 0 _ rfl
        rw [add_spot hsp] at h0
        rw [add_spot (a := ⟨a'.block, a'.off + 0 * 4, none⟩) rfl] at h0
        have := World.block_lt_of_cell? w _ h0
        exact this
      obtain ⟨ab, ao, asp⟩ := a'
      dsimp only at hsp
      subst hsp
      refine ⟨(List.range (q + 1)).map V, some ⟨ab, ao, none⟩, cap, by simpa using e, .inr ⟨ab, ao, rfl, ⟨fun k hk j u hu => ?_, hlt⟩⟩, by simpa using hl, hm⟩
      have hk' : k < q + 1 := by simpa using hk
      have e1 : ((List.range (q + 1)).map V).getD k default = V k := by simp [List.getD, hk']
      rw [e1] at hu
      have := hV k hk' j u hu
      rw [add_spot (a := ⟨ab, ao, none⟩) rfl] at this
      rw [add_spot (a := ⟨ab, ao + k * 4, none⟩) rfl] at this
      exact this
set_option maxRecDepth 100000 in
/-- A deed's cells. -/
theorem trod_deed {n : Nat} {a : Addr} {cs : List Value} {x : DataW H × List MemPlace} (hc : w.cells? base a 7 = some cs) (h : DataW.trod enc Tryz.prog w base spare held n 34 cs = some x) :
    a.spot = none ∧ ∃ d : DeedM, DeedAt w a.block a.off d := by
  obtain ⟨_, hl, hx⟩ := World.cells?_some hc
  obtain ⟨z0, z1, n', _, _, hE, hP⟩ := trod_struct2 Tryz.underlying34 h
  obtain ⟨c0, c1, c2, c3, c4, c5, c6, rfl⟩ : ∃ c0 c1 c2 c3 c4 c5 c6, cs = [c0, c1, c2, c3, c4, c5, c6] := by
    match cs, hl with
    | [c0, c1, c2, c3, c4, c5, c6], _ => exact ⟨c0, c1, c2, c3, c4, c5, c6, rfl⟩
  have kE : Tryz.prog.cellsOf 31 = 6 := by kernel_rfl
  have kP : Tryz.prog.cellsOf 32 = 1 := by kernel_rfl
  have kD : Tryz.prog.cellsOf 29 = 1 := by kernel_rfl
  have k0 : Tryz.prog.cellsOf 3 = 1 := by kernel_rfl
  have k1 : Tryz.prog.cellsOf 9 = 1 := by kernel_rfl
  have k2 : Tryz.prog.cellsOf 2 = 1 := by kernel_rfl
  simp only [kE, kP, List.drop_zero, List.take_succ_cons, List.take_zero, List.drop_succ_cons] at hE hP
  obtain ⟨y0, y1, y2, y3, y4, y5, n2, _, h0, h1, h2, h3, h4, h5⟩ := trod_struct6 Tryz.underlying31 hE
  simp only [k0, k1, k2, kD, List.drop_zero, List.take_succ_cons, List.take_zero, List.drop_succ_cons] at h0 h1 h2 h3 h4 h5
  obtain ⟨op, e0, _, _⟩ := DataW.trod_int Tryz.underlying3 h0
  obtain ⟨p, e1, _, _⟩ := DataW.trod_string Tryz.underlying9 h1
  obtain ⟨q, e2, _, _⟩ := DataW.trod_string Tryz.underlying9 h2
  obtain ⟨off, e3, _, _⟩ := DataW.trod_int Tryz.underlying2 h3
  obtain ⟨size, e4, _, _⟩ := DataW.trod_int Tryz.underlying2 h4
  obtain rfl : c0 = .int .i64 op := by simpa using e0
  obtain rfl : c1 = .string p := by simpa using e1
  obtain rfl : c2 = .string q := by simpa using e2
  obtain rfl : c3 = .int .i64 off := by simpa using e3
  obtain rfl : c4 = .int .i64 size := by simpa using e4
  obtain ⟨da, dn, dc, rfl, hdn, hdc⟩ : ∃ da dn dc, c5 = .slice da dn dc ∧ dn ≤ dc ∧ dc ≤ maxLen := by
    rcases open_slice Tryz.underlying29 h5 with ⟨e, _⟩ | ⟨a', len, cap, m, n', D, Pl, e, _, hl, hm, _⟩
    · simp at e; exact ⟨none, 0, 0, e, Nat.le_refl _, by unfold maxLen; omega⟩
    · simp at e; exact ⟨_, _, _, e, hl, hm⟩
  obtain ⟨L, la, lc, rfl, hL, hlc, hlm⟩ := trod_parts hP
  have hsp : a.spot = none := by
    have := spot_none (hx 0 (by omega))
    simpa [Addr.add] using this
  refine ⟨hsp, ⟨⟨op, p, q, off, size, List.replicate dn 0⟩, da, dc, L, la, lc⟩, ?_, hL, hlc, by simpa using hdn, hlm, hdc⟩
  intro j u hu
  have hj : j < 7 := (List.getElem?_eq_some_iff.1 hu).1
  have := hx j hj
  rw [add_spot hsp] at this
  rw [this]
  have e : DeedM.cells ⟨⟨op, p, q, off, size, List.replicate dn 0⟩, da, dc, L, la, lc⟩ = [.int .i64 op, .string p, .string q, .int .i64 off, .int .i64 size, .slice da dn dc, .slice la L.length lc] := by
    unfold DeedM.cells
    simp
  rw [e] at hu
  exact hu
end
set_option maxRecDepth 100000 in
theorem open_deedf {H : Type} {enc : TypeId × Value → H} {w : World} {base : Nat} {spare : Nat → Bool} {held : Bool} {r : Reach} {b0 : Nat} {v : Value} {d : DataW H} {p : List MemPlace} (hv : Value.okWide Tryz.prog w r b0 22 v) (h : DataW.Trod enc Tryz.prog w base spare held 22 v d p) :
    ∃ a L cap, v = .slice a L.length cap ∧ SlDd w a L ∧ L.length ≤ cap ∧ cap ≤ maxLen := by
  obtain ⟨a, len, cap, rfl⟩ := okWide_slice Tryz.underlying22 hv
  obtain ⟨fuel, hf⟩ := h
  have k7 : Tryz.prog.cellsOf 34 = 7 := by kernel_rfl
  rcases open_slice Tryz.underlying22 hf with ⟨e, _⟩ | ⟨a', len', cap', m, n, D, Pl, e, _, hl, hm, hmm, _, hx⟩
  · simp [Value.cells] at e
    obtain ⟨rfl, rfl, rfl⟩ := e
    exact ⟨none, [], 0, rfl, .inl rfl, Nat.le_refl _, by unfold maxLen; omega⟩
  · simp [Value.cells] at e
    obtain ⟨rfl, rfl, rfl⟩ := e
    have hlm : len ≤ m := by rw [hmm]; split <;> omega
    rw [k7] at hx
    cases len with
    | zero => exact ⟨some a', [], cap, rfl, .inl rfl, hl, hm⟩
    | succ q =>
      have hsp : a'.spot = none := by
        obtain ⟨cs', h1, h2⟩ := hx 0 (by omega)
        have := (trod_deed h1 h2).1
        simpa [Addr.add] using this
      have each : ∀ i, i < q + 1 → ∃ d : DeedM, DeedAt w a'.block (a'.off + i * 7) d := by
        intro i hi
        obtain ⟨cs', h1, h2⟩ := hx i (by omega)
        obtain ⟨_, d, hd⟩ := trod_deed h1 h2
        rw [add_spot hsp] at hd
        exact ⟨d, hd⟩
      obtain ⟨V, hV⟩ := choose_lt each
      obtain ⟨ab, ao, asp⟩ := a'
      dsimp only at hsp
      subst hsp
      refine ⟨some ⟨ab, ao, none⟩, (List.range (q + 1)).map V, cap, by simp, .inr ⟨ab, ao, rfl, ?_, fun k hk => ?_⟩, by simpa using hl, hm⟩
      · exact World.block_lt_of_cell? w _ ((hV 0 (by omega)).c 0 _ rfl)
      · have hk' : k < q + 1 := by simpa using hk
        have e : ((List.range (q + 1)).map V).getD k default = V k := by simp [List.getD, hk']
        rw [e]
        exact hV k hk'
end Go.Proofs.YtiegadfhgccliaaGreatDoor
namespace Go.Proofs.YtiegadfhgccliaaGreatDoor
open Go.ChangeShapes Go.WideShapes Go.ChangeAt Go.RowKit

theorem trodAll_below {H : Type} {enc : TypeId × Value → H} {P : Program} (hl : laidOutB P = true) {W W' : World} (hb : Below W.heap.size W W') :
    ∀ (ts : List TypeId) (vs : List Value) (ds : List (DataW H)) (ps : List MemPlace), (∀ t ∈ ts, P.readableRec t = true ∧ t < P.types.size) → DataW.TrodAll enc P W 0 (fun _ => true) true ts vs ds ps → (∀ x ∈ ps, x.block < W.heap.size) →
      DataW.TrodAll enc P W' 0 (fun b => decide (b < W.heap.size)) true ts vs ds ps
  | [], [], [], ps, _, h, _ => h
  | t :: ts, v :: vs, d :: ds, ps, ht, h, hp => by
    obtain ⟨p, q, h1, h2, rfl⟩ := h
    refine ⟨p, q, ?_, ?_, rfl⟩
    · exact Below.trod hl (ht t (by simp)).1 (ht t (by simp)).2 h1 hb fun x hx => hp x (by simp [hx])
    · exact trodAll_below hl hb ts vs ds q (fun t h => ht t (by simp [h])) h2 fun x hx => hp x (by simp [hx])
  | [], _ :: _, _, _, _, h, _ | [], [], _ :: _, _, _, h, _ | _ :: _, [], _, _, _, h, _ | _ :: _, _ :: _, [], _, _, h, _ => h.elim

theorem law_post {H : Type} {enc : TypeId × Value → H} {P : Program} {f : Func} {s : ChangeSpec} {tb : TypeId} (hl : laidOutB P = true) (hp : ∀ t ∈ f.params.toList, P.readableRec t = true ∧ t < P.types.size)
    (hrt : f.resultTypes = #[tb]) (htb : P.underlying tb = some .bool) (hv : s.vars = []) {W W' : World} {args : Array Value} {ds gs : List (DataW H)} {before : List MemPlace}
    (hW : DataW.Whole enc P f.params.toList s.vars false W args.toList ds gs before) (hb : Below W.heap.size W W')
    (hr : (s.fn H (ds ++ gs)).results = [.lit (.bool true)]) (ha : (s.fn H (ds ++ gs)).args = ds) (hvv : (s.fn H (ds ++ gs)).vars = gs) :
    s.post enc P f false true false false W args (.bool true) W' := by
  have hlt := hW.lt
  have hW0 := hW
  obtain ⟨p, q, hA, hV, rfl, hz, hn⟩ := hW
  rw [hv] at hV
  obtain ⟨rfl, rfl⟩ : gs = [] ∧ q = [] := by
    cases gs with
    | nil => exact ⟨rfl, hV⟩
    | cons g gs => exact hV.elim
  refine ⟨ds, [], p ++ [], [], p, [], hW0, ?_, ?_, ?_, hb.frame _, fun h => by cases h⟩
  · rw [hr, hrt]
    exact trodAll_cons_mk (shut_bool htb true) trodAll_mk0
  · rw [ha]
    exact trodAll_below hl hb _ _ _ _ hp hA fun x hx => hlt x (by simp [hx])
  · rw [hvv, hv]; rfl

theorem laid_out : laidOutB Tryz.prog = true := by kernel_rfl
theorem own_knob : ownKnob Tryz.prog.godebug = none := by kernel_rfl
end Go.Proofs.YtiegadfhgccliaaGreatDoor
namespace Go.Proofs.YtiegadfhgccliaaGreatDoor
open Go.ChangeShapes Go.WideShapes Go.ChangeAt Go.RowKit

theorem returns_laid_shaped {H : Type} {enc : TypeId × Value → H} {a : Assume} {C : Checked} {os : Os} {f : FuncId} {fn : Func} {s : ChangeSpec} {conds : List PathCond} {apart fresh handsOn again : Bool} {X : World → Array Value → Prop}
    (hX : ∀ (w w' : World) (args : Array Value), w.heap = w'.heap → X w args → X w' args)
    (own : ownKnob C.prog.godebug = none) (started : os.Started) (noInit : C.prog.inits.idxOf? f = none) (hfn : C.prog.funcs[f]? = some fn)
    (witness : ∃ (w : World) (tape : Tape) (i : Input), w.os = os ∧ (w.forCall tape i).Shaped C.prog ∧ i.vars = [] ∧ Input.okWide C.prog (w.forCall tape i) .any w.heap.size f i ∧
      ((s.pre enc C.prog fn conds apart (w.forCall tape i).memory i.args ∧ X (w.forCall tape i).memory i.args) ∧ sizedMet enc C.prog fn (OpenSpec.ofChange s) apart (w.forCall tape i).memory i.args) ∧ a.holds C.prog (lone (Frame.enter C.prog f i.args .normal) [] (w.forCall tape i)))
    (contract : ∀ (W : World) (base : Nat) (args : Array Value) (ds gs : List (DataW H)) (before : List MemPlace),
      (∀ (j : Nat) t v, fn.params[j]? = some t → args[j]? = some v → Value.okWide C.prog W .any base t v) →
      DataW.Whole enc C.prog fn.params.toList s.vars apart W args.toList ds gs before →
      (DataW.weightsEach C.prog (fn.params.toList ++ s.plain.varTypes C.prog) (ds ++ gs)).all (· ≤ reachBytes) = true → X W args → W.ShapedOpen C.prog →
      Calls C.prog f args W fun e W' => ∃ v, e = .returned v ∧ s.post enc C.prog fn apart fresh handsOn again W args v W') :
    ReturnsInHanded a C os f .any (fun w args => (s.pre enc C.prog fn conds apart w args ∧ X w args) ∧ sizedMet enc C.prog fn (OpenSpec.ofChange s) apart w args) (s.post enc C.prog fn apart fresh handsOn again) := by
  refine returnsInHanded_of_calls own started noInit witness fun w tape i _ hsh _ hok hpre _ => ?_
  obtain ⟨_, _, _, fn', hfn', _, _, _, _, hval⟩ := hok
  obtain rfl : fn' = fn := Option.some.inj (hfn'.symm.trans hfn)
  obtain ⟨⟨⟨ds, gs, before, hw, _⟩, hx⟩, hz⟩ := hpre
  refine (contract (w.forCall tape i) w.heap.size i.args ds gs before hval (hw.of_heap (by rfl)) (hz.weights (hw.of_heap (by rfl))) (hX _ _ _ (by rfl) hx) hsh).mono fun e W' h => ?_
  obtain ⟨v, rfl, hp⟩ := h
  exact ChangeSpec.post_blind hp

theorem mlen_shaped {W : World} (h : W.ShapedOpen Tryz.prog) : MLen W :=
  cell_of_shapedOpen_int (g := 0) (t := 3) (zero := #[.int .i64 0]) h (of_decide_eq_true (by kernel_rfl)) (by kernel_rfl) rfl (by kernel_rfl) (by kernel_rfl) Tryz.underlying3
end Go.Proofs.YtiegadfhgccliaaGreatDoor
namespace Go.Proofs.YtiegadfhgccliaaGreatDoor.foldPlays
open Go.ChangeShapes Go.WideShapes Go.ChangeAt Go.RowKit
open Go.ChangeMaps (open_string)
set_option linter.unusedVariables false

theorem hp : ∀ t ∈ Tryz.f5.params.toList, Tryz.prog.readableRec t = true ∧ t < Tryz.prog.types.size := by
  have h : (Tryz.f5.params.toList.all fun t => Tryz.prog.readableRec t && decide (t < Tryz.prog.types.size)) = true := by kernel_rfl
  intro t ht
  have := List.all_eq_true.1 h t ht
  simpa using this

set_option maxRecDepth 100000 in
theorem lifted (os : Os) (started : os.Started) (H : Type) (enc : TypeId × Value → H) :
    ReturnsInHanded {} Tryz.checked os 5 .any (fun w args => (Rows.foldPlaysSpec.pre enc Tryz.prog Tryz.f5 [] false w args ∧ laidMetH Tryz.prog Rows.foldPlaysRow.laid w) ∧ sizedMet enc Tryz.prog Tryz.f5 (OpenSpec.ofChange Rows.foldPlaysSpec) false w args) (Rows.foldPlaysSpec.post enc Tryz.prog Tryz.f5 false true false false) := by
  refine returns_laid_shaped (C := Tryz.checked) (X := fun w _ => laidMetH Tryz.prog Rows.foldPlaysRow.laid w) (fun _ _ _ hh h => h.of_heap hh) own_knob started (by kernel_rfl) Tryz.func5
    (ChangeSpec.witness_shaped (enc := enc) (C := Tryz.checked) (os := os) (X := fun w _ => laidMetH Tryz.prog Rows.foldPlaysRow.laid w) false (World.laidAll Tryz.prog os Rows.foldPlaysRow.laid) #[.slice none 0 0] 8 (World.laidAll_os _ _ _)
      (World.shaped_of_ZipB (by kernel_rfl) (by kernel_rfl)) (by kernel_rfl) (by kernel_rfl) (by kernel_rfl)
      (by rw [MakeChecks.laidMetH_plain _ _ _ (by kernel_rfl)]; exact laidMet_laidAll _ (by kernel_rfl) (by kernel_rfl))) ?_
  intro W base args ds gs before hval0 hW hreach _ hsh
  have hval : ∀ (j : Nat) t v, Tryz.f5.params[j]? = some t → args[j]? = some v → Value.okWide Tryz.prog W .any base t v := hval0
  have hm := mlen_shaped hsh
  have hW' := hW
  obtain ⟨p, q, hA0, hV, rfl, hfz, hnd⟩ := hW
  have hA : DataW.TrodAll enc Tryz.prog W 0 (fun _ => true) true Tryz.f5.params.toList args.toList ds p := hA0
  rw [Tryz.params5] at hA hval
  obtain ⟨v0, vs0, d0, ds0, p0, q0, hargs, rfl, rfl, h0, r0⟩ := trodAll_cons hA
  obtain ⟨rfl, rfl, rfl⟩ := trodAll_nil r0
  obtain rfl : args = #[v0] := by cases args; simp_all
  obtain ⟨rfl, rfl⟩ := trodVars_none hV
  obtain ⟨s0, a0, c0, rfl, i0, w0, x0⟩ := open_deedf (hval 0 22 v0 rfl rfl) h0
  refine (foldPlays_walk s0 c0 a0 W i0 w0 x0 hm).mono fun e W' ⟨he, hb⟩ => ?_
  subst he
  exact ⟨_, rfl, law_post laid_out hp rfl Tryz.underlying4 rfl hW' hb rfl rfl rfl⟩

theorem over : Rows.foldPlaysRow.holds Tryz.pinned (OpenSpec.ofChange Rows.foldPlaysSpec) :=
  OpenClaim.holds_of_wide 5 Tryz.f5 rfl rfl rfl rfl rfl rfl rfl ⟨rfl, rfl, rfl, rfl, rfl⟩ rfl rfl rfl rfl rfl (by kernel_rfl) Tryz.func5 (by kernel_rfl)
    (of_decide_eq_true (by kernel_rfl)) (by unfold Func.isWrapper; first | (rw [if_pos (by decide +kernel)]; kernel_rfl) | (rw [if_neg (by decide +kernel)]; exact ⟨rfl, rfl⟩))
    (fun os started H enc _ => lifted os started H enc)

/-- No parameter wants a stand-in; the program's own looks are off. -/
theorem plain (f : FuncId) (fn : Func) (hf : Tryz.pinned.checked.prog.funcNamed "treering/treeringlaw15.FoldPlays" = some f) (hfn : Tryz.pinned.checked.prog.funcs[f]? = some fn) :
    true = Tryz.pinned.checked.prog.looks [] ∧ ∀ (j : Nat) t, fn.params[j]? = some t → Tryz.pinned.checked.prog.wantsStandIn t = false := by
  obtain rfl : f = 5 := Option.some.inj ((show Tryz.prog.funcNamed "treering/treeringlaw15.FoldPlays" = some 5 by kernel_rfl).symm.trans hf) |>.symm
  obtain rfl : fn = Tryz.f5 := (Option.some.inj (Tryz.func5.symm.trans hfn)).symm
  refine ⟨by kernel_rfl, fun j t ht => ?_⟩
  have hall : (Tryz.f5.params.toList.all fun u => !Tryz.prog.wantsStandIn u) = true := by kernel_rfl
  have hm : t ∈ Tryz.f5.params.toList := Array.mem_toList_iff.2 (Array.mem_of_getElem? ht)
  show Tryz.prog.wantsStandIn t = false
  simpa using List.all_eq_true.1 hall t hm

/-- THE CARD. -/
theorem card : Rows.FoldPlaysCardSaid :=
  Claim7.holds_tied_plain_at .later [] _ _ _ _ over (fun _ h => by cases h) (by kernel_rfl) (fun _ h => by cases h) foldPlays_row_tie rfl ⟨rfl, rfl⟩ (by kernel_rfl) rfl plain (by kernel_rfl)
#print axioms card
end Go.Proofs.YtiegadfhgccliaaGreatDoor.foldPlays
