/- Any nodes in any order: a tree with just these, or no form; of a tree's own nodes it is the tree: for every input, no condition (the listed variables read as the program's text lays them: tied). -/
import Derived.Test.YtahdmkmefeocmaaGreatDoorMDeed
import Derived.Deep.Slices
import Derived.Deep.Strs
import Derived.Lib.SmallJoins
import Derived.SliceStrings
import Derived.SizedLaws
import Derived.ProofKit
import Derived.OpenShut
import Derived.Test.YtahdmkmefeocmaaGreatDoorMNews
import Derived.Test.YtahdmkmefeocmaaGreatDoorMTreeBd
import Derived.Test.YtahdmkmefeocmaaGreatDoorMLaw
namespace Go.Proofs.YtahdmkmefeocmaaGreatDoor
open Go.ChangeShapes Go.WideShapes Go.ChangeAt Go.RowKit Go.Deep Go.Joins

set_option maxRecDepth 100000 in
theorem open_dd {H : Type} {enc : TypeId × Value → H} {w : World} {base : Nat} {spare : Nat → Bool} {held : Bool} {n : Nat} {a : Addr} {cs : List Value} {x : DataW H × List MemPlace}
    (hc : w.cells? base a 4 = some cs) (h : DataW.trod enc Tryz.prog w base spare held n 33 cs = some x) :
    a.spot = none ∧ ∃ d : Dd, w.cell? ⟨a.block, a.off, none⟩ = some (.int .i64 d.act) ∧ w.cell? ⟨a.block, a.off + 1, none⟩ = some (.string d.p) ∧ w.cell? ⟨a.block, a.off + 2, none⟩ = some (.string d.q) ∧ w.cell? ⟨a.block, a.off + 3, none⟩ = some (.bool d.dir) := by
  obtain ⟨_, hl, hx⟩ := World.cells?_some hc
  obtain ⟨y0, y1, y2, y3, n', _, _, h0, h1, h2, h3⟩ := trod_struct4 Tryz.underlying33 h
  obtain ⟨c0, c1, c2, c3, rfl⟩ : ∃ c0 c1 c2 c3, cs = [c0, c1, c2, c3] := by
    match cs, hl with
    | [c0, c1, c2, c3], _ => exact ⟨c0, c1, c2, c3, rfl⟩
  have k0 : Tryz.prog.cellsOf 3 = 1 := by kernel_rfl
  have k1 : Tryz.prog.cellsOf 9 = 1 := by kernel_rfl
  have k2 : Tryz.prog.cellsOf 4 = 1 := by kernel_rfl
  simp only [k0, k1, k2, List.drop_zero, List.take_succ_cons, List.take_zero, List.drop_succ_cons] at h0 h1 h2 h3
  obtain ⟨s, e0, _, _⟩ := DataW.trod_int Tryz.underlying3 h0
  obtain ⟨m, e1, _, _⟩ := DataW.trod_string Tryz.underlying9 h1
  obtain ⟨m2, e2, _, _⟩ := DataW.trod_string Tryz.underlying9 h2
  obtain ⟨b, e3, _⟩ := DataW.trod_bool Tryz.underlying4 h3
  obtain rfl : c0 = .int .i64 s := by simpa using e0
  obtain rfl : c1 = .string m := by simpa using e1
  obtain rfl : c2 = .string m2 := by simpa using e2
  obtain rfl : c3 = .bool b := by simpa using e3
  have g0 := hx 0 (by omega)
  have g1 := hx 1 (by omega)
  have g2 := hx 2 (by omega)
  have g3 := hx 3 (by omega)
  obtain ⟨ab, ao, asp⟩ := a
  have hsp : asp = none := by
    cases asp with
    | none => rfl
    | some q =>
      have : w.cell? ⟨ab, ao, some q⟩ = none := by
        unfold World.cell?
        split <;> simp
      simp [Addr.add, this] at g0
  subst hsp
  exact ⟨rfl, ⟨s, m, m2, b⟩, by simpa [Addr.add] using g0, by simpa [Addr.add] using g1, by simpa [Addr.add] using g2, by simpa [Addr.add] using g3⟩
set_option maxRecDepth 100000 in
theorem open_deeds {H : Type} {enc : TypeId × Value → H} {w : World} {base : Nat} {spare : Nat → Bool} {held : Bool} {r : Reach} {b0 : Nat} {v : Value} {d : DataW H} {p : List MemPlace} (hv : Value.okWide Tryz.prog w r b0 22 v) (h : DataW.Trod enc Tryz.prog w base spare held 22 v d p) :
    ∃ a L cap, v = .slice a L.length cap ∧ SlD w a L ∧ L.length ≤ cap ∧ cap ≤ maxLen := by
  obtain ⟨a, len, cap, rfl⟩ := okWide_slice Tryz.underlying22 hv
  obtain ⟨fuel, hf⟩ := h
  have k3 : Tryz.prog.cellsOf 33 = 4 := by kernel_rfl
  rcases open_slice Tryz.underlying22 hf with ⟨e, _⟩ | ⟨a', len', cap', m, n, D, Pl, e, _, hl, hm, hmm, _, hx⟩
  · simp [Value.cells] at e
    obtain ⟨rfl, rfl, rfl⟩ := e
    exact ⟨none, [], 0, rfl, .inl rfl, Nat.le_refl _, by unfold maxLen; omega⟩
  · simp [Value.cells] at e
    obtain ⟨rfl, rfl, rfl⟩ := e
    have hlm : len ≤ m := by rw [hmm]; split <;> omega
    rw [k3] at hx
    cases len with
    | zero => exact ⟨some a', [], cap, rfl, .inl rfl, hl, hm⟩
    | succ q =>
      have each : ∀ i, i < q + 1 → ∃ d : Dd, w.cell? ⟨a'.block, a'.off + i * 4, none⟩ = some (.int .i64 d.act) ∧ w.cell? ⟨a'.block, a'.off + i * 4 + 1, none⟩ = some (.string d.p) ∧ w.cell? ⟨a'.block, a'.off + i * 4 + 2, none⟩ = some (.string d.q) ∧ w.cell? ⟨a'.block, a'.off + i * 4 + 3, none⟩ = some (.bool d.dir) := by
        intro i hi
        obtain ⟨cs', h1, h2⟩ := hx i (by omega)
        obtain ⟨_, p, h3⟩ := open_dd h1 h2
        have e1 : (a'.add (i * 4)).block = a'.block := by unfold Addr.add; split <;> rfl
        have e2 : (a'.add (i * 4)).off = a'.off + i * 4 := by unfold Addr.add; split <;> simp_all
        rw [e1, e2] at h3
        exact ⟨p, h3⟩
      have hsp : a'.spot = none := by
        obtain ⟨cs', h1, h2⟩ := hx 0 (by omega)
        have := (open_dd h1 h2).1
        simpa [Addr.add] using this
      obtain ⟨V, hV⟩ := choose_lt each
      obtain ⟨ab, ao, asp⟩ := a'
      subst hsp
      refine ⟨some ⟨ab, ao, none⟩, (List.range (q + 1)).map V, cap, by simp, .inr ⟨ab, ao, rfl, ?_, fun k hk => ?_⟩, by simpa using hl, hm⟩
      · have h0 := (hV 0 (by omega)).1
        by_cases hlt : ab < w.heap.size
        · exact hlt
        · unfold World.cell? at h0
          rw [Array.getElem?_eq_none (by simpa using hlt)] at h0
          cases h0
      · have hk' : k < q + 1 := by simpa using hk
        have e : ((List.range (q + 1)).map V).getD k default = V k := by simp [List.getD, hk']
        rw [e]
        exact hV k hk'
end Go.Proofs.YtahdmkmefeocmaaGreatDoor
namespace Go.Proofs.YtahdmkmefeocmaaGreatDoor
open Go.ChangeShapes Go.WideShapes Go.ChangeAt Go.RowKit Go.Deep Go.Joins

set_option maxRecDepth 100000 in
theorem open_nd {H : Type} {enc : TypeId × Value → H} {w : World} {base : Nat} {spare : Nat → Bool} {held : Bool} {n : Nat} {a : Addr} {cs : List Value} {x : DataW H × List MemPlace}
    (hc : w.cells? base a 3 = some cs) (h : DataW.trod enc Tryz.prog w base spare held n 53 cs = some x) :
    a.spot = none ∧ ∃ d : Nd, w.cell? ⟨a.block, a.off, none⟩ = some (.string d.path) ∧ w.cell? ⟨a.block, a.off + 1, none⟩ = some (.int .i64 d.id) ∧ w.cell? ⟨a.block, a.off + 2, none⟩ = some (.bool d.dir) := by
  obtain ⟨_, hl, hx⟩ := World.cells?_some hc
  obtain ⟨y0, y1, y2, n', _, _, h0, h1, h2⟩ := trod_struct3 Tryz.underlying53 h
  obtain ⟨c0, c1, c2, rfl⟩ : ∃ c0 c1 c2, cs = [c0, c1, c2] := by
    match cs, hl with
    | [c0, c1, c2], _ => exact ⟨c0, c1, c2, rfl⟩
  have k0 : Tryz.prog.cellsOf 3 = 1 := by kernel_rfl
  have k1 : Tryz.prog.cellsOf 9 = 1 := by kernel_rfl
  have k2 : Tryz.prog.cellsOf 4 = 1 := by kernel_rfl
  simp only [k0, k1, k2, List.drop_zero, List.take_succ_cons, List.take_zero, List.drop_succ_cons] at h0 h1 h2
  obtain ⟨m, e0, _, _⟩ := DataW.trod_string Tryz.underlying9 h0
  obtain ⟨s, e1, _, _⟩ := DataW.trod_int Tryz.underlying3 h1
  obtain ⟨b, e2, _⟩ := DataW.trod_bool Tryz.underlying4 h2
  obtain rfl : c0 = .string m := by simpa using e0
  obtain rfl : c1 = .int .i64 s := by simpa using e1
  obtain rfl : c2 = .bool b := by simpa using e2
  have g0 := hx 0 (by omega)
  have g1 := hx 1 (by omega)
  have g2 := hx 2 (by omega)
  obtain ⟨ab, ao, asp⟩ := a
  have hsp : asp = none := by
    cases asp with
    | none => rfl
    | some q =>
      have : w.cell? ⟨ab, ao, some q⟩ = none := by
        unfold World.cell?
        split <;> simp
      simp [Addr.add, this] at g0
  subst hsp
  exact ⟨rfl, ⟨m, s, b⟩, by simpa [Addr.add] using g0, by simpa [Addr.add] using g1, by simpa [Addr.add] using g2⟩
set_option maxRecDepth 100000 in
theorem open_nodes {H : Type} {enc : TypeId × Value → H} {w : World} {base : Nat} {spare : Nat → Bool} {held : Bool} {r : Reach} {b0 : Nat} {v : Value} {d : DataW H} {p : List MemPlace} (hv : Value.okWide Tryz.prog w r b0 28 v) (h : DataW.Trod enc Tryz.prog w base spare held 28 v d p) :
    ∃ a L cap, v = .slice a L.length cap ∧ SlN w a L ∧ L.length ≤ cap ∧ cap ≤ maxLen := by
  obtain ⟨a, len, cap, rfl⟩ := okWide_slice Tryz.underlying28 hv
  obtain ⟨fuel, hf⟩ := h
  have k3 : Tryz.prog.cellsOf 53 = 3 := by kernel_rfl
  rcases open_slice Tryz.underlying28 hf with ⟨e, _⟩ | ⟨a', len', cap', m, n, D, Pl, e, _, hl, hm, hmm, _, hx⟩
  · simp [Value.cells] at e
    obtain ⟨rfl, rfl, rfl⟩ := e
    exact ⟨none, [], 0, rfl, .inl rfl, Nat.le_refl _, by unfold maxLen; omega⟩
  · simp [Value.cells] at e
    obtain ⟨rfl, rfl, rfl⟩ := e
    have hlm : len ≤ m := by rw [hmm]; split <;> omega
    rw [k3] at hx
    cases len with
    | zero => exact ⟨some a', [], cap, rfl, .inl rfl, hl, hm⟩
    | succ q =>
      have each : ∀ i, i < q + 1 → ∃ d : Nd, w.cell? ⟨a'.block, a'.off + i * 3, none⟩ = some (.string d.path) ∧ w.cell? ⟨a'.block, a'.off + i * 3 + 1, none⟩ = some (.int .i64 d.id) ∧ w.cell? ⟨a'.block, a'.off + i * 3 + 2, none⟩ = some (.bool d.dir) := by
        intro i hi
        obtain ⟨cs', h1, h2⟩ := hx i (by omega)
        obtain ⟨_, p, h3⟩ := open_nd h1 h2
        have e1 : (a'.add (i * 3)).block = a'.block := by unfold Addr.add; split <;> rfl
        have e2 : (a'.add (i * 3)).off = a'.off + i * 3 := by unfold Addr.add; split <;> simp_all
        rw [e1, e2] at h3
        exact ⟨p, h3⟩
      have hsp : a'.spot = none := by
        obtain ⟨cs', h1, h2⟩ := hx 0 (by omega)
        have := (open_nd h1 h2).1
        simpa [Addr.add] using this
      obtain ⟨V, hV⟩ := choose_lt each
      obtain ⟨ab, ao, asp⟩ := a'
      subst hsp
      refine ⟨some ⟨ab, ao, none⟩, (List.range (q + 1)).map V, cap, by simp, .inr ⟨ab, ao, rfl, ⟨fun k hk => ?_, ?_⟩⟩, by simpa using hl, hm⟩
      · have hk' : k < q + 1 := by simpa using hk
        have e : ((List.range (q + 1)).map V).getD k default = V k := by simp [List.getD, hk']
        rw [e]
        exact hV k hk'
      · have h0 := (hV 0 (by omega)).1
        by_cases hlt : ab < w.heap.size
        · exact hlt
        · unfold World.cell? at h0
          rw [Array.getElem?_eq_none (by simpa using hlt)] at h0
          cases h0
end Go.Proofs.YtahdmkmefeocmaaGreatDoor
namespace Go.Proofs.YtahdmkmefeocmaaGreatDoor.treeBuilds
open Go.ChangeShapes Go.WideShapes Go.ChangeAt Go.RowKit
open Go.ChangeMaps (open_string)
set_option linter.unusedVariables false

theorem hp : ∀ t ∈ Tryz.f5.params.toList, Tryz.prog.readableRec t = true ∧ t < Tryz.prog.types.size := by
  have h : (Tryz.f5.params.toList.all fun t => Tryz.prog.readableRec t && decide (t < Tryz.prog.types.size)) = true := by kernel_rfl
  intro t ht
  have := List.all_eq_true.1 h t ht
  simpa using this

set_option maxRecDepth 100000 in
theorem lifted (os : Os) (started : os.Started) (H : Type) (enc : TypeId × Value → H) :
    ReturnsInHanded {} Tryz.checked os 5 .any (fun w args => (Rows.treeBuildsSpec.pre enc Tryz.prog Tryz.f5 [] false w args ∧ laidMetH Tryz.prog Rows.treeBuildsRow.laid w) ∧ sizedMet enc Tryz.prog Tryz.f5 (OpenSpec.ofChange Rows.treeBuildsSpec) false w args) (Rows.treeBuildsSpec.post enc Tryz.prog Tryz.f5 false true false false) := by
  refine returns_laid_shaped (C := Tryz.checked) (X := fun w _ => laidMetH Tryz.prog Rows.treeBuildsRow.laid w) (fun _ _ _ hh h => h.of_heap hh) own_knob started (by kernel_rfl) Tryz.func5
    (ChangeSpec.witness_shaped (enc := enc) (C := Tryz.checked) (os := os) (X := fun w _ => laidMetH Tryz.prog Rows.treeBuildsRow.laid w) false (World.laidAll Tryz.prog os Rows.treeBuildsRow.laid) #[.int .i64 0, .slice none 0 0, .slice none 0 0] 8 (World.laidAll_os _ _ _)
      (World.shaped_of_ZipB (by kernel_rfl) (by kernel_rfl)) (by kernel_rfl) (by kernel_rfl) (by kernel_rfl)
      (by rw [MakeChecks.laidMetH_plain _ _ _ (by kernel_rfl)]; exact laidMet_laidAll _ (by kernel_rfl) (by kernel_rfl))) ?_
  intro W base args ds gs before hval0 hW hreach _ hsh
  have hval : ∀ (j : Nat) t v, Tryz.f5.params[j]? = some t → args[j]? = some v → Value.okWide Tryz.prog W .any base t v := hval0
  have hm := mlen_shaped hsh
  have hW' := hW
  obtain ⟨p, q, hA0, hV, rfl, hfz, hnd⟩ := hW
  have hA : DataW.TrodAll enc Tryz.prog W 0 (fun _ => true) true Tryz.f5.params.toList args.toList ds p := hA0
  rw [Tryz.params5] at hA hval
  obtain ⟨v0, vs0, d0, ds0, p0, q0, hargs, rfl, rfl, h0, r0⟩ := trodAll_cons hA
  obtain ⟨v1, vs1, d1, ds1, p1, q1, rfl, rfl, rfl, h1, r1⟩ := trodAll_cons r0
  obtain ⟨v2, vs2, d2, ds2, p2, q2, rfl, rfl, rfl, h2, r2⟩ := trodAll_cons r1
  obtain ⟨rfl, rfl, rfl⟩ := trodAll_nil r2
  obtain rfl : args = #[v0, v1, v2] := by cases args; simp_all
  obtain ⟨rfl, rfl⟩ := trodVars_none hV
  obtain ⟨a0, rfl, rfl, rfl, w0⟩ := open_int Tryz.underlying3 (hval 0 3 v0 rfl rfl) h0
  obtain ⟨s1, a1, c1, rfl, i1, w1, x1⟩ := open_nodes (hval 1 28 v1 rfl rfl) h1
  obtain ⟨s2, a2, c2, rfl, i2, w2, x2⟩ := open_deeds (hval 2 22 v2 rfl rfl) h2
  refine (treeBuilds_walk a0 s1 c1 a1 s2 c2 a2 W (wf_i64 w0).1 (wf_i64 w0).2 i1 w1 x1 i2 w2 x2 hm).mono fun e W' ⟨he, hb⟩ => ?_
  subst he
  exact ⟨_, rfl, law_post laid_out hp rfl Tryz.underlying4 rfl hW' hb rfl rfl rfl⟩

theorem over : Rows.treeBuildsRow.holds Tryz.pinned (OpenSpec.ofChange Rows.treeBuildsSpec) :=
  OpenClaim.holds_of_wide 5 Tryz.f5 rfl rfl rfl rfl rfl rfl rfl ⟨rfl, rfl, rfl, rfl, rfl⟩ rfl rfl rfl rfl rfl (by kernel_rfl) Tryz.func5 (by kernel_rfl)
    (of_decide_eq_true (by kernel_rfl)) (by unfold Func.isWrapper; first | (rw [if_pos (by decide +kernel)]; kernel_rfl) | (rw [if_neg (by decide +kernel)]; exact ⟨rfl, rfl⟩))
    (fun os started H enc _ => lifted os started H enc)

/-- No parameter wants a stand-in; the program's own looks are off. -/
theorem plain (f : FuncId) (fn : Func) (hf : Tryz.pinned.checked.prog.funcNamed "treering/treeringlaw13.TreeBuilds" = some f) (hfn : Tryz.pinned.checked.prog.funcs[f]? = some fn) :
    true = Tryz.pinned.checked.prog.looks [] ∧ ∀ (j : Nat) t, fn.params[j]? = some t → Tryz.pinned.checked.prog.wantsStandIn t = false := by
  obtain rfl : f = 5 := Option.some.inj ((show Tryz.prog.funcNamed "treering/treeringlaw13.TreeBuilds" = some 5 by kernel_rfl).symm.trans hf) |>.symm
  obtain rfl : fn = Tryz.f5 := (Option.some.inj (Tryz.func5.symm.trans hfn)).symm
  refine ⟨by kernel_rfl, fun j t ht => ?_⟩
  have hall : (Tryz.f5.params.toList.all fun u => !Tryz.prog.wantsStandIn u) = true := by kernel_rfl
  have hm : t ∈ Tryz.f5.params.toList := Array.mem_toList_iff.2 (Array.mem_of_getElem? ht)
  show Tryz.prog.wantsStandIn t = false
  simpa using List.all_eq_true.1 hall t hm

/-- THE CARD. -/
theorem card : Rows.TreeBuildsCardSaid :=
  Claim7.holds_tied_plain_at .later [] _ _ _ _ over (fun _ h => by cases h) (by kernel_rfl) (fun _ h => by cases h) treeBuilds_row_tie rfl ⟨rfl, rfl⟩ (by kernel_rfl) rfl plain (by kernel_rfl)
#print axioms card
end Go.Proofs.YtahdmkmefeocmaaGreatDoor.treeBuilds
