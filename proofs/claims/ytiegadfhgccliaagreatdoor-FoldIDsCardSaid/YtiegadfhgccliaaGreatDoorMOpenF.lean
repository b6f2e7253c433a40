/- Parameters opened: []Deed of layer 15. -/
import Derived.Test.YtiegadfhgccliaaGreatDoorMDeedF
import Derived.Deep.Slices
import Derived.Deep.Strs
import Derived.Lib.SmallJoins
import Derived.SliceStrings
import Derived.SizedLaws
import Derived.ProofKit
import Derived.OpenShut
namespace Go.Proofs.YtiegadfhgccliaaGreatDoor
open Go.ChangeShapes Go.WideShapes Go.ChangeAt Go.RowKit Go.Deep Go.Joins

section
variable {H : Type} {enc : TypeId × Value → H} {w : World} {base : Nat} {spare : Nat → Bool} {held : Bool} {P : Program}
theorem trod_struct6 {t : TypeId} {f0 f1 f2 f3 f4 f5 : Field} {fuel : Nat} {cs : List Value} {x : DataW H × List MemPlace} (ht : P.underlying t = some (.struct #[f0, f1, f2, f3, f4, f5])) (h : DataW.trod enc P w base spare held fuel t cs = some x) :
    ∃ y0 y1 y2 y3 y4 y5 n, cs.length = P.cellsOf t ∧ DataW.trod enc P w base spare held n f0.type ((cs.drop f0.offset).take (P.cellsOf f0.type)) = some y0 ∧
      DataW.trod enc P w base spare held n f1.type ((cs.drop f1.offset).take (P.cellsOf f1.type)) = some y1 ∧ DataW.trod enc P w base spare held n f2.type ((cs.drop f2.offset).take (P.cellsOf f2.type)) = some y2 ∧
      DataW.trod enc P w base spare held n f3.type ((cs.drop f3.offset).take (P.cellsOf f3.type)) = some y3 ∧ DataW.trod enc P w base spare held n f4.type ((cs.drop f4.offset).take (P.cellsOf f4.type)) = some y4 ∧ DataW.trod enc P w base spare held n f5.type ((cs.drop f5.offset).take (P.cellsOf f5.type)) = some y5 := by
  obtain ⟨xs, n, _, rfl, hl, hlen, hf⟩ := DataW.trod_struct ht h
  match xs, hlen with
  | [y0, y1, y2, y3, y4, y5], _ => exact ⟨y0, y1, y2, y3, y4, y5, n, hl, by simpa using hf 0 f0 rfl, by simpa using hf 1 f1 rfl, by simpa using hf 2 f2 rfl, by simpa using hf 3 f3 rfl, by simpa using hf 4 f4 rfl, by simpa using hf 5 f5 rfl⟩
end
section
variable {H : Type} {enc : TypeId × Value → H} {w : World} {base : Nat} {spare : Nat → Bool} {held : Bool}
theorem spot_none {a : Addr} {v : Value} (h : w.cell? a = some v) : a.spot = none := by
  obtain ⟨ab, ao, asp⟩ := a
  cases asp with
  | none => rfl
  | some q =>
    have : w.cell? ⟨ab, ao, some q⟩ = none := by
      unfold World.cell?
      split <;> simp
    rw [this] at h
    cases h
theorem add_spot {a : Addr} (hs : a.spot = none) (j : Nat) : a.add j = ⟨a.block, a.off + j, none⟩ := by
  obtain ⟨b, o, s⟩ := a
  dsimp only at hs
  subst hs
  unfold Addr.add
  split <;> simp_all
set_option maxRecDepth 100000 in
/-- The cells of a part. -/
theorem trod_part {n : Nat} {cs : List Value} {x : DataW H × List MemPlace} (h : DataW.trod enc Tryz.prog w base spare held n 87 cs = some x) (hl : cs.length = 4) : ∃ p : Bp, cs = encP.enc p := by
  obtain ⟨y0, y1, y2, y3, n', _, _, h0, h1, h2, h3⟩ := trod_struct4 Tryz.underlying87 h
  obtain ⟨c0, c1, c2, c3, rfl⟩ : ∃ c0 c1 c2 c3, cs = [c0, c1, c2, c3] := by
    match cs, hl with
    | [c0, c1, c2, c3], _ => exact ⟨c0, c1, c2, c3, rfl⟩
  have k0 : Tryz.prog.cellsOf 2 = 1 := by kernel_rfl
  have k1 : Tryz.prog.cellsOf 3 = 1 := by kernel_rfl
  simp only [k0, k1, List.drop_zero, List.take_succ_cons, List.take_zero, List.drop_succ_cons] at h0 h1 h2 h3
  obtain ⟨a, e0, _, _⟩ := DataW.trod_int Tryz.underlying2 h0
  obtain ⟨b, e1, _, _⟩ := DataW.trod_int Tryz.underlying3 h1
  obtain ⟨c, e2, _, _⟩ := DataW.trod_int Tryz.underlying3 h2
  obtain ⟨d, e3, _, _⟩ := DataW.trod_int Tryz.underlying3 h3
  obtain rfl : c0 = .int .i64 a := by simpa using e0
  obtain rfl : c1 = .int .i64 b := by simpa using e1
  obtain rfl : c2 = .int .i64 c := by simpa using e2
  obtain rfl : c3 = .int .i64 d := by simpa using e3
  exact ⟨⟨a, b, c, d⟩, rfl⟩
set_option maxRecDepth 100000 in
/-- A row of parts. -/
theorem trod_parts {n : Nat} {v : Value} {x : DataW H × List MemPlace} (h : DataW.trod enc Tryz.prog w base spare held n 32 [v] = some x) : ∃ (L : List Bp) (a : Option Addr) (c : Nat), v = .slice a L.length c ∧ SlPt w a L ∧ L.length ≤ c ∧ c ≤ maxLen := by
  have k4 : Tryz.prog.cellsOf 87 = 4 := by kernel_rfl
  rcases open_slice Tryz.underlying32 h with ⟨e, _⟩ | ⟨a', len, cap, m, n', D, Pl, e, _, hl, hm, hmm, _, hx⟩
  · simp at e
    exact ⟨[], none, 0, e, .inl rfl, Nat.le_refl _, by unfold maxLen; omega⟩
  · simp at e
    have hlm : len ≤ m := by rw [hmm]; split <;> omega
    rw [k4] at hx
    cases len with
    | zero => exact ⟨[], some a', cap, e, .inl rfl, hl, hm⟩
    | succ q =>
      have each : ∀ i, i < q + 1 → ∃ d : Bp, ∀ j u, (encP.enc d)[j]? = some u → w.cell? ((a'.add (i * 4)).add j) = some u := by
        intro i hi
        obtain ⟨cs', h1, h2⟩ := hx i (by omega)
        obtain ⟨_, hl1, hx1⟩ := World.cells?_some h1
        obtain ⟨p, rfl⟩ := trod_part h2 hl1
        refine ⟨p, fun j u hu => ?_⟩
        have hj : j < 4 := by have := (List.getElem?_eq_some_iff.1 hu).1; rw [encP.len] at this; exact this
        have := hx1 j hj
        rw [this]
        exact hu
      have hsp : a'.spot = none := by
        obtain ⟨d, hd⟩ := each 0 (by omega)
        have := spot_none (hd 0 _ rfl)
        simpa [Addr.add] using this
      obtain ⟨V, hV⟩ := choose_lt each
      have hlt : a'.block < w.heap.size := by
        have h0 := hV 0 (by omega) 0 _ rfl
        rw [add_spot hsp] at h0
        rw [add_spot (a := ⟨a'.block, a'.off + 0 * 4, none⟩) rfl] at h0
        have := World.block_lt_of_cell? w _ h0
        exact this
      obtain ⟨ab, ao, asp⟩ := a'
      dsimp only at hsp
      subst hsp
      refine ⟨(List.range (q + 1)).map V, some ⟨ab, ao, none⟩, cap, by simpa using e, .inr ⟨ab, ao, rfl, ⟨fun k hk j u hu => ?_, hlt⟩⟩, by simpa using hl, hm⟩
      have hk' : k < q + 1 := by simpa using hk
      have e1 : ((List.range (q + 1)).map V).getD k default = V k := by simp [List.getD, hk']
      rw [e1] at hu
      have := hV k hk' j u hu
      rw [add_spot (a := ⟨ab, ao, none⟩) rfl] at this
      rw [add_spot (a := ⟨ab, ao + k * 4, none⟩) rfl] at this
      exact this
set_option maxRecDepth 100000 in
/-- A deed's cells. -/
theorem trod_deed {n : Nat} {a : Addr} {cs : List Value} {x : DataW H × List MemPlace} (hc : w.cells? base a 7 = some cs) (h : DataW.trod enc Tryz.prog w base spare held n 34 cs = some x) :
    a.spot = none ∧ ∃ d : DeedM, DeedAt w a.block a.off d := by
  obtain ⟨_, hl, hx⟩ := World.cells?_some hc
  obtain ⟨z0, z1, n', _, _, hE, hP⟩ := trod_struct2 Tryz.underlying34 h
  obtain ⟨c0, c1, c2, c3, c4, c5, c6, rfl⟩ : ∃ c0 c1 c2 c3 c4 c5 c6, cs = [c0, c1, c2, c3, c4, c5, c6] := by
    match cs, hl with
    | [c0, c1, c2, c3, c4, c5, c6], _ => exact ⟨c0, c1, c2, c3, c4, c5, c6, rfl⟩
  have kE : Tryz.prog.cellsOf 31 = 6 := by kernel_rfl
  have kP : Tryz.prog.cellsOf 32 = 1 := by kernel_rfl
  have kD : Tryz.prog.cellsOf 29 = 1 := by kernel_rfl
  have k0 : Tryz.prog.cellsOf 3 = 1 := by kernel_rfl
  have k1 : Tryz.prog.cellsOf 9 = 1 := by kernel_rfl
  have k2 : Tryz.prog.cellsOf 2 = 1 := by kernel_rfl
  simp only [kE, kP, List.drop_zero, List.take_succ_cons, List.take_zero, List.drop_succ_cons] at hE hP
  obtain ⟨y0, y1, y2, y3, y4, y5, n2, _, h0, h1, h2, h3, h4, h5⟩ := trod_struct6 Tryz.underlying31 hE
  simp only [k0, k1, k2, kD, List.drop_zero, List.take_succ_cons, List.take_zero, List.drop_succ_cons] at h0 h1 h2 h3 h4 h5
  obtain ⟨op, e0, _, _⟩ := DataW.trod_int Tryz.underlying3 h0
  obtain ⟨p, e1, _, _⟩ := DataW.trod_string Tryz.underlying9 h1
  obtain ⟨q, e2, _, _⟩ := DataW.trod_string Tryz.underlying9 h2
  obtain ⟨off, e3, _, _⟩ := DataW.trod_int Tryz.underlying2 h3
  obtain ⟨size, e4, _, _⟩ := DataW.trod_int Tryz.underlying2 h4
  obtain rfl : c0 = .int .i64 op := by simpa using e0
  obtain rfl : c1 = .string p := by simpa using e1
  obtain rfl : c2 = .string q := by simpa using e2
  obtain rfl : c3 = .int .i64 off := by simpa using e3
  obtain rfl : c4 = .int .i64 size := by simpa using e4
  obtain ⟨da, dn, dc, rfl, hdn, hdc⟩ : ∃ da dn dc, c5 = .slice da dn dc ∧ dn ≤ dc ∧ dc ≤ maxLen := by
    rcases open_slice Tryz.underlying29 h5 with ⟨e, _⟩ | ⟨a', len, cap, m, n', D, Pl, e, _, hl, hm, _⟩
    · simp at e; exact ⟨none, 0, 0, e, Nat.le_refl _, by unfold maxLen; omega⟩
    · simp at e; exact ⟨_, _, _, e, hl, hm⟩
  obtain ⟨L, la, lc, rfl, hL, hlc, hlm⟩ := trod_parts hP
  have hsp : a.spot = none := by
    have := spot_none (hx 0 (by omega))
    simpa [Addr.add] using this
  refine ⟨hsp, ⟨⟨op, p, q, off, size, List.replicate dn 0⟩, da, dc, L, la, lc⟩, ?_, hL, hlc, by simpa using hdn, hlm, hdc⟩
  intro j u hu
  have hj : j < 7 := (List.getElem?_eq_some_iff.1 hu).1
  have := hx j hj
  rw [add_spot hsp] at this
  rw [this]
  have e : DeedM.cells ⟨⟨op, p, q, off, size, List.replicate dn 0⟩, da, dc, L, la, lc⟩ = [.int .i64 op, .string p, .string q, .int .i64 off, .int .i64 size, .slice da dn dc, .slice la L.length lc] := by
    unfold DeedM.cells
    simp
  rw [e] at hu
  exact hu
end
set_option maxRecDepth 100000 in
theorem open_deedf {H : Type} {enc : TypeId × Value → H} {w : World} {base : Nat} {spare : Nat → Bool} {held : Bool} {r : Reach} {b0 : Nat} {v : Value} {d : DataW H} {p : List MemPlace} (hv : Value.okWide Tryz.prog w r b0 22 v) (h : DataW.Trod enc Tryz.prog w base spare held 22 v d p) :
    ∃ a L cap, v = .slice a L.length cap ∧ SlDd w a L ∧ L.length ≤ cap ∧ cap ≤ maxLen := by
  obtain ⟨a, len, cap, rfl⟩ := okWide_slice Tryz.underlying22 hv
  obtain ⟨fuel, hf⟩ := h
  have k7 : Tryz.prog.cellsOf 34 = 7 := by kernel_rfl
  rcases open_slice Tryz.underlying22 hf with ⟨e, _⟩ | ⟨a', len', cap', m, n, D, Pl, e, _, hl, hm, hmm, _, hx⟩
  · simp [Value.cells] at e
    obtain ⟨rfl, rfl, rfl⟩ := e
    exact ⟨none, [], 0, rfl, .inl rfl, Nat.le_refl _, by unfold maxLen; omega⟩
  · simp [Value.cells] at e
    obtain ⟨rfl, rfl, rfl⟩ := e
    have hlm : len ≤ m := by rw [hmm]; split <;> omega
    rw [k7] at hx
    cases len with
    | zero => exact ⟨some a', [], cap, rfl, .inl rfl, hl, hm⟩
    | succ q =>
      have hsp : a'.spot = none := by
        obtain ⟨cs', h1, h2⟩ := hx 0 (by omega)
        have := (trod_deed h1 h2).1
        simpa [Addr.add] using this
      have each : ∀ i, i < q + 1 → ∃ d : DeedM, DeedAt w a'.block (a'.off + i * 7) d := by
        intro i hi
        obtain ⟨cs', h1, h2⟩ := hx i (by omega)
        obtain ⟨_, d, hd⟩ := trod_deed h1 h2
        rw [add_spot hsp] at hd
        exact ⟨d, hd⟩
      obtain ⟨V, hV⟩ := choose_lt each
      obtain ⟨ab, ao, asp⟩ := a'
      dsimp only at hsp
      subst hsp
      refine ⟨some ⟨ab, ao, none⟩, (List.range (q + 1)).map V, cap, by simp, .inr ⟨ab, ao, rfl, ?_, fun k hk => ?_⟩, by simpa using hl, hm⟩
      · exact World.block_lt_of_cell? w _ ((hV 0 (by omega)).c 0 _ rfl)
      · have hk' : k < q + 1 := by simpa using hk
        have e : ((List.range (q + 1)).map V).getD k default = V k := by simp [List.getD, hk']
        rw [e]
        exact hV k hk'
end Go.Proofs.YtiegadfhgccliaaGreatDoor
