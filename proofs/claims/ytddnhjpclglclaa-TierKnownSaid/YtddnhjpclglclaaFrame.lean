/- A parameter []api.Point opened: it reads as points. -/
import Derived.Test.YtddnhjpclglclaaBack
import Derived.Test.YtddnhjpclglclaaLaw
import Derived.Deep.Slices
import Derived.Deep.Strs
namespace Go.Proofs.Ytddnhjpclglclaa
open Go.ChangeShapes Go.WideShapes Go.ChangeAt Go.RowKit Go.Deep

theorem trod_float {H : Type} {enc : TypeId × Value → H} {P : Program} {w : World} {base : Nat} {spare : Nat → Bool} {held : Bool} {t : TypeId} {k : FloatKind} {fuel : Nat} {cs : List Value} {x : DataW H × List MemPlace} (ht : P.underlying t = some (.float k)) (h : DataW.trod enc P w base spare held fuel t cs = some x) :
    ∃ b, cs = [.float k b] ∧ (Lit.float k b).wf = true := by
  cases fuel with
  | zero => simp [DataW.trod] at h
  | succ n =>
    unfold DataW.trod at h
    rw [ht] at h
    split at h <;> simp_all

theorem wf_f64 {n : Nat} (h : (Lit.float .f64 n).wf = true) : n < 18446744073709551616 := by
  simpa [Lit.wf] using h

/-- One place's three cells, read as a point. -/
theorem open_pt {H : Type} {enc : TypeId × Value → H} {w : World} {base : Nat} {spare : Nat → Bool} {held : Bool} {n : Nat} {a : Addr} {cs : List Value} {x : DataW H × List MemPlace}
    (hc : w.cells? base a 3 = some cs) (h : DataW.trod enc Try.prog w base spare held n 27 cs = some x) :
    a.spot = none ∧ ∃ p : Pt, PCell w a.block a.off p ∧ PFit p := by
  obtain ⟨_, hl, hx⟩ := World.cells?_some hc
  obtain ⟨y0, y1, y2, n', _, _, h0, h1, h2⟩ := trod_struct3 Try.underlying27 h
  obtain ⟨c0, c1, c2, rfl⟩ : ∃ c0 c1 c2, cs = [c0, c1, c2] := by
    match cs, hl with
    | [c0, c1, c2], _ => exact ⟨c0, c1, c2, rfl⟩
  have k0 : Try.prog.cellsOf 3 = 1 := by kernel_rfl
  have k1 : Try.prog.cellsOf 23 = 1 := by kernel_rfl
  have k2 : Try.prog.cellsOf 9 = 1 := by kernel_rfl
  simp only [k0, k1, k2, List.drop_zero, List.take_succ_cons, List.take_zero, List.drop_succ_cons] at h0 h1 h2
  obtain ⟨s, e0, _, w0⟩ := DataW.trod_int Try.underlying3 h0
  obtain ⟨t, e1, w1⟩ := trod_float Try.underlying23 h1
  obtain ⟨m, e2, _, w2⟩ := DataW.trod_string Try.underlying9 h2
  obtain rfl : c0 = .int .i64 s := by simpa using e0
  obtain rfl : c1 = .float .f64 t := by simpa using e1
  obtain rfl : c2 = .string m := by simpa using e2
  have g0 := hx 0 (by omega)
  have g1 := hx 1 (by omega)
  have g2 := hx 2 (by omega)
  obtain ⟨ab, ao, asp⟩ := a
  have hsp : asp = none := by
    cases asp with
    | none => rfl
    | some q =>
      have : w.cell? ⟨ab, ao, some q⟩ = none := by
        unfold World.cell?
        split <;> simp
      simp [Addr.add, this] at g0
  subst hsp
  exact ⟨rfl, ⟨s, t, m⟩, ⟨by simpa [Addr.add] using g0, by simpa [Addr.add] using g1, by simpa [Addr.add] using g2⟩, ⟨wf_i64 w0, wf_f64 w1, w2⟩⟩

theorem open_pts {H : Type} {enc : TypeId × Value → H} {w : World} {base : Nat} {spare : Nat → Bool} {held : Bool} {r : Reach} {b0 : Nat} {v : Value} {d : DataW H} {p : List MemPlace} (hv : Value.okWide Try.prog w r b0 22 v) (h : DataW.Trod enc Try.prog w base spare held 22 v d p) :
    ∃ a L cap, v = .slice a L.length cap ∧ SlP w v L ∧ L.length ≤ cap ∧ cap ≤ 9223372036854775807 := by
  obtain ⟨a, len, cap, rfl⟩ := okWide_slice Try.underlying22 hv
  obtain ⟨fuel, hf⟩ := h
  have k3 : Try.prog.cellsOf 27 = 3 := by kernel_rfl
  rcases open_slice Try.underlying22 hf with ⟨e, _⟩ | ⟨a', len', cap', m, n, D, Pl, e, _, hl, hm, hmm, _, hx⟩
  · simp [Value.cells] at e
    obtain ⟨rfl, rfl, rfl⟩ := e
    exact ⟨none, [], 0, rfl, .inl ⟨none, 0, rfl, rfl⟩, Nat.le_refl _, by omega⟩
  · simp [Value.cells] at e
    obtain ⟨rfl, rfl, rfl⟩ := e
    have hlm : len ≤ m := by rw [hmm]; split <;> omega
    rw [k3] at hx
    cases len with
    | zero => exact ⟨some a', [], cap, rfl, .inl ⟨some a', cap, rfl, rfl⟩, hl, hm⟩
    | succ q =>
      have each : ∀ i, i < q + 1 → ∃ p : Pt, PCell w a'.block (a'.off + i * 3) p ∧ PFit p := by
        intro i hi
        obtain ⟨cs', h1, h2⟩ := hx i (by omega)
        obtain ⟨_, p, h3, h4⟩ := open_pt h1 h2
        refine ⟨p, ?_, h4⟩
        have e1 : (a'.add (i * 3)).block = a'.block := by unfold Addr.add; split <;> rfl
        have e2 : (a'.add (i * 3)).off = a'.off + i * 3 := by unfold Addr.add; split <;> simp_all
        rw [e1, e2] at h3
        exact h3
      have hsp : a'.spot = none := by
        obtain ⟨cs', h1, h2⟩ := hx 0 (by omega)
        have := (open_pt h1 h2).1
        simpa [Addr.add] using this
      obtain ⟨V, hV⟩ := choose_lt each
      obtain ⟨ab, ao, asp⟩ := a'
      subst hsp
      refine ⟨some ⟨ab, ao, none⟩, (List.range (q + 1)).map V, cap, by simp, .inr ⟨ab, ao, cap, by simp, ⟨fun k hk => ?_, ?_, fun k hk => ?_⟩⟩, by simpa using hl, hm⟩
      · have hk' : k < q + 1 := by simpa using hk
        have : ((List.range (q + 1)).map V).getD k default = V k := by simp [List.getD, hk']
        rw [this]
        exact (hV k hk').1
      · have h0 := (hV 0 (by omega)).1.c0
        by_cases hlt : ab < w.heap.size
        · exact hlt
        · unfold World.cell? at h0
          rw [Array.getElem?_eq_none (by simpa using hlt)] at h0
          cases h0
      · have hk' : k < q + 1 := by simpa using hk
        have : ((List.range (q + 1)).map V).getD k default = V k := by simp [List.getD, hk']
        rw [this]
        exact (hV k hk').2
end Go.Proofs.Ytddnhjpclglclaa
