/- What PointsAsk asks: in plain Lean; and a parameter of two numbers opened. -/
import Derived.Test.YtddnhjpclglclaaSeqL
import Derived.Test.YtddnhjpclglclaaFrame
namespace Go.Proofs.Ytddnhjpclglclaa
open Go.ChangeShapes Go.WideShapes Go.ChangeAt Go.RowKit Go.Deep Fl
theorem open_two {H : Type} {enc : TypeId × Value → H} {w : World} {base : Nat} {spare : Nat → Bool} {held : Bool} {r : Reach} {b0 : Nat} {v : Value} {d : DataW H} {p : List MemPlace} (hv : Value.okWide Try.prog w r b0 40 v) (h : DataW.Trod enc Try.prog w base spare held 40 v d p) :
    ∃ a b, v = .agg #[.int .i64 a, .int .i64 b] ∧ (-9223372036854775808 ≤ a ∧ a ≤ 9223372036854775807) ∧ (-9223372036854775808 ≤ b ∧ b ≤ 9223372036854775807) := by
  simp only [Value.okWide, Try.underlying40] at hv
  obtain ⟨cs, rfl, hs, _⟩ := hv
  have k1 : Try.prog.cellsOf 3 = 1 := by kernel_rfl
  have k2 : Try.prog.cellsOf 40 = 2 := by kernel_rfl
  obtain ⟨fuel, hf⟩ := h
  obtain ⟨xs, m, _, ex, _, hl, hel⟩ := DataW.trod_array Try.underlying40 hf
  rw [k2] at hs
  obtain ⟨l⟩ := cs
  match l, hs with
  | [a, b], _ =>
    have h0 := hel 0 (by omega)
    have h1 := hel 1 (by omega)
    match xs, hl with
    | [x0, x1], _ =>
      rw [k1] at h0 h1
      obtain ⟨z0, a0, b0, w0⟩ := DataW.trod_int Try.underlying3 h0
      obtain ⟨z1, a1, b1, w1⟩ := DataW.trod_int Try.underlying3 h1
      simp [Value.cells] at a0 a1
      subst a0 a1
      exact ⟨z0, z1, rfl, wf_i64 w0, wf_i64 w1⟩

/-- What the law's loop has found among the first k. -/
def fnd (φ : Pt → Bool) (L : List Pt) (k : Nat) : Pt := ((L.take k).reverse.find? φ).getD ptZero
theorem fnd_zero (φ : Pt → Bool) (L : List Pt) : fnd φ L 0 = ptZero := by simp [fnd]
theorem fnd_succ (φ : Pt → Bool) {L : List Pt} {k : Nat} (hk : k < L.length) : fnd φ L (k + 1) = if φ (L.getD k default) = true then L.getD k default else fnd φ L k := by
  unfold fnd
  rw [List.take_succ_eq_append_getElem hk, List.reverse_append, getD_el hk]
  simp only [List.reverse_cons, List.reverse_nil, List.nil_append, List.singleton_append, List.find?_cons]
  cases φ L[k] <;> simp
theorem fnd_yes {φ : Pt → Bool} {L : List Pt} {k : Nat} (hk : k < L.length) {p : Pt} (h : L.getD k default = p) (hφ : φ p = true) : fnd φ L (k + 1) = p := by
  rw [fnd_succ φ hk, h, if_pos hφ]
theorem fnd_no {φ : Pt → Bool} {L : List Pt} {k : Nat} (hk : k < L.length) {p : Pt} (h : L.getD k default = p) (hφ : φ p = false) : fnd φ L (k + 1) = fnd φ L k := by
  rw [fnd_succ φ hk, h, if_neg (by simp [hφ])]
theorem fnd_all {φ : Pt → Bool} {L : List Pt} (hm : mayB L = true) : ∃ p c, askR φ L = (p, c) ∧ fnd φ L L.length = p ∧ (FloatKind.f64.format.order p.st p.st == some .eq) = true ∧ ((c = 0 ∧ decide (0 < p.seq) = true) ∨ (c = 14 ∧ decide (0 < p.seq) = false)) := by
  cases h : L.reverse.find? φ with
  | none => exact ⟨ptZero, 14, by simp [askR, hm, h], by simp [fnd, h], by decide +kernel, .inr ⟨rfl, rfl⟩⟩
  | some p =>
    have e : askR φ L = (p, 0) := by simp [askR, hm, h]
    obtain ⟨k, hk, e2, _, _⟩ := lastOf_inv h
    have h1 := ((mayB_true.1 hm).ok1 hk).1
    rw [e2] at h1
    exact ⟨p, 0, e, by simp [fnd, h], ask_refl hm e, .inl ⟨rfl, decide_eq_true (by omega)⟩⟩
theorem ask_bad {φ : Pt → Bool} {L : List Pt} (hm : mayB L = false) : askR φ L = (⟨0, 0, ⟨#[]⟩⟩, 1) := by simp [askR, hm, ptZero]
theorem keepB {W W' : World} {B : Nat} {o : Obj} (h : W.heap[B]? = some o) (hb : Below W.heap.size W W') : W'.heap[B]? = some o :=
  (hb.block B (Array.getElem?_eq_some_iff.1 h).1).trans h
theorem keepA {W : World} {B : Nat} {o : Obj} (o' : Obj) (h : W.heap[B]? = some o) : (W.alloc o').heap[B]? = some o :=
  (Below.heap_alloc W o' B (Array.getElem?_eq_some_iff.1 h).1).trans h
theorem two_cells {W : World} {B : Nat} {a b : Value} {t : TypeId} (h : W.heap[B]? = some (.cells #[a, b] t)) : W.cell? ⟨B, 0, none⟩ = some a ∧ W.cell? ⟨B, 1, none⟩ = some b := ⟨by simp [World.cell?, h], by simp [World.cell?, h]⟩
end Go.Proofs.Ytddnhjpclglclaa
