/- treeringref1.At, points.Same. -/
import Derived.Test.YtddnhjpclglclaaLast
namespace Go.Proofs.Ytddnhjpclglclaa
open Go.RowKit Fl

theorem getD_el {L : List Pt} {k : Nat} (hk : k < L.length) : L.getD k default = L[k] := by rw [List.getD_eq_getElem?_getD, List.getElem?_eq_getElem hk]; rfl
/-- The last one that passes, read by its place. -/
theorem lastOf_at {φ : Pt → Bool} {L : List Pt} {k : Nat} (hk : k < L.length) (hx : φ (L.getD k default) = true) (h : ∀ j, k < j → j < L.length → φ (L.getD j default) = false) : L.reverse.find? φ = some (L.getD k default) := by
  have e : L = L.take k ++ L.getD k default :: L.drop (k + 1) := by
    rw [getD_el hk, List.getElem_cons_drop, List.take_append_drop]
  rw [e, List.reverse_append, List.reverse_cons, List.append_assoc, List.find?_append, List.find?_eq_none.2]
  · rw [← e]; simp only [List.cons_append, List.nil_append, Option.none_or, List.find?_cons, hx]
  · intro p hp
    rw [List.mem_reverse] at hp
    obtain ⟨i, hi, rfl⟩ := List.getElem_of_mem hp
    have hl : k + 1 + i < L.length := by simp at hi; omega
    have := h (k + 1 + i) (by omega) hl
    rw [getD_el hl] at this
    simp [this]
theorem lastOf_no {φ : Pt → Bool} {L : List Pt} (h : ∀ j, j < L.length → φ (L.getD j default) = false) : L.reverse.find? φ = none := by
  rw [List.find?_eq_none]
  intro p hp
  rw [List.mem_reverse] at hp
  obtain ⟨i, hi, rfl⟩ := List.getElem_of_mem hp
  have := h i hi
  rw [getD_el hi] at this
  simp [this]

set_option maxRecDepth 100000 in
set_option maxHeartbeats 1000000 in
theorem rpmay_nil (a : Option Addr) (cap : Nat) (w : World) :
    Calls Try.prog 19 #[.slice a 0 cap] w fun e w' => e = .returned (.bool true) ∧ Below w.heap.size w w' := by
  go_enter Try.func19, Try.ntmps19
  go_wp2
  go_loopw [3] (fun i wr => i = .int .i64 0 ∧ Below w.heap.size w wr) (fun _ _ => 0)
  case atStart => exact ⟨rfl, Below.refl _ _⟩
  case round =>
    obtain ⟨rfl, hB⟩ := hrel
    go_wp2
    go_ret
    exact ⟨rfl, hB⟩
theorem rpmay_sl (a : Option Addr) (cap : Nat) (L : List Pt) (w : World) (hI : SlP w (.slice a L.length cap) L) (hn : L.length < 9223372036854775807) :
    Calls Try.prog 19 #[.slice a L.length cap] w fun e w' => e = .returned (.bool (mayB L)) ∧ Below w.heap.size w w' := by
  rcases hI with ⟨a', cap', e, rfl⟩ | ⟨b, off, cap', e, hr⟩
  · rw [mayB_nil]; exact rpmay_nil a cap w
  · cases e; exact rpmay_any b off cap L w hr hn

/-! ### treeringref1.At -/
set_option maxRecDepth 100000 in
set_option maxHeartbeats 2000000 in
theorem rat_any (t : Nat) (a : Option Addr) (cap : Nat) (L : List Pt) (w : World) (hI : SlP w (.slice a L.length cap) L) (hn : L.length < 9223372036854775807) :
    Calls Try.prog 27 #[.slice a L.length cap, .float .f64 t] w fun e w' => e = .returned (askV (askR (phi_at t) L)) ∧ Below w.heap.size w w' := by
  cases hm : mayB L
  · go_enter Try.func27, Try.ntmps27
    go_wp2_with
     (go_at_call 19; refine (rpmay_sl _ _ _ _ (hI.below ((Below.refl _ w).alloc (Nat.le_refl _) _)) hn).mono ?_; rintro e w1 ⟨rfl, hB1⟩; rw [hm]
      have hS : w1.heap[w.heap.size]? = some (ptObj ptZero) := (hB1.block _ (by simp)).trans (World.alloc_heap_new w (ptObj ptZero))
      have hBw := (((Below.refl _ w).alloc (Nat.le_refl _) (ptObj ptZero))).trans (hB1.mono (by simp))
      obtain ⟨⟨a0, a1⟩, ⟨b0, b1⟩, c0, c1⟩ := sfacts hS ptZero.seq ptZero.st
      have hz := send (n := w.heap.size) hS (by omega) ptZero.seq ptZero.st ptZero.mark
      obtain ⟨⟨u0, u1, u2⟩, hBz⟩ := hz
      have hBe := Lib.hid (hBz hBw)
      dsimp only [ptZero] at a0 a1 b0 b1 c0 c1 u0 u1 u2
      clear hS hB1 hBw hBz)
    refine bodyPost_ret (v := .tuple #[.agg #[.int .i64 0, .float .f64 0, .string ⟨#[]⟩], .int .i64 1]) (by simp [results, Try.f27, go_sem, u0, u1, u2]) rfl ⟨by simp [askR, hm, askV, ptZero], hBe.out⟩
  · go_enter Try.func27, Try.ntmps27
    have hi0 : IntKind.i64.wrap ((L.length : Int) - 1) = (L.length : Int) - 1 := IntWalk.i64_in _ (by omega)
    go_wp2_with
     (go_at_call 19; refine (rpmay_sl _ _ _ _ (hI.below ((Below.refl _ w).alloc (Nat.le_refl _) _)) hn).mono ?_; rintro e w1 ⟨rfl, hB1⟩; rw [hm]
      have hS : w1.heap[w.heap.size]? = some (ptObj ptZero) := (hB1.block _ (by simp)).trans (World.alloc_heap_new w (ptObj ptZero))
      have hBw := (((Below.refl _ w).alloc (Nat.le_refl _) (ptObj ptZero))).trans (hB1.mono (by simp))
      have hS1 : w.heap.size < w1.heap.size := by have := hB1.size; simp at this; omega
      clear hB1)
    go_loopw [6] (fun i wr => ∃ k : Nat, k ≤ L.length ∧ i = .int .i64 ((k : Int) - 1) ∧ (∀ j, k ≤ j → j < L.length → phi_at t (L.getD j default) = false) ∧ wr = w1) (fun i _ => (intOf i + 1).toNat)
    case atStart => exact ⟨L.length, by omega, rfl, by intro j h1 h2; omega, rfl⟩
    case round =>
      obtain ⟨k, hk, rfl, hall, rfl⟩ := hrel
      cases k with
      | zero =>
        obtain ⟨⟨a0, a1⟩, ⟨b0, b1⟩, c0, c1⟩ := sfacts hS ptZero.seq ptZero.st
        have hz := send (n := w.heap.size) hS (by omega) ptZero.seq ptZero.st ptZero.mark
        obtain ⟨⟨u0, u1, u2⟩, hBz⟩ := hz
        have hBe := Lib.hid (hBz hBw)
        have hno := Lib.hid (lastOf_no (φ := phi_at t) (L := L) fun j hj => hall j (by omega) hj)
        dsimp only [ptZero] at a0 a1 b0 b1 c0 c1 u0 u1 u2
        clear hS hBw hBz hall
        have hi : (((0 : Nat) : Int) - 1) = -1 := rfl
        rw [hi]
        go_wp2
        refine bodyPost_ret (v := .tuple #[.agg #[.int .i64 0, .float .f64 0, .string ⟨#[]⟩], .int .i64 14]) (by simp [results, Try.f27, go_sem, u0, u1, u2]) rfl ⟨by simp [askR, hm, hno.out, askV, ptZero], hBe.out⟩
      | succ m =>
        obtain ⟨b, off, rfl, hr⟩ : ∃ b off, a = some ⟨b, off, none⟩ ∧ RdP w b off L := by
          rcases hI with ⟨a', cap', e, rfl⟩ | ⟨b, off, cap', e, hr⟩
          · simp at hk
          · cases e; exact ⟨b, off, rfl, hr⟩
        have hml : m < L.length := by omega
        obtain ⟨c0, c1, c2⟩ := (hr.at_ m hml).below hBw hr.lt
        have hi : (((m + 1 : Nat) : Int) - 1) = (m : Int) := by omega
        have hi1 : IntKind.i64.wrap ((m : Int) - 1) = (m : Int) - 1 := IntWalk.i64_in _ (by omega)
        rw [hi]
        clear hi hk
        have hall' := Lib.hid hall
        clear hall
        cases hx : phi_at t (L.getD m default)
        · generalize hP : L.getD m default = p at *
          have hx' := hx
          unfold phi_at at hx'
          have HP := Lib.hid hP
          have HX := Lib.hid hx
          have HW := Lib.hid hBw
          clear hP hx hBw
          go_wp2
          exact ⟨⟨m, by omega, rfl, fun j h1 h2 => by
            by_cases e : j = m
            · subst e; rw [HP.out]; exact HX.out
            · exact hall'.out j (by omega) h2, trivial⟩, by simp [intOf]⟩
        · have hyes := Lib.hid (lastOf_at (φ := phi_at t) hml hx fun j h1 h2 => hall'.out j (by omega) h2)
          generalize hP : L.getD m default = p at *
          have hx' := hx
          unfold phi_at at hx'
          obtain ⟨⟨a0, a1⟩, ⟨b0, b1⟩, d0, d1⟩ := sfacts hS p.seq p.st
          have hz := send (n := w.heap.size) hS (by omega) p.seq p.st p.mark
          obtain ⟨⟨u0, u1, u2⟩, hBz⟩ := hz
          have hBe := Lib.hid (hBz hBw)
          have HP := Lib.hid hP
          clear hP hx hBw hBz hS hall'
          go_wp2
          refine bodyPost_ret (v := .tuple #[.agg #[.int .i64 p.seq, .float .f64 p.st, .string p.mark], .int .i64 0]) (by simp [results, Try.f27, go_sem, u0, u1, u2]) rfl ⟨by simp [askR, hm, hyes.out, askV], hBe.out⟩
end Go.Proofs.Ytddnhjpclglclaa
