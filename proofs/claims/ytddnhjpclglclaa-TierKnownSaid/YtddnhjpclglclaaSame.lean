/- points.one, slices.EqualFunc at it, points.Same. -/
import Derived.Test.YtddnhjpclglclaaAsk
namespace Go.Proofs.Ytddnhjpclglclaa
open Go.RowKit Fl

def oneB (a b : Pt) : Bool := decide (a.seq = b.seq) && (a.mark.toList == b.mark.toList) && fsame a.st b.st
set_option maxRecDepth 100000 in
set_option maxHeartbeats 1000000 in
theorem one_any (p q : Pt) (w : World) :
    Calls Try.prog 53 #[.agg #[.int .i64 p.seq, .float .f64 p.st, .string p.mark], .agg #[.int .i64 q.seq, .float .f64 q.st, .string q.mark]] w fun e w' => e = .returned (.bool (oneB p q)) ∧ w' = (w.alloc (ptObj p)).alloc (ptObj q) := by
  unfold oneB
  obtain ⟨ps, pt, pm⟩ := p
  obtain ⟨qs, qt, qm⟩ := q
  dsimp only
  cases h1 : decide (ps = qs)
  · simp only [decide_eq_false_iff_not] at h1
    go_enter Try.func53, Try.ntmps53
    go_wp2
    go_ret
    exact ⟨rfl, rfl⟩
  · simp only [decide_eq_true_eq] at h1
    subst h1
    cases h2 : (pm.toList == qm.toList)
    · go_enter Try.func53, Try.ntmps53
      go_wp2
      go_ret
      exact ⟨rfl, rfl⟩
    · go_enter Try.func53, Try.ntmps53
      go_wp2_with (go_at_call 31; refine (same_any _ _ _).mono ?_; rintro e w' ⟨rfl, rfl⟩)
      go_ret
      exact ⟨rfl, rfl⟩

def sameP (L M : List Pt) : Prop := L.length = M.length ∧ ∀ k, k < L.length → oneB (L.getD k default) (M.getD k default) = true
open Classical in
noncomputable def sameB (L M : List Pt) : Bool := decide (sameP L M)
theorem sameB_true {L M : List Pt} : sameB L M = true ↔ sameP L M := by simp [sameB]
theorem sameB_false {L M : List Pt} : sameB L M = false ↔ ¬ sameP L M := by simp [sameB]

set_option maxRecDepth 100000 in
set_option maxHeartbeats 2000000 in
theorem equal_any (a : Option Addr) (cap : Nat) (L : List Pt) (a' : Option Addr) (cap' : Nat) (M : List Pt) (w : World) (hI : SlP w (.slice a L.length cap) L) (hJ : SlP w (.slice a' M.length cap') M) (hn : L.length < 9223372036854775807) (hm : M.length < 9223372036854775807) :
    Calls Try.prog 52 #[.slice a L.length cap, .slice a' M.length cap', .func (.func 53) #[] #[]] w fun e w' => e = .returned (.bool (sameB L M)) ∧ Below w.heap.size w w' := by
  by_cases hl : L.length = M.length
  · have HL := Lib.hid hl
    rw [← hl]
    rw [← hl] at hJ hm
    clear hl
    go_enter Try.func52, Try.ntmps52
    go_wp2
    go_loopw [17] (fun i wr => ∃ k : Nat, k ≤ L.length ∧ i = .int .i64 k ∧ (∀ j, j < k → oneB (L.getD j default) (M.getD j default) = true) ∧ Below w.heap.size w wr) (fun i _ => L.length - (intOf i).toNat)
    case atStart => exact ⟨0, by omega, rfl, by intro j h; omega, Below.refl _ _⟩
    case round =>
      obtain ⟨k, hk, rfl, hall, hB⟩ := hrel
      by_cases hlt : k < L.length
      · obtain ⟨b, off, rfl, hr⟩ : ∃ b off, a = some ⟨b, off, none⟩ ∧ RdP w b off L := by
          rcases hI with ⟨_, _, e, rfl⟩ | ⟨b, off, _, e, hr⟩
          · simp at hlt
          · cases e; exact ⟨b, off, rfl, hr⟩
        obtain ⟨b', off', rfl, hr'⟩ : ∃ b off, a' = some ⟨b, off, none⟩ ∧ RdP w b off M := by
          rcases hJ with ⟨_, _, e, _⟩ | ⟨b, off, _, e, hr⟩
          · have := (Value.slice.inj e).2.1; omega
          · exact ⟨b, off, (Value.slice.inj e).1, hr⟩
        obtain ⟨c0, c1, c2⟩ := (hr.at_ k hlt).below hB hr.lt
        have hkm : k < M.length := by rw [← HL.out]; exact hlt
        obtain ⟨d0, d1, d2⟩ := (hr'.at_ k hkm).below hB hr'.lt
        have hb : b < wr.heap.size := Nat.lt_of_lt_of_le hr.lt hB.size
        have hb' : b' < wr.heap.size := Nat.lt_of_lt_of_le hr'.lt hB.size
        have HA := Lib.hid hall
        clear hall
        generalize hP : L.getD k default = p at *
        generalize hQ : M.getD k default = q at *
        have HP := Lib.hid hP
        have HQ := Lib.hid hQ
        clear hP hQ
        cases hx : oneB p q
        · have HF : Hid (sameB L M = false) := sameB_false.2 fun h => by have := h.2 k hlt; rw [HP.out, HQ.out, hx] at this; cases this
          go_wp2_with (go_at_call 53; refine (one_any p q _).mono ?_; rintro e w' ⟨rfl, rfl⟩; rw [hx])
          go_ret
          exact ⟨by rw [HF.out]; rfl, (((hB.alloc hB.size _).alloc (by simp; have := hB.size; omega) _).alloc (by simp; have := hB.size; omega) _).alloc (by simp; have := hB.size; omega) _⟩
        · have HX := Lib.hid hx
          go_wp2_with (go_at_call 53; refine (one_any p q _).mono ?_; rintro e w' ⟨rfl, rfl⟩; rw [HX.out])
          exact ⟨⟨k + 1, by omega, by go_num, snoc_all HA.out (by rw [HP.out, HQ.out, HX.out]), (((hB.alloc hB.size _).alloc (by simp; have := hB.size; omega) _).alloc (by simp; have := hB.size; omega) _).alloc (by simp; have := hB.size; omega) _⟩, by simp [intOf]; omega⟩
      · obtain rfl : k = L.length := by omega
        have HF : Hid (sameB L M = true) := sameB_true.2 ⟨HL.out, hall⟩
        clear hall
        go_wp2
        go_ret
        exact ⟨by rw [HF.out]; rfl, hB⟩
  · have hl1 : ((L.length : Int) != (M.length : Int)) = true := by simp; omega
    have HF : Hid (sameB L M = false) := sameB_false.2 fun h => hl h.1
    go_enter Try.func52, Try.ntmps52
    go_wp2
    go_ret
    exact ⟨by rw [HF.out]; rfl, Below.refl _ _⟩

set_option maxRecDepth 100000 in
set_option maxHeartbeats 2000000 in
theorem psame_any (a : Option Addr) (cap : Nat) (L : List Pt) (a' : Option Addr) (cap' : Nat) (M : List Pt) (w : World) (hI : SlP w (.slice a L.length cap) L) (hJ : SlP w (.slice a' M.length cap') M) (hn : L.length < 9223372036854775807) (hm : M.length < 9223372036854775807) :
    Calls Try.prog 21 #[.slice a L.length cap, .slice a' M.length cap'] w fun e w' => e = .returned (.bool (sameB L M)) ∧ Below w.heap.size w w' := by
  go_enter Try.func21, Try.ntmps21
  go_wp2_with (go_at_call 52; refine (equal_any _ _ _ _ _ _ _ hI hJ hn hm).mono ?_; rintro e w' ⟨rfl, hB⟩)
  go_ret
  exact ⟨rfl, hB⟩
end Go.Proofs.Ytddnhjpclglclaa
