/- Package body, by hand: ahead, behind, Trunc; fold's long. -/
import Derived.Test.YtiegadfhgccliaaGreatDoorMDocNm
import Derived.Test.YtiegadfhgccliaaGreatDoorMDocD
import Derived.Deep.AppendLies
namespace Go.Proofs.YtiegadfhgccliaaGreatDoor
open Go.RowKit Go.Lib

theorem mayFrom_step (size at0 : Int) (L : List Bp) {k : Nat} (hk : k < L.length) : mayFrom size at0 (L.drop k) = ((fitsP (L.getD k default) && decide (at0 ≤ (L.getD k default).off) && decide ((L.getD k default).off ≤ size - (L.getD k default).ln)) && mayFrom size ((L.getD k default).off + (L.getD k default).ln) (L.drop (k + 1))) := by
  rw [List.drop_eq_getElem_cons hk]
  have e : L.getD k default = L[k] := by simp [List.getD, hk]
  rw [e]
  rfl
theorem b2_cells {w : World} {B : Nat} {a b : Value} {t : TypeId} (h : w.heap[B]? = some (.cells #[a, b] t (0, 0))) : w.cell? ⟨B, 0, none⟩ = some a ∧ w.cell? ⟨B, 1, none⟩ = some b := by
  unfold World.cell?
  rw [h]
  exact ⟨rfl, rfl⟩
theorem b4_facts {w : World} {B : Nat} {a b c d : Value} {t : TypeId} (h : w.heap[B]? = some (.cells #[a, b, c, d] t (0, 0))) : w.cell? ⟨B, 0, none⟩ = some a ∧ w.cell? ⟨B, 1, none⟩ = some b ∧ w.cell? ⟨B, 2, none⟩ = some c ∧ w.cell? ⟨B, 3, none⟩ = some d := by
  unfold World.cell?
  rw [h]
  exact ⟨rfl, rfl, rfl, rfl⟩
set_option maxRecDepth 100000 in
set_option maxHeartbeats 8000000 in
theorem bmay_any (b : Bd) (a : Option Addr) (c : Nat) (w : World) (hS : SlPt w a b.parts) (hc : b.parts.length ≤ c) (hl : b.parts.length ≤ 1000000000) :
    Calls Tryz.prog 56 #[.agg #[.int .i64 b.size, .slice a b.parts.length c]] w fun e w' => e = .returned (.bool (mayBd b)) ∧ Below w.heap.size w w' := by
  obtain ⟨size, L⟩ := b
  dsimp only at hS hc hl ⊢
  obtain ⟨r, hr⟩ : ∃ r, mayBd ⟨size, L⟩ = r := ⟨_, rfl⟩
  rw [hr]
  have HW : Hid (Below w.heap.size w (w.alloc (.cells #[.int .i64 size, .slice a L.length c] 47))) := Lib.hid ((Below.refl _ _).alloc (Nat.le_refl _) _)
  by_cases b1 : size < 0
  · have h0 : r = false := by rw [← hr]; unfold mayBd; simp; omega
    subst h0
    clear hr hS
    go_enter Tryz.func56, Tryz.ntmps56
    go_wp2
    go_ret
    exact ⟨rfl, HW.out⟩
  by_cases b2 : size > 1099511627776
  · have h0 : r = false := by rw [← hr]; unfold mayBd; simp; omega
    subst h0
    clear hr hS
    go_enter Tryz.func56, Tryz.ntmps56
    go_wp2
    go_ret
    exact ⟨rfl, HW.out⟩
  have HM : Hid (mayFrom size 0 L = r) := Lib.hid (by
    rw [← hr]; unfold mayBd
    rw [decide_eq_true (show (0 : Int) ≤ size by omega), decide_eq_true (show size ≤ 1099511627776 by omega)]
    rfl)
  have HS := Lib.hid hS
  clear hr hS
  go_enter Tryz.func56, Tryz.ntmps56
  go_upto_region 3 with (fail)
  have hbx := heap_alloc_new w (.cells #[.int .i64 size, .slice a L.length c] 47)
  have hsz : (w.alloc (.cells #[.int .i64 size, .slice a L.length c] 47)).heap.size = w.heap.size + 1 := by simp
  generalize w.alloc (.cells #[.int .i64 size, .slice a L.length c] 47) = W at *
  have HBx := Lib.hid hbx
  obtain ⟨m0, m1⟩ := b2_cells hbx
  clear hbx
  go_wp2
  go_loopw [3, 17] (fun v i wr => ∃ (k : Nat) (x : Int), k ≤ L.length ∧ v = .int .i64 x ∧ i = .int .i64 (k : Int) ∧ 0 ≤ x ∧ x ≤ 2199023255552 ∧ Hid (mayFrom size x (L.drop k) = r) ∧ Hid (Below W.heap.size W wr)) (fun _ i _ => L.length - (intOf i).toNat)
  case atStart => exact ⟨0, 0, by omega, rfl, rfl, by omega, by omega, HM, Lib.hid (Below.refl _ _)⟩
  case round =>
    obtain ⟨k, x, hk, rfl, rfl, hx0, hx1, HF, HB⟩ := hrel
    have HBw := Lib.hid (HW.out.trans (HB.out.mono (by omega)))
    by_cases hlt : k < L.length
    · have hst := mayFrom_step size x L hlt
      rw [HF.out] at hst
      obtain ⟨bb, o, rfl, p0, p1, p2, p3, hbl⟩ := SlPt_at (HS.out.below HBw.out) hlt
      have hki : (k : Int) < (L.length : Int) := by omega
      have hkc : (k : Int) < (c : Int) := by omega
      have HFi : Hid (∀ V, Calls Tryz.prog 86 #[.agg #[.int .i64 (L.getD k default).off, .int .i64 (L.getD k default).ln, .int .i64 (L.getD k default).ch, .int .i64 (L.getD k default).at_]] V fun e w' => e = .returned (.bool (fitsP (L.getD k default))) ∧ Below V.heap.size V w') := fun V => fits_any _ V
      have HEn : Hid (∀ V, -1000000000000000 ≤ (L.getD k default).off + (L.getD k default).ln → (L.getD k default).off + (L.getD k default).ln ≤ 1000000000000000 → Calls Tryz.prog 87 #[.agg #[.int .i64 (L.getD k default).off, .int .i64 (L.getD k default).ln, .int .i64 (L.getD k default).ch, .int .i64 (L.getD k default).at_]] V fun e w' => e = .returned (.int .i64 ((L.getD k default).off + (L.getD k default).ln)) ∧ Below V.heap.size V w') := fun V h1 h2 => end_any _ V h1 h2
      have hft : fitsP (L.getD k default) = true → 1 ≤ (L.getD k default).ln ∧ (L.getD k default).ln ≤ 64 := fun h => ⟨(fitsP_spec h).1, (fitsP_spec h).2.1⟩
      generalize L.getD k default = p at *
      obtain ⟨po, pl, pc, pa⟩ := p
      dsimp only at p0 p1 p2 p3 HFi HEn hft hst
      have m0r := (World.cell?_of_block (HB.out.block w.heap.size (by omega)) : wr.cell? ⟨w.heap.size, 0, none⟩ = _).trans m0
      have hbr : w.heap.size < wr.heap.size := by have := HB.out.size; omega
      go_upto_region 7 with (fail)
      have hbp := heap_alloc_new wr (.cells #[.int .i64 po, .int .i64 pl, .int .i64 pc, .int .i64 pa] 40)
      have hsp : (wr.alloc (.cells #[.int .i64 po, .int .i64 pl, .int .i64 pc, .int .i64 pa] 40)).heap.size = wr.heap.size + 1 := by simp
      have HBr : Hid (Below W.heap.size W (wr.alloc (.cells #[.int .i64 po, .int .i64 pl, .int .i64 pc, .int .i64 pa] 40))) := Lib.hid (HB.out.alloc HB.out.size _)
      have m0p : (wr.alloc (.cells #[.int .i64 po, .int .i64 pl, .int .i64 pc, .int .i64 pa] 40)).cell? ⟨w.heap.size, 0, none⟩ = some (.int .i64 size) := (World.cell?_of_block (((Below.refl wr.heap.size wr).alloc (Nat.le_refl _) _).block w.heap.size hbr)).trans m0r
      have hsr := HB.out.size
      generalize wr.alloc (.cells #[.int .i64 po, .int .i64 pl, .int .i64 pc, .int .i64 pa] 40) = Wp at *
      have HBp := Lib.hid hbp
      obtain ⟨n0, n1, n2, n3⟩ := b4_facts hbp
      clear hbp p0 p1 p2 p3 m0r
      generalize fitsP ⟨po, pl, pc, pa⟩ = f at *
      have HSt := Lib.hid hst
      clear hst
      cases f
      · have h0 : r = false := HSt.out
        subst h0
        clear HSt HF
        go_wp2_with fail
        with_reducible refine Calls.mono (HFi.out _) ?_
        rintro e V ⟨rfl, hBV⟩
        have hxV := (hBV.block wr.heap.size (by omega)).trans HBp.out
        have m0V := (World.cell?_of_block (hBV.block w.heap.size (by omega)) : V.cell? ⟨w.heap.size, 0, none⟩ = _).trans m0p
        have HBV := Lib.hid (HBr.out.trans (hBV.mono (by omega)))
        have hsV := hBV.size
        obtain ⟨v0, v1, v2, v3⟩ := b4_facts hxV
        have HxV := Lib.hid hxV
        clear hBV hxV n0 n1 n2 n3 m0p
        go_wp2
        go_ret
        exact ⟨rfl, HW.out.trans (HBV.out.mono (by omega))⟩
      · obtain ⟨l1, l2⟩ := hft rfl
        by_cases c1 : po < x
        · have h0 : r = false := by have := HSt.out; rw [decide_eq_false (show ¬ x ≤ po by omega)] at this; exact this
          subst h0
          clear HSt HF
          go_wp2_with fail
          with_reducible refine Calls.mono (HFi.out _) ?_
          rintro e V ⟨rfl, hBV⟩
          have hxV := (hBV.block wr.heap.size (by omega)).trans HBp.out
          have m0V := (World.cell?_of_block (hBV.block w.heap.size (by omega)) : V.cell? ⟨w.heap.size, 0, none⟩ = _).trans m0p
          have HBV := Lib.hid (HBr.out.trans (hBV.mono (by omega)))
          have hsV := hBV.size
          obtain ⟨v0, v1, v2, v3⟩ := b4_facts hxV
          have HxV := Lib.hid hxV
          clear hBV hxV n0 n1 n2 n3 m0p
          go_wp2
          go_ret
          exact ⟨rfl, HW.out.trans (HBV.out.mono (by omega))⟩
        by_cases c2 : po > size - pl
        · have h0 : r = false := by have := HSt.out; rw [decide_eq_false (show ¬ po ≤ size - pl by omega), Bool.and_false] at this; exact this
          subst h0
          clear HSt HF
          go_wp2_with fail
          with_reducible refine Calls.mono (HFi.out _) ?_
          rintro e V ⟨rfl, hBV⟩
          have hxV := (hBV.block wr.heap.size (by omega)).trans HBp.out
          have m0V := (World.cell?_of_block (hBV.block w.heap.size (by omega)) : V.cell? ⟨w.heap.size, 0, none⟩ = _).trans m0p
          have HBV := Lib.hid (HBr.out.trans (hBV.mono (by omega)))
          have hsV := hBV.size
          obtain ⟨v0, v1, v2, v3⟩ := b4_facts hxV
          have HxV := Lib.hid hxV
          clear hBV hxV n0 n1 n2 n3 m0p
          go_wp2
          go_ret
          exact ⟨rfl, HW.out.trans (HBV.out.mono (by omega))⟩
        · have HF2 : Hid (mayFrom size (po + pl) (L.drop (k + 1)) = r) := Lib.hid (by
            have := HSt.out
            rw [decide_eq_true (show x ≤ po by omega), decide_eq_true (show po ≤ size - pl by omega)] at this
            exact this.symm)
          clear HSt HF
          go_wp2_with fail
          with_reducible refine Calls.mono (HFi.out _) ?_
          rintro e V ⟨rfl, hBV⟩
          have hxV := (hBV.block wr.heap.size (by omega)).trans HBp.out
          have m0V := (World.cell?_of_block (hBV.block w.heap.size (by omega)) : V.cell? ⟨w.heap.size, 0, none⟩ = _).trans m0p
          have HBV := Lib.hid (HBr.out.trans (hBV.mono (by omega)))
          have hsV := hBV.size
          obtain ⟨v0, v1, v2, v3⟩ := b4_facts hxV
          have HxV := Lib.hid hxV
          clear hBV hxV n0 n1 n2 n3 m0p
          go_wp2_with fail
          with_reducible refine Calls.mono (HEn.out _ (by omega) (by omega)) ?_
          rintro e V2 ⟨rfl, hB2⟩
          have HB2 := Lib.hid (HBV.out.trans (hB2.mono (by omega)))
          clear hB2
          go_wp2
          exact ⟨⟨k + 1, po + pl, by omega, rfl, by go_num, by omega, by omega, HF2, HB2⟩, by simp [intOf]; omega⟩
    · obtain rfl : k = L.length := by omega
      have hlt' : decide ((L.length : Int) < (L.length : Int)) = false := by simp
      have h0 : r = true := by have := HF.out; rw [List.drop_length] at this; exact this.symm
      subst h0
      clear hlt HF
      go_wp2
      go_ret
      exact ⟨rfl, HBw.out⟩
end Go.Proofs.YtiegadfhgccliaaGreatDoor
namespace Go.Proofs.YtiegadfhgccliaaGreatDoor
open Go.RowKit Go.Lib

theorem b4_end {W : World} {B : Nat} {a b c d : Value} {t : TypeId} (h : W.heap[B]? = some (.cells #[a, b, c, d] t (0, 0))) (x y z u : Value) : ((((W.setCell ⟨B, 0, none⟩ x).setCell ⟨B, 1, none⟩ y).setCell ⟨B, 2, none⟩ z).setCell ⟨B, 3, none⟩ u).heap[B]? = some (.cells #[x, y, z, u] t (0, 0)) :=
  heap_setCell_at (heap_setCell_at (heap_setCell_at (heap_setCell_at h 0 x) 1 y) 2 z) 3 u
theorem b4_froz {W : World} {B : Nat} {cs : Array Value} {t : TypeId} (h : W.heap[B]? = some (.cells cs t (0, 0))) (k : Nat) : W.frozen? ⟨B, k, none⟩ = false := by
  unfold World.frozen?
  rw [h]; simp
theorem b4_sf {W : World} {B : Nat} {a b c d : Value} {t : TypeId} (h : W.heap[B]? = some (.cells #[a, b, c, d] t (0, 0))) (x y z : Value) :
    (W.cell? ⟨B, 0, none⟩ = some a ∧ W.frozen? ⟨B, 0, none⟩ = false) ∧ ((W.setCell ⟨B, 0, none⟩ x).cell? ⟨B, 1, none⟩ = some b ∧ (W.setCell ⟨B, 0, none⟩ x).frozen? ⟨B, 1, none⟩ = false) ∧
    (((W.setCell ⟨B, 0, none⟩ x).setCell ⟨B, 1, none⟩ y).cell? ⟨B, 2, none⟩ = some c ∧ ((W.setCell ⟨B, 0, none⟩ x).setCell ⟨B, 1, none⟩ y).frozen? ⟨B, 2, none⟩ = false) ∧
    ((((W.setCell ⟨B, 0, none⟩ x).setCell ⟨B, 1, none⟩ y).setCell ⟨B, 2, none⟩ z).cell? ⟨B, 3, none⟩ = some d ∧ (((W.setCell ⟨B, 0, none⟩ x).setCell ⟨B, 1, none⟩ y).setCell ⟨B, 2, none⟩ z).frozen? ⟨B, 3, none⟩ = false) := by
  have h1 := heap_setCell_at h 0 x
  have h2 := heap_setCell_at h1 1 y
  have h3 := heap_setCell_at h2 2 z
  exact ⟨⟨(b4_facts h).1, b4_froz h 0⟩, ⟨(b4_facts h1).2.1, b4_froz h1 1⟩, ⟨(b4_facts h2).2.2.1, b4_froz h2 2⟩, (b4_facts h3).2.2.2, b4_froz h3 3⟩
set_option maxRecDepth 100000 in
set_option maxHeartbeats 8000000 in
theorem ahead_no (p : Bp) (at0 : Int) (w : World) (h : at0 ≤ p.off) :
    Calls Tryz.prog 60 #[.agg #[.int .i64 p.off, .int .i64 p.ln, .int .i64 p.ch, .int .i64 p.at_], .int .i64 at0] w fun e w' => e = .returned (.tuple #[.agg #[.int .i64 0, .int .i64 0, .int .i64 0, .int .i64 0], .bool false]) ∧ Below w.heap.size w w' := by
  obtain ⟨off, ln, ch, at1⟩ := p
  dsimp only at h ⊢
  have h1 : off ≥ at0 := h
  clear h
  go_enter Tryz.func60, Tryz.ntmps60
  go_wp2
  have hsz : (w.alloc (.cells #[.int .i64 off, .int .i64 ln, .int .i64 ch, .int .i64 at1] 40)).heap.size = w.heap.size + 1 := by simp
  have hbx := heap_alloc_new (w.alloc (.cells #[.int .i64 off, .int .i64 ln, .int .i64 ch, .int .i64 at1] 40)) (.cells #[.int .i64 0, .int .i64 0, .int .i64 0, .int .i64 0] 40)
  rw [hsz] at hbx
  have hB : Below w.heap.size w ((w.alloc (.cells #[.int .i64 off, .int .i64 ln, .int .i64 ch, .int .i64 at1] 40)).alloc (.cells #[.int .i64 0, .int .i64 0, .int .i64 0, .int .i64 0] 40)) := ((Below.refl _ _).alloc (Nat.le_refl _) _).alloc (by omega) _
  generalize (w.alloc (.cells #[.int .i64 off, .int .i64 ln, .int .i64 ch, .int .i64 at1] 40)).alloc (.cells #[.int .i64 0, .int .i64 0, .int .i64 0, .int .i64 0] 40) = V at *
  obtain ⟨u0, u1, u2, u3⟩ := b4_facts hbx
  refine bodyPost_ret (v := .tuple #[.agg #[.int .i64 0, .int .i64 0, .int .i64 0, .int .i64 0], .bool false]) (by simp [results, Tryz.f60, go_sem, u0, u1, u2, u3]) rfl ⟨rfl, hB⟩
set_option maxRecDepth 100000 in
set_option maxHeartbeats 8000000 in
theorem ahead_yes (p : Bp) (at0 : Int) (w : World) (h : p.off < at0) (h0 : 0 ≤ p.off) (h2 : at0 ≤ 1000000000000000) :
    Calls Tryz.prog 60 #[.agg #[.int .i64 p.off, .int .i64 p.ln, .int .i64 p.ch, .int .i64 p.at_], .int .i64 at0] w fun e w' => e = .returned (.tuple #[.agg #[.int .i64 p.off, .int .i64 (min p.ln (at0 - p.off)), .int .i64 p.ch, .int .i64 p.at_], .bool true]) ∧ Below w.heap.size w w' := by
  obtain ⟨off, ln, ch, at1⟩ := p
  dsimp only at h h0 ⊢
  have h1 : ¬ off ≥ at0 := by omega
  go_enter Tryz.func60, Tryz.ntmps60
  go_wp2
  have hsz : (w.alloc (.cells #[.int .i64 off, .int .i64 (min ln (at0 - off)), .int .i64 ch, .int .i64 at1] 40)).heap.size = w.heap.size + 1 := by simp
  have hbx := heap_alloc_new (w.alloc (.cells #[.int .i64 off, .int .i64 (min ln (at0 - off)), .int .i64 ch, .int .i64 at1] 40)) (.cells #[.int .i64 off, .int .i64 (min ln (at0 - off)), .int .i64 ch, .int .i64 at1] 40)
  rw [hsz] at hbx
  have hB : Below w.heap.size w ((w.alloc (.cells #[.int .i64 off, .int .i64 (min ln (at0 - off)), .int .i64 ch, .int .i64 at1] 40)).alloc (.cells #[.int .i64 off, .int .i64 (min ln (at0 - off)), .int .i64 ch, .int .i64 at1] 40)) := ((Below.refl _ _).alloc (Nat.le_refl _) _).alloc (by omega) _
  generalize (w.alloc (.cells #[.int .i64 off, .int .i64 (min ln (at0 - off)), .int .i64 ch, .int .i64 at1] 40)).alloc (.cells #[.int .i64 off, .int .i64 (min ln (at0 - off)), .int .i64 ch, .int .i64 at1] 40) = V at *
  obtain ⟨u0, u1, u2, u3⟩ := b4_facts hbx
  refine bodyPost_ret (v := .tuple #[.agg #[.int .i64 off, .int .i64 (min ln (at0 - off)), .int .i64 ch, .int .i64 at1], .bool true]) (by simp [results, Tryz.f60, go_sem, u0, u1, u2, u3]) rfl ⟨rfl, hB⟩
set_option maxRecDepth 100000 in
set_option maxHeartbeats 8000000 in
theorem behind_no (p : Bp) (at0 : Int) (w : World) (h : p.off + p.ln ≤ at0) (h1 : -1000000000000000 ≤ p.off + p.ln) (h2 : p.off + p.ln ≤ 1000000000000000) :
    Calls Tryz.prog 91 #[.agg #[.int .i64 p.off, .int .i64 p.ln, .int .i64 p.ch, .int .i64 p.at_], .int .i64 at0] w fun e w' => e = .returned (.tuple #[.agg #[.int .i64 0, .int .i64 0, .int .i64 0, .int .i64 0], .bool false]) ∧ Below w.heap.size w w' := by
  have HE := Lib.hid (fun V => end_any p V h1 h2)
  obtain ⟨off, ln, ch, at1⟩ := p
  dsimp only at h HE ⊢
  clear h1 h2
  go_enter Tryz.func91, Tryz.ntmps91
  go_wp2_with fail
  with_reducible refine Calls.mono (HE.out _) ?_
  rintro e V ⟨rfl, hBV⟩
  have hsz : (w.alloc (.cells #[.int .i64 off, .int .i64 ln, .int .i64 ch, .int .i64 at1] 40)).heap.size = w.heap.size + 1 := by simp
  have hbx := heap_alloc_new (w.alloc (.cells #[.int .i64 off, .int .i64 ln, .int .i64 ch, .int .i64 at1] 40)) (.cells #[.int .i64 0, .int .i64 0, .int .i64 0, .int .i64 0] 40)
  rw [hsz] at hbx
  have hB : Below w.heap.size w ((w.alloc (.cells #[.int .i64 off, .int .i64 ln, .int .i64 ch, .int .i64 at1] 40)).alloc (.cells #[.int .i64 0, .int .i64 0, .int .i64 0, .int .i64 0] 40)) := ((Below.refl _ _).alloc (Nat.le_refl _) _).alloc (by omega) _
  have hs2 : ((w.alloc (.cells #[.int .i64 off, .int .i64 ln, .int .i64 ch, .int .i64 at1] 40)).alloc (.cells #[.int .i64 0, .int .i64 0, .int .i64 0, .int .i64 0] 40)).heap.size = w.heap.size + 2 := by simp
  generalize (w.alloc (.cells #[.int .i64 off, .int .i64 ln, .int .i64 ch, .int .i64 at1] 40)).alloc (.cells #[.int .i64 0, .int .i64 0, .int .i64 0, .int .i64 0] 40) = U at *
  have hbV := (hBV.block (w.heap.size + 1) (by omega)).trans hbx
  have hBw := hB.trans (hBV.mono (by omega))
  obtain ⟨⟨a0, f0⟩, ⟨a1, f1⟩, ⟨a2, f2⟩, ⟨a3, f3⟩⟩ := b4_sf hbV (.int .i64 0) (.int .i64 0) (.int .i64 0)
  have hEnd := b4_end hbV (.int .i64 0) (.int .i64 0) (.int .i64 0) (.int .i64 0)
  have HEnd := Lib.hid hEnd
  have HBw := Lib.hid hBw
  clear hEnd hBw hbV hBV hbx hB HE
  go_wp2
  obtain ⟨u0, u1, u2, u3⟩ := b4_facts HEnd.out
  refine bodyPost_ret (v := .tuple #[.agg #[.int .i64 0, .int .i64 0, .int .i64 0, .int .i64 0], .bool false]) (by simp [results, Tryz.f91, go_sem, u0, u1, u2, u3]) rfl ⟨rfl, ?_⟩
  have ht : Turn [w.heap.size + 1] V ((((V.setCell ⟨w.heap.size + 1, 0, none⟩ (.int .i64 0)).setCell ⟨w.heap.size + 1, 1, none⟩ (.int .i64 0)).setCell ⟨w.heap.size + 1, 2, none⟩ (.int .i64 0)).setCell ⟨w.heap.size + 1, 3, none⟩ (.int .i64 0)) := (((((Turn.refl _ _).setCell (p := ⟨w.heap.size + 1, 0, none⟩) (.inl (by simp)) _).setCell (p := ⟨w.heap.size + 1, 1, none⟩) (.inl (by simp)) _).setCell (p := ⟨w.heap.size + 1, 2, none⟩) (.inl (by simp)) _).setCell (p := ⟨w.heap.size + 1, 3, none⟩) (.inl (by simp)) _)
  exact ht.below HBw.out (by simp)
end Go.Proofs.YtiegadfhgccliaaGreatDoor
namespace Go.Proofs.YtiegadfhgccliaaGreatDoor
open Go.RowKit Go.Lib

set_option maxRecDepth 100000 in
set_option maxHeartbeats 8000000 in
theorem behind_all (p : Bp) (at0 : Int) (w : World) (h : ¬ p.off + p.ln ≤ at0) (h1 : -1000000000000000 ≤ p.off + p.ln) (h2 : p.off + p.ln ≤ 1000000000000000) (h3 : 0 ≤ p.off) (h4 : 0 ≤ at0) (h5 : 0 ≤ p.at_) (h6 : p.at_ ≤ 64) (h7 : 0 ≤ p.ln) (h8 : p.ln ≤ 64) (hk : at0 ≤ p.off) :
    Calls Tryz.prog 91 #[.agg #[.int .i64 p.off, .int .i64 p.ln, .int .i64 p.ch, .int .i64 p.at_], .int .i64 at0] w fun e w' => e = .returned (.tuple #[.agg #[.int .i64 p.off, .int .i64 p.ln, .int .i64 p.ch, .int .i64 p.at_], .bool true]) ∧ Below w.heap.size w w' := by
  have HE := Lib.hid (fun V => end_any p V h1 h2)
  obtain ⟨off, ln, ch, at1⟩ := p
  dsimp only at h h1 h2 h3 h4 h5 h6 h7 h8 hk HE ⊢
  have h0 : ¬ off + ln ≤ at0 := h
  have h9 : off ≤ 1000000000000000 := by omega
  have h10 : at0 ≤ 1000000000000000 := by omega
  have hm : max (at0 - off) 0 = 0 := by omega
  clear h1 h2 h
  go_enter Tryz.func91, Tryz.ntmps91
  go_wp2_with fail
  with_reducible refine Calls.mono (HE.out _) ?_
  rintro e V ⟨rfl, hBV⟩
  have hsz : (w.alloc (.cells #[.int .i64 off, .int .i64 ln, .int .i64 ch, .int .i64 at1] 40)).heap.size = w.heap.size + 1 := by simp
  have hb0 := heap_alloc_new w (.cells #[.int .i64 off, .int .i64 ln, .int .i64 ch, .int .i64 at1] 40)
  have hbx := heap_alloc_new (w.alloc (.cells #[.int .i64 off, .int .i64 ln, .int .i64 ch, .int .i64 at1] 40)) (.cells #[.int .i64 0, .int .i64 0, .int .i64 0, .int .i64 0] 40)
  have hbp := heap_alloc_old (w.alloc (.cells #[.int .i64 off, .int .i64 ln, .int .i64 ch, .int .i64 at1] 40)) (.cells #[.int .i64 0, .int .i64 0, .int .i64 0, .int .i64 0] 40) (show w.heap.size < _ by omega)
  rw [hb0] at hbp
  rw [hsz] at hbx
  clear hb0
  have hB : Below w.heap.size w ((w.alloc (.cells #[.int .i64 off, .int .i64 ln, .int .i64 ch, .int .i64 at1] 40)).alloc (.cells #[.int .i64 0, .int .i64 0, .int .i64 0, .int .i64 0] 40)) := ((Below.refl _ _).alloc (Nat.le_refl _) _).alloc (by omega) _
  have hs2 : ((w.alloc (.cells #[.int .i64 off, .int .i64 ln, .int .i64 ch, .int .i64 at1] 40)).alloc (.cells #[.int .i64 0, .int .i64 0, .int .i64 0, .int .i64 0] 40)).heap.size = w.heap.size + 2 := by simp
  generalize (w.alloc (.cells #[.int .i64 off, .int .i64 ln, .int .i64 ch, .int .i64 at1] 40)).alloc (.cells #[.int .i64 0, .int .i64 0, .int .i64 0, .int .i64 0] 40) = U at *
  have hbV := (hBV.block (w.heap.size + 1) (by omega)).trans hbx
  have hbP := (hBV.block w.heap.size (by omega)).trans hbp
  have hBw := hB.trans (hBV.mono (by omega))
  have hsV := hBV.size
  clear hbx hbp hB hBV hsz HE
  obtain ⟨p0, p1, p2, p3⟩ := b4_facts hbP
  obtain ⟨⟨a0, f0⟩, ⟨a1, f1⟩, ⟨a2, f2⟩, ⟨a3, f3⟩⟩ := b4_sf hbV (.int .i64 off) (.int .i64 ln) (.int .i64 ch)
  have HEnd := Lib.hid (b4_end hbV (.int .i64 off) (.int .i64 ln) (.int .i64 ch) (.int .i64 at1))
  have HBw := Lib.hid hBw
  clear hBw hbV hbP
  go_wp2
  obtain ⟨u0, u1, u2, u3⟩ := b4_facts HEnd.out
  refine bodyPost_ret (v := .tuple #[.agg #[.int .i64 off, .int .i64 ln, .int .i64 ch, .int .i64 at1], .bool true]) (by simp [results, Tryz.f91, go_sem, u0, u1, u2, u3]) rfl ⟨rfl, ?_⟩
  have ht := (((((Turn.refl [w.heap.size + 1] V).setCell (p := ⟨w.heap.size + 1, 0, none⟩) (.inl (by simp)) (.int .i64 off)).setCell (p := ⟨w.heap.size + 1, 1, none⟩) (.inl (by simp)) (.int .i64 ln)).setCell (p := ⟨w.heap.size + 1, 2, none⟩) (.inl (by simp)) (.int .i64 ch)).setCell (p := ⟨w.heap.size + 1, 3, none⟩) (.inl (by simp)) (.int .i64 at1))
  exact ht.below HBw.out (by simp)
end Go.Proofs.YtiegadfhgccliaaGreatDoor
namespace Go.Proofs.YtiegadfhgccliaaGreatDoor
open Go.RowKit Go.Lib

theorem w64 {n : Int} (h1 : -9223372036854775808 ≤ n) (h2 : n ≤ 9223372036854775807) : wrap64 n = n := by unfold wrap64; omega
set_option maxRecDepth 100000 in
set_option maxHeartbeats 8000000 in
theorem behind_cut (p : Bp) (at0 : Int) (w : World) (h : ¬ p.off + p.ln ≤ at0) (h1 : -1000000000000000 ≤ p.off + p.ln) (h2 : p.off + p.ln ≤ 1000000000000000) (h3 : 0 ≤ p.off) (h4 : 0 ≤ at0) (h5 : 0 ≤ p.at_) (h6 : p.at_ ≤ 64) (h7 : 0 ≤ p.ln) (h8 : p.ln ≤ 64) (hk : p.off < at0) :
    Calls Tryz.prog 91 #[.agg #[.int .i64 p.off, .int .i64 p.ln, .int .i64 p.ch, .int .i64 p.at_], .int .i64 at0] w fun e w' => e = .returned (.tuple #[.agg #[.int .i64 at0, .int .i64 (p.ln - (at0 - p.off)), .int .i64 p.ch, .int .i64 (p.at_ + (at0 - p.off))], .bool true]) ∧ Below w.heap.size w w' := by
  have HE := Lib.hid (fun V => end_any p V h1 h2)
  obtain ⟨off, ln, ch, at1⟩ := p
  dsimp only at h h1 h2 h3 h4 h5 h6 h7 h8 hk HE ⊢
  have h0 : ¬ off + ln ≤ at0 := h
  have h9 : off ≤ 1000000000000000 := by omega
  have h10 : at0 ≤ 1000000000000000 := by omega
  have hm : max (at0 - off) 0 = at0 - off := by omega
  have hm2 : at0 - off > 0 := by omega
  clear h1 h2 h
  go_enter Tryz.func91, Tryz.ntmps91
  go_wp2_with fail
  with_reducible refine Calls.mono (HE.out _) ?_
  rintro e V ⟨rfl, hBV⟩
  have hsz : (w.alloc (.cells #[.int .i64 off, .int .i64 ln, .int .i64 ch, .int .i64 at1] 40)).heap.size = w.heap.size + 1 := by simp
  have hb0 := heap_alloc_new w (.cells #[.int .i64 off, .int .i64 ln, .int .i64 ch, .int .i64 at1] 40)
  have hbx := heap_alloc_new (w.alloc (.cells #[.int .i64 off, .int .i64 ln, .int .i64 ch, .int .i64 at1] 40)) (.cells #[.int .i64 0, .int .i64 0, .int .i64 0, .int .i64 0] 40)
  have hbp := heap_alloc_old (w.alloc (.cells #[.int .i64 off, .int .i64 ln, .int .i64 ch, .int .i64 at1] 40)) (.cells #[.int .i64 0, .int .i64 0, .int .i64 0, .int .i64 0] 40) (show w.heap.size < _ by omega)
  rw [hb0] at hbp
  rw [hsz] at hbx
  clear hb0
  have hB : Below w.heap.size w ((w.alloc (.cells #[.int .i64 off, .int .i64 ln, .int .i64 ch, .int .i64 at1] 40)).alloc (.cells #[.int .i64 0, .int .i64 0, .int .i64 0, .int .i64 0] 40)) := ((Below.refl _ _).alloc (Nat.le_refl _) _).alloc (by omega) _
  have hs2 : ((w.alloc (.cells #[.int .i64 off, .int .i64 ln, .int .i64 ch, .int .i64 at1] 40)).alloc (.cells #[.int .i64 0, .int .i64 0, .int .i64 0, .int .i64 0] 40)).heap.size = w.heap.size + 2 := by simp
  generalize (w.alloc (.cells #[.int .i64 off, .int .i64 ln, .int .i64 ch, .int .i64 at1] 40)).alloc (.cells #[.int .i64 0, .int .i64 0, .int .i64 0, .int .i64 0] 40) = U at *
  have hbV := (hBV.block (w.heap.size + 1) (by omega)).trans hbx
  have hbP := (hBV.block w.heap.size (by omega)).trans hbp
  have hBw := hB.trans (hBV.mono (by omega))
  have hsV := hBV.size
  clear hbx hbp hB hBV hsz HE
  obtain ⟨p0, p1, p2, p3⟩ := b4_facts hbP
  go_upto_region 5 with (fail)
  have i1 : 0 < at0 - off := by omega
  have i2 : at0 - off < ln := by omega
  clear hm hm2 h0 hk
  generalize hd : at0 - off = d at *
  have HD := Lib.hid hd
  clear hd
  obtain ⟨x3, hx3⟩ : ∃ x, x = at1 + d := ⟨_, rfl⟩
  obtain ⟨x1, hx1⟩ : ∃ x, x = ln - d := ⟨_, rfl⟩
  have hw1 : wrap64 (at1 + d) = x3 := by rw [hx3]; exact w64 (by omega) (by omega)
  have hw2 : wrap64 (ln - d) = x1 := by rw [hx1]; exact w64 (by omega) (by omega)
  have HX3 := Lib.hid hx3
  have HX1 := Lib.hid hx1
  clear hx3 hx1
  have g0 := b4_froz hbP 0
  have hP1 := heap_setCell_at hbP 0 (.int .i64 at0)
  have q3 : (V.setCell ⟨w.heap.size, 0, none⟩ (.int .i64 at0)).frozen? ⟨w.heap.size, 3, none⟩ = false ∧ (V.setCell ⟨w.heap.size, 0, none⟩ (.int .i64 at0)).cell? ⟨w.heap.size, 3, none⟩ = some (.int .i64 at1) := ⟨b4_froz hP1 3, (b4_facts hP1).2.2.2⟩
  have hP2 := heap_setCell_at hP1 3 (.int .i64 x3)
  have q1 : ((V.setCell ⟨w.heap.size, 0, none⟩ (.int .i64 at0)).setCell ⟨w.heap.size, 3, none⟩ (.int .i64 x3)).frozen? ⟨w.heap.size, 1, none⟩ = false ∧ ((V.setCell ⟨w.heap.size, 0, none⟩ (.int .i64 at0)).setCell ⟨w.heap.size, 3, none⟩ (.int .i64 x3)).cell? ⟨w.heap.size, 1, none⟩ = some (.int .i64 ln) := ⟨b4_froz hP2 1, (b4_facts hP2).2.1⟩
  have hP3 : (((V.setCell ⟨w.heap.size, 0, none⟩ (.int .i64 at0)).setCell ⟨w.heap.size, 3, none⟩ (.int .i64 x3)).setCell ⟨w.heap.size, 1, none⟩ (.int .i64 x1)).heap[w.heap.size]? = some (.cells #[.int .i64 at0, .int .i64 x1, .int .i64 ch, .int .i64 x3] 40 (0, 0)) := heap_setCell_at hP2 1 (.int .i64 x1)
  have ht0 := (((Turn.refl [w.heap.size] V).setCell (p := ⟨w.heap.size, 0, none⟩) (.inl (by simp)) (.int .i64 at0)).setCell (p := ⟨w.heap.size, 3, none⟩) (.inl (by simp)) (.int .i64 x3)).setCell (p := ⟨w.heap.size, 1, none⟩) (.inl (by simp)) (.int .i64 x1)
  have hR := (ht0.block (w.heap.size + 1) (by omega) (by simp)).trans hbV
  have hBw3 := ht0.below hBw (by simp)
  clear hP1 hP2 hBw hbV hbP ht0
  obtain ⟨q30, q31⟩ := q3
  obtain ⟨q10, q11⟩ := q1
  obtain ⟨r0, r1, r2, r3⟩ := b4_facts hP3
  obtain ⟨⟨a0, f0⟩, ⟨a1, f1⟩, ⟨a2, f2⟩, ⟨a3, f3⟩⟩ := b4_sf hR (.int .i64 at0) (.int .i64 x1) (.int .i64 ch)
  have HEnd := Lib.hid (b4_end hR (.int .i64 at0) (.int .i64 x1) (.int .i64 ch) (.int .i64 x3))
  have HBw := Lib.hid hBw3
  clear hBw3 hR hP3
  clear i1 i2 h3 h4 h5 h6 h7 h8 h9 h10
  go_wp2
  obtain ⟨u0, u1, u2, u3⟩ := b4_facts HEnd.out
  refine bodyPost_ret (v := .tuple #[.agg #[.int .i64 at0, .int .i64 x1, .int .i64 ch, .int .i64 x3], .bool true]) (by simp [results, Tryz.f91, go_sem, u0, u1, u2, u3]) rfl ⟨by rw [HX1.out, HX3.out, ← HD.out], ?_⟩
  have ht := (((((Turn.refl [w.heap.size + 1] (((V.setCell ⟨w.heap.size, 0, none⟩ (.int .i64 at0)).setCell ⟨w.heap.size, 3, none⟩ (.int .i64 x3)).setCell ⟨w.heap.size, 1, none⟩ (.int .i64 x1))).setCell (p := ⟨w.heap.size + 1, 0, none⟩) (.inl (by simp)) (.int .i64 at0)).setCell (p := ⟨w.heap.size + 1, 1, none⟩) (.inl (by simp)) (.int .i64 x1)).setCell (p := ⟨w.heap.size + 1, 2, none⟩) (.inl (by simp)) (.int .i64 ch)).setCell (p := ⟨w.heap.size + 1, 3, none⟩) (.inl (by simp)) (.int .i64 x3))
  exact ht.below HBw.out (by simp)
end Go.Proofs.YtiegadfhgccliaaGreatDoor
namespace Go.Proofs.YtiegadfhgccliaaGreatDoor
open Go.RowKit Go.Lib

theorem drop_at {α : Type} [Inhabited α] {L : List α} {k : Nat} (hk : k < L.length) : L.drop k = L.getD k default :: L.drop (k + 1) := by
  rw [List.drop_eq_getElem_cons hk]
  simp [List.getD, hk]
theorem take_at {α : Type} [Inhabited α] {L : List α} {k : Nat} (hk : k < L.length) : L.take (k + 1) = L.take k ++ [L.getD k default] := by
  rw [List.take_succ_eq_append_getElem hk]
  congr 2
  simp [List.getD, hk]
/-- What ahead and behind hand back. -/
def cutV (o : Option Bp) : Value := match o with
  | some p => .tuple #[.agg #[.int .i64 p.off, .int .i64 p.ln, .int .i64 p.ch, .int .i64 p.at_], .bool true]
  | none => .tuple #[.agg #[.int .i64 0, .int .i64 0, .int .i64 0, .int .i64 0], .bool false]
structure PIn (p : Bp) : Prop where
  o1 : 0 ≤ p.off
  o2 : p.off ≤ 2000000000000
  l1 : 0 ≤ p.ln
  l2 : p.ln ≤ 64
  a1 : 0 ≤ p.at_
  a2 : p.at_ ≤ 64
theorem ahead_any (p : Bp) (q : Int) (w : World) (hp : PIn p) (_ : 0 ≤ q) (h2 : q ≤ 2000000000000) :
    Calls Tryz.prog 60 #[.agg #[.int .i64 p.off, .int .i64 p.ln, .int .i64 p.ch, .int .i64 p.at_], .int .i64 q] w fun e w' => e = .returned (cutV (aheadP q p)) ∧ Below w.heap.size w w' := by
  unfold aheadP
  by_cases h : q ≤ p.off
  · rw [if_pos h]; exact ahead_no p q w h
  · rw [if_neg h]; exact ahead_yes p q w (by omega) hp.o1 (by omega)
theorem behind_any (p : Bp) (q : Int) (w : World) (hp : PIn p) (h1 : 0 ≤ q) (_ : q ≤ 2000000000000) :
    Calls Tryz.prog 91 #[.agg #[.int .i64 p.off, .int .i64 p.ln, .int .i64 p.ch, .int .i64 p.at_], .int .i64 q] w fun e w' => e = .returned (cutV (behindP q p)) ∧ Below w.heap.size w w' := by
  obtain ⟨a1, a2, a3, a4, a5, a6⟩ := hp
  unfold behindP
  by_cases h : p.off + p.ln ≤ q
  · rw [if_pos h]; exact behind_no p q w h (by omega) (by omega)
  · rw [if_neg h]
    by_cases h3 : p.off < q
    · rw [if_pos h3]; exact behind_cut p q w h (by omega) (by omega) a1 h1 a5 a6 a3 a4 h3
    · rw [if_neg h3]; exact behind_all p q w h (by omega) (by omega) a1 h1 a5 a6 a3 a4 (by omega)
theorem pin_of {size a : Int} (s2 : size ≤ 1099511627776) : ∀ {L : List Bp} (_ : 0 ≤ a) (_ : mayFrom size a L = true), ∀ p ∈ L, PIn p
  | [], _, _, p, hp => by cases hp
  | q :: r, h0, h, p, hp => by
    obtain ⟨h1, h2, h3, h4⟩ := mayFrom_cons h
    have f := fitsP_spec h1
    rcases List.mem_cons.1 hp with rfl | hp
    · exact ⟨by omega, by omega, by omega, by omega, by omega, by omega⟩
    · exact pin_of s2 (by omega) h4 p hp
/-- long, as it is reckoned. -/
def longW : Int → List Bp → Int
  | s, [] => s
  | s, p :: r => longW (wrap64 (s + p.ln)) r
theorem longW_sum : ∀ {L : List Bp} {s : Int}, L.all fitsP = true → 0 ≤ s → s + 64 * L.length ≤ 9000000000000000000 → longW s L = s + sumP L
  | [], s, _, _, _ => by unfold longW sumP; omega
  | p :: r, s, hf, h0, h1 => by
    rw [List.all_cons, Bool.and_eq_true] at hf
    have f := fitsP_spec hf.1
    rw [List.length_cons] at h1
    unfold longW sumP
    rw [w64 (by omega) (by omega), longW_sum hf.2 (by omega) (by omega)]
    omega
set_option maxRecDepth 100000 in
set_option maxHeartbeats 4000000 in
theorem long_walk (L : List Bp) (hl : L.length ≤ 1000000) (a : Option Addr) (c : Nat) (w : World) (hS : SlPt w a L) (hc : L.length ≤ c) {r : Int} (hr : longW 0 L = r) :
    Calls Tryz.prog 58 #[.slice a L.length c] w fun e w' => e = .returned (.int .i64 r) ∧ Below w.heap.size w w' := by
  have HS := Lib.hid hS
  have HR := Lib.hid hr
  clear hS hr
  go_enter Tryz.func58, Tryz.ntmps58
  go_wp2
  go_loopw [3, 8] (fun v i wr => ∃ (k : Nat) (x : Int), k ≤ L.length ∧ v = .int .i64 x ∧ i = .int .i64 (k : Int) ∧ Hid (longW x (L.drop k) = r) ∧ Hid (Below w.heap.size w wr)) (fun _ i _ => L.length - (intOf i).toNat)
  case atStart => exact ⟨0, 0, by omega, rfl, rfl, HR, Lib.hid (Below.refl _ _)⟩
  case round =>
    obtain ⟨k, x, hk, rfl, rfl, HF, HB⟩ := hrel
    by_cases hlt : k < L.length
    · obtain ⟨bb, o, rfl, p0, p1, p2, p3, hbl⟩ := SlPt_at (HS.out.below HB.out) hlt
      have hki : (k : Int) < (L.length : Int) := by omega
      have hkc : (k : Int) < (c : Int) := by omega
      have HF2 : Hid (longW (wrap64 (x + (L.getD k default).ln)) (L.drop (k + 1)) = r) := Lib.hid (by rw [← HF.out, drop_at hlt]; rfl)
      generalize L.getD k default = p at *
      obtain ⟨po, pl, pc, pa⟩ := p
      dsimp only at p0 p1 p2 p3 HF2
      clear HF
      go_upto_region 5 with (fail)
      have hbp := heap_alloc_new wr (.cells #[.int .i64 po, .int .i64 pl, .int .i64 pc, .int .i64 pa] 40)
      have HBr : Hid (Below w.heap.size w (wr.alloc (.cells #[.int .i64 po, .int .i64 pl, .int .i64 pc, .int .i64 pa] 40))) := Lib.hid (HB.out.alloc HB.out.size _)
      generalize wr.alloc (.cells #[.int .i64 po, .int .i64 pl, .int .i64 pc, .int .i64 pa] 40) = Wp at *
      obtain ⟨n0, n1, n2, n3⟩ := b4_facts hbp
      clear hbp p0 p1 p2 p3
      go_wp2
      exact ⟨⟨k + 1, _, by omega, rfl, by go_num, HF2, HBr⟩, by simp [intOf]; omega⟩
    · obtain rfl : k = L.length := by omega
      have hlt' : decide ((L.length : Int) < (L.length : Int)) = false := by simp
      have HX : Hid (x = r) := Lib.hid (by have := HF.out; rw [List.drop_length] at this; exact this)
      clear hlt HF
      go_wp2
      go_ret
      exact ⟨congrArg (fun z => Ending.returned (Value.int .i64 z)) HX.out, HB.out⟩
/-- long: the sum, of parts that fit; some number else. -/
theorem long_any (L : List Bp) (hl : L.length ≤ 1000000) :
    ∃ r, (L.all fitsP = true → r = sumP L) ∧ ∀ (a : Option Addr) (c : Nat) (w : World), SlPt w a L → L.length ≤ c → Calls Tryz.prog 58 #[.slice a L.length c] w fun e w' => e = .returned (.int .i64 r) ∧ Below w.heap.size w w' :=
  ⟨longW 0 L, fun h => by rw [longW_sum h (by omega) (by omega)]; omega, fun a c w hS hc => long_walk L hl a c w hS hc rfl⟩
theorem info_part : (Tryz.prog.info? 40).map (fun i => (i.zero, i.size, i.bytes)) = some (some (.agg #[.int .i64 0, .int .i64 0, .int .i64 0, .int .i64 0]), 4, 32) := by kernel_rfl
theorem new4 (W : World) (a b c d : Value) (t : TypeId) (B : Nat) (hB : W.heap.size = B) : ∀ j u, [a, b, c, d][j]? = some u → (W.alloc (.cells #[a, b, c, d] t)).cell? ((⟨B, 0, none⟩ : Addr).add j) = some u := by
  subst hB
  exact World.news_of_block (cs := #[a, b, c, d]) (t := t) (fr := (0, 0)) (heap_alloc_new W _)
theorem own_bel {w w' : World} {base : Nat} {e : TypeId} {size : Nat} {v : Value} {n : Nat} {xs : List Value} (h : w.ownsRow base e size v n xs) (hb : Below w.heap.size w w') : w'.ownsRow base e size v n xs := by
  refine ⟨h.1, ?_⟩
  rcases h.2 with h2 | ⟨g, cap, cur, e1, h1, hg, h3⟩
  · exact .inl h2
  · exact .inr ⟨g, cap, cur, e1, h1, (hb.block g (Array.getElem?_eq_some_iff.1 hg).1).trans hg, h3⟩
/-- A struct's block is none of a row of another type. -/
theorem own_ne {w : World} {base : Nat} {e : TypeId} {size : Nat} {v : Value} {n : Nat} {xs : List Value} (h : w.ownsRow base e size v n xs) {O : Nat} {cs : Array Value} {t : TypeId} (hO : w.heap[O]? = some (.cells cs t (0, 0))) (ht : t ≠ e) : some O ≠ v.ownBlock := by
  rcases h.2 with ⟨e1, _⟩ | ⟨g, cap, cur, e1, h1, hg, h3⟩
  · rw [e1]; intro h; cases h
  · rw [e1]
    intro h
    have e2 : O = g := by injection h
    subst e2
    rw [hO] at hg
    injection hg with hg
    injection hg with _ e3 _
    exact ht e3
theorem own_set_other {w : World} {base : Nat} {e : TypeId} {size : Nat} {v : Value} {n : Nat} {xs : List Value} (h : w.ownsRow base e size v n xs) {O : Nat} {cs : Array Value} {t : TypeId} (hO : w.heap[O]? = some (.cells cs t (0, 0))) (ht : t ≠ e) (k : Nat) (u : Value) : (w.setCell ⟨O, k, none⟩ u).ownsRow base e size v n xs := by
  have hne := own_ne h hO ht
  refine ⟨h.1, ?_⟩
  rcases h.2 with h2 | ⟨g, cap, cur, e1, h1, hg, h3⟩
  · exact .inl h2
  · refine .inr ⟨g, cap, cur, e1, h1, (Below.heap_setCell _ _ _ _ ?_).trans hg, h3⟩
    rw [e1] at hne
    show g ≠ O
    rintro rfl
    exact hne rfl
theorem b2_fz {W : World} {B : Nat} {cs : Array Value} {t : TypeId} (h : W.heap[B]? = some (.cells cs t (0, 0))) (k : Nat) : W.frozen? ⟨B, k, none⟩ = false := b4_froz h k
theorem b2_sf {W : World} {B : Nat} {a b : Value} {t : TypeId} (h : W.heap[B]? = some (.cells #[a, b] t (0, 0))) (x : Value) : (W.setCell ⟨B, 0, none⟩ x).cell? ⟨B, 1, none⟩ = some b ∧ (W.setCell ⟨B, 0, none⟩ x).frozen? ⟨B, 1, none⟩ = false :=
  ⟨(b2_cells (heap_setCell_at h 0 x)).2, b4_froz (heap_setCell_at h 0 x) 1⟩
theorem b2_fin {W : World} {B : Nat} {a b : Value} {t : TypeId} (h : W.heap[B]? = some (.cells #[a, b] t (0, 0))) (x y : Value) : ((W.setCell ⟨B, 0, none⟩ x).setCell ⟨B, 1, none⟩ y).heap[B]? = some (.cells #[x, y] t (0, 0)) := heap_setCell_at (heap_setCell_at h 0 x) 1 y
theorem below_s2 {n : Nat} {a W : World} {B : Nat} (h : Below n a W) (hB : n ≤ B) (x y : Value) : Below n a ((W.setCell ⟨B, 0, none⟩ x).setCell ⟨B, 1, none⟩ y) := (h.setCell (p := ⟨B, 0, none⟩) hB x).setCell (p := ⟨B, 1, none⟩) hB y
end Go.Proofs.YtiegadfhgccliaaGreatDoor
