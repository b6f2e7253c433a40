/- Walks of the document's bodies: Trunc, Write. Printed by gen_dwrite.py. -/
import Derived.Test.YtiegadfhgccliaaGreatDoorMDocX
set_option linter.unusedVariables false
namespace Go.Proofs.YtiegadfhgccliaaGreatDoor
open Go.RowKit Go.Lib
open Go.ChangeMaps (setBlock)

theorem below_set2 {n : Nat} {a W : World} {B : Nat} (h : Below n a W) (hB : n ≤ B) (x y : Value) : Below n a ((W.setCell ⟨B, 0, none⟩ x).setCell ⟨B, 1, none⟩ y) := (h.setCell (p := ⟨B, 0, none⟩) hB x).setCell (p := ⟨B, 1, none⟩) hB y
/-- A body and a number, handed back. -/
def BdAns (w : World) (R : Bd × Int) : Ending → World → Prop := fun e w' => ∃ a c, e = .returned (.tuple #[.agg #[.int .i64 R.1.size, .slice a R.1.parts.length c], .int .i64 R.2]) ∧ R.1.parts.length ≤ c ∧ SlPo w' a R.1.parts ∧ Below w.heap.size w w'
theorem behind_none {q : Int} {l : List Bp} {size a : Int} (hm : mayFrom size a l = true) (hq : size ≤ q) : l.filterMap (behindP q) = [] := by
  rw [List.filterMap_eq_nil_iff]
  induction l generalizing a with
  | nil => intro p hp; cases hp
  | cons x r ih =>
    obtain ⟨h1, h2, h3, h4⟩ := mayFrom_cons hm
    intro p hp
    rcases List.mem_cons.1 hp with rfl | hp
    · unfold behindP; rw [if_pos (by omega)]
    · exact ih h4 p hp
theorem trunc_without {b : Bd} {q : Int} (h : mayBd b = true) (h2 : q ≤ 1099511627776) : withoutD b.parts q 4611686018427387904 = b.parts.filterMap (aheadP q) := by
  obtain ⟨m1, m2, m3⟩ := mayBd_spec h
  rw [without_split (by omega) m3, behind_none m3 (by omega), List.append_nil]
theorem take_snocP {l : List Bp} {k : Nat} (h : k < l.length) : l.take (k + 1) = l.take k ++ [l.getD k default] := by
  rw [List.take_succ_eq_append_getElem h]
  congr 2
  simp [List.getD, h]
theorem sumP_snoc : ∀ (l : List Bp) (p : Bp), sumP (l ++ [p]) = sumP l + p.ln
  | [], p => by simp [sumP]
  | x :: r, p => by show x.ln + sumP (r ++ [p]) = x.ln + sumP r + p.ln; rw [sumP_snoc r p]; omega
theorem layP_snoc : ∀ (q : Int) (l : List Bp) (p : Bp), layP q (l ++ [p]) = layP q l ++ [⟨q + sumP l, p.ln, p.ch, p.at_⟩]
  | q, [], p => by simp [layP, sumP]
  | q, x :: r, p => by
    show _ :: layP (q + x.ln) (r ++ [p]) = _ :: layP (q + x.ln) r ++ _
    rw [layP_snoc (q + x.ln) r p, show sumP (x :: r) = x.ln + sumP r from rfl, Int.add_assoc]
    rfl
theorem tw_stop {M : List Bp} {off : Int} : ∀ {k : Nat}, (∀ j, j < k → (M.getD j default).off < off) → k ≤ M.length → (k < M.length → ¬ (M.getD k default).off < off) → M.takeWhile (fun p => decide (p.off < off)) = M.take k := by
  induction M with
  | nil => intro k _ _ _; simp
  | cons x r ih =>
    intro k h hk hs
    cases k with
    | zero =>
      have := hs (by simp)
      rw [List.takeWhile_cons, if_neg (by simpa using this)]; rfl
    | succ k =>
      have h0 := h 0 (by omega)
      rw [List.takeWhile_cons, if_pos (by simpa using h0), List.take_succ_cons]
      congr 1
      exact ih (fun j hj => by have := h (j + 1) (by omega); simpa using this) (by simpa using hk) (fun hlt => by have := hs (by simpa using hlt); simpa using this)
theorem sumP_take {l : List Bp} {k : Nat} (h : l.all fitsP = true) (hk : k ≤ l.length) : 0 ≤ sumP (l.take k) ∧ sumP (l.take k) ≤ 64 * k := by
  induction k with
  | zero => simp [sumP]
  | succ k ih =>
    have := ih (by omega)
    rw [take_snocP (by omega), sumP_snoc]
    have hf := fitsP_spec (List.all_eq_true.1 h (l.getD k default) (by simp [List.getD, show k < l.length by omega]))
    omega
set_option maxRecDepth 100000 in
set_option maxHeartbeats 8000000 in
theorem doc_trunc (b : Bd) (q : Int) (a : Option Addr) (c : Nat) (w : World) (hS : SlPo w a b.parts) (hc : b.parts.length ≤ c) (hl : b.parts.length ≤ 1000000) :
    Calls Tryz.prog 50 #[.agg #[.int .i64 b.size, .slice a b.parts.length c], .int .i64 q] w (BdAns w (truncS b q)) := by
  obtain ⟨R, hR⟩ : ∃ R, truncS b q = R := ⟨_, rfl⟩
  rw [hR]
  have HNo : Hid (mayBd b = false → R = (⟨0, []⟩, 1)) := Lib.hid fun h => by rw [← hR]; unfold truncS; rw [if_neg (by rw [h]; decide)]
  have HBad : Hid (mayBd b = true → (q < 0 ∨ 1099511627776 < q) → R = (⟨0, []⟩, 9)) := Lib.hid fun h h2 => by rw [← hR]; unfold truncS; rw [if_pos h, if_pos h2]
  have HOk : Hid (mayBd b = true → ¬ (q < 0 ∨ 1099511627776 < q) → R = (⟨q, withoutD b.parts q 4611686018427387904⟩, 0)) := Lib.hid fun h h2 => by rw [← hR]; unfold truncS; rw [if_pos h, if_neg h2, trunc_without h (by omega)]
  clear hR
  obtain ⟨size, L⟩ := b
  dsimp only at *
  have hb0 := Below.heap_alloc (w.alloc (.cells #[.int .i64 size, .slice a L.length c] 68)) (.cells #[.int .i64 0, .slice none 0 0] 68) w.heap.size (by simp)
  rw [heap_alloc_new] at hb0
  have hb1 := heap_alloc_new (w.alloc (.cells #[.int .i64 size, .slice a L.length c] 68)) (.cells #[.int .i64 0, .slice none 0 0] 68)
  have hsv1 : (w.alloc (.cells #[.int .i64 size, .slice a L.length c] 68)).heap.size = w.heap.size + 1 := by simp
  rw [hsv1] at hb1
  have hBV : Below w.heap.size w ((w.alloc (.cells #[.int .i64 size, .slice a L.length c] 68)).alloc (.cells #[.int .i64 0, .slice none 0 0] 68)) := ((Below.refl _ _).alloc (Nat.le_refl _) _).alloc (by omega) _
  have hsV : ((w.alloc (.cells #[.int .i64 size, .slice a L.length c] 68)).alloc (.cells #[.int .i64 0, .slice none 0 0] 68)).heap.size = w.heap.size + 2 := by simp
  have HS := Lib.hid hS
  clear hS
  go_enter Tryz.func50, Tryz.ntmps50
  go_upto_region 1 with (fail)
  generalize (w.alloc (.cells #[.int .i64 size, .slice a L.length c] 68)).alloc (.cells #[.int .i64 0, .slice none 0 0] 68) = V at *
  clear hsv1
  have HMay := Lib.hid (doc_bodymay ⟨size, L⟩ a c V (HS.out.below hBV).s hc (by dsimp only; omega))
  obtain ⟨e0, e1⟩ := b2_facts hb0
  go_wp2_with fail
  with_reducible refine Calls.mono HMay.out ?_
  rintro e V1 ⟨rfl, hB1⟩
  have hbV := (hB1.block w.heap.size (by omega)).trans hb0
  have k1 := (hB1.block (w.heap.size + 1) (by omega)).trans hb1
  have HB := Lib.hid (blw hBV hB1)
  have hs1 := hB1.size
  have hms : mayBd ⟨size, L⟩ = true → _ := fun h => mayBd_spec h
  clear hBV hB1 hb0 hb1 e0 e1 HMay
  cases hm : mayBd ⟨size, L⟩ with
  | false =>
    rw [hm] at HNo
    have HN := Lib.hid (HNo.out rfl)
    clear hms HNo HBad HOk hm
    obtain ⟨r0, r1⟩ := b2_facts k1
    obtain ⟨z0, z1⟩ := b2_froz k1
    obtain ⟨z2, z3⟩ := z1 (.int .i64 0)
    have HEnd := Lib.hid (b2_end k1 (.int .i64 0) (.slice none 0 0))
    clear z1 k1
    go_wp2
    obtain ⟨u0, u1⟩ := b2_facts HEnd.out
    refine bodyPost_ret (v := .tuple #[.agg #[.int .i64 0, .slice none 0 0], .int .i64 1]) (by simp [results, Tryz.f50, go_sem, u0, u1]) rfl ?_
    have e : R = (⟨0, []⟩, 1) := HN.out
    subst e
    exact ⟨none, 0, rfl, Nat.le_refl _, .nil _, below_set2 HB.out (by omega) _ _⟩
  | true =>
    obtain ⟨m1, m2, m3⟩ := hms hm
    have HPin := Lib.hid (pin_of (size := size) (a := 0) m2 (Int.le_refl 0) m3)
    rw [hm] at HBad HOk
    have HBd := Lib.hid (HBad.out rfl)
    have HOx := Lib.hid (HOk.out rfl)
    dsimp only at m1 m2
    clear hms HNo HBad HOk hm m3
    by_cases h1 : q < 0
    · have HN := Lib.hid (HBd.out (.inl h1))
      clear HBd HOx
      obtain ⟨r0, r1⟩ := b2_facts k1
      obtain ⟨z0, z1⟩ := b2_froz k1
      obtain ⟨z2, z3⟩ := z1 (.int .i64 0)
      have HEnd := Lib.hid (b2_end k1 (.int .i64 0) (.slice none 0 0))
      clear z1 k1
      go_wp2
      obtain ⟨u0, u1⟩ := b2_facts HEnd.out
      refine bodyPost_ret (v := .tuple #[.agg #[.int .i64 0, .slice none 0 0], .int .i64 9]) (by simp [results, Tryz.f50, go_sem, u0, u1]) rfl ?_
      have e : R = (⟨0, []⟩, 9) := HN.out
      subst e
      exact ⟨none, 0, rfl, Nat.le_refl _, .nil _, below_set2 HB.out (by omega) _ _⟩
    have h1' : decide (q < 0) = false := by simpa using h1
    by_cases h2 : q > 1099511627776
    · have HN := Lib.hid (HBd.out (.inr h2))
      clear HBd HOx
      obtain ⟨r0, r1⟩ := b2_facts k1
      obtain ⟨z0, z1⟩ := b2_froz k1
      obtain ⟨z2, z3⟩ := z1 (.int .i64 0)
      have HEnd := Lib.hid (b2_end k1 (.int .i64 0) (.slice none 0 0))
      clear z1 k1
      go_wp2
      obtain ⟨u0, u1⟩ := b2_facts HEnd.out
      refine bodyPost_ret (v := .tuple #[.agg #[.int .i64 0, .slice none 0 0], .int .i64 9]) (by simp [results, Tryz.f50, go_sem, u0, u1]) rfl ?_
      have e : R = (⟨0, []⟩, 9) := HN.out
      subst e
      exact ⟨none, 0, rfl, Nat.le_refl _, .nil _, below_set2 HB.out (by omega) _ _⟩
    have h2' : decide (q > 1099511627776) = false := by simpa using h2
    have HN := Lib.hid (HOx.out (by omega))
    have HWo := Lib.hid (doc_without L q 4611686018427387904 a c V1 (HS.out.below HB.out).s hc hl HPin.out (by omega) (by omega) (by omega))
    obtain ⟨e0, e1⟩ := b2_facts hbV
    clear HBd HOx
    go_wp2_with fail
    with_reducible refine Calls.mono HWo.out ?_
    rintro e V2 ⟨v, rfl, hO, hB2⟩
    obtain ⟨a3, c3, rfl, hc3, hS3, _⟩ := SlPo.own hO (.inr rfl)
    have k2 := (hB2.block (w.heap.size + 1) (by omega)).trans k1
    have HB2 := Lib.hid (blw HB.out hB2)
    have HS3 := Lib.hid hS3
    clear k1 hbV e0 e1 hO hB2 hS3 HWo
    generalize withoutD L q 4611686018427387904 = M at *
    have HNp : Hid (NoPt V2 (w.heap.size + 1)) := Lib.hid (.of_cells k2 (by decide) (by decide))
    obtain ⟨r0, r1⟩ := b2_facts k2
    obtain ⟨z0, z1⟩ := b2_froz k2
    obtain ⟨z2, z3⟩ := z1 (.int .i64 q)
    have HEnd := Lib.hid (b2_end k2 (.int .i64 q) (.slice a3 M.length c3))
    clear z1 k2
    go_wp2
    obtain ⟨u0, u1⟩ := b2_facts HEnd.out
    refine bodyPost_ret (v := .tuple #[.agg #[.int .i64 q, .slice a3 M.length c3], .int .i64 0]) (by simp [results, Tryz.f50, go_sem, u0, u1]) rfl ?_
    have e := HN.out
    subst e
    exact ⟨a3, c3, rfl, hc3, HS3.out.turnP (((Turn.refl [w.heap.size + 1] _).setCell (p := ⟨w.heap.size + 1, 0, none⟩) (.inl (by simp)) _).setCell (p := ⟨w.heap.size + 1, 1, none⟩) (.inl (by simp)) _) (by simpa using HNp.out), below_set2 HB2.out (by omega) _ _⟩
set_option maxRecDepth 100000 in
set_option maxHeartbeats 16000000 in
theorem doc_write (b : Bd) (off : Int) (l : List Bp) (a a2 : Option Addr) (c c2 : Nat) (w : World) (hS : SlPo w a b.parts) (hc : b.parts.length ≤ c) (hl : b.parts.length ≤ 1000000) (hS2 : SlPt w a2 l) (hc2 : l.length ≤ c2) (hm : l.length ≤ 1000000) :
    Calls Tryz.prog 51 #[.agg #[.int .i64 b.size, .slice a b.parts.length c], .int .i64 off, .slice a2 l.length c2] w (BdAns w (writeS b off l)) := by
  obtain ⟨R, hR⟩ : ∃ R, writeS b off l = R := ⟨_, rfl⟩
  rw [hR]
  have HNo : Hid (mayBd b = false ∨ l.all fitsP = false → R = (⟨0, []⟩, 1)) := Lib.hid fun h => by rw [← hR]; unfold writeS; rw [if_neg (by rcases h with h | h <;> rw [h] <;> simp)]
  have HBad : Hid (mayBd b = true → l.all fitsP = true → (off < 0 ∨ 1099511627776 - sumP l < off) → R = (⟨0, []⟩, 9)) := Lib.hid fun h h1 h2 => by rw [← hR]; unfold writeS; rw [if_pos ⟨h, h1⟩, if_pos h2]
  have HNil : Hid (mayBd b = true → l.all fitsP = true → ¬ (off < 0 ∨ 1099511627776 - sumP l < off) → l = [] → R = (b, 0)) := Lib.hid fun h h1 h2 h3 => by rw [← hR]; unfold writeS; rw [if_pos ⟨h, h1⟩, if_neg h2, if_pos h3]
  have HOk : Hid (mayBd b = true → l.all fitsP = true → ¬ (off < 0 ∨ 1099511627776 - sumP l < off) → l ≠ [] → R = (⟨max b.size (off + sumP l), (withoutD b.parts off (off + sumP l)).takeWhile (fun p => decide (p.off < off)) ++ layP off l ++ (withoutD b.parts off (off + sumP l)).filter (fun p => decide (off ≤ p.off))⟩, 0)) := Lib.hid fun h h1 h2 h3 => by
    have hp := sumP_pos h1
    obtain ⟨d1, d2⟩ := doc_parts (from_ := off) (to_ := off + sumP l) (by omega) (mayBd_spec h).2.2
    rw [← hR]; unfold writeS; rw [if_pos ⟨h, h1⟩, if_neg h2, if_neg h3, d1, d2]
  have HS2 := Lib.hid hS2
  obtain ⟨i0, hi, hz0, hz1, hz2⟩ := info_parts info_rpt
  clear hR hS2
  obtain ⟨size, L⟩ := b
  dsimp only at *
  have hb0 := Below.heap_alloc (w.alloc (.cells #[.int .i64 size, .slice a L.length c] 68)) (.cells #[.int .i64 0, .slice none 0 0] 68) w.heap.size (by simp)
  rw [heap_alloc_new] at hb0
  have hb1 := heap_alloc_new (w.alloc (.cells #[.int .i64 size, .slice a L.length c] 68)) (.cells #[.int .i64 0, .slice none 0 0] 68)
  have hsv1 : (w.alloc (.cells #[.int .i64 size, .slice a L.length c] 68)).heap.size = w.heap.size + 1 := by simp
  rw [hsv1] at hb1
  have hBV : Below w.heap.size w ((w.alloc (.cells #[.int .i64 size, .slice a L.length c] 68)).alloc (.cells #[.int .i64 0, .slice none 0 0] 68)) := ((Below.refl _ _).alloc (Nat.le_refl _) _).alloc (by omega) _
  have hsV : ((w.alloc (.cells #[.int .i64 size, .slice a L.length c] 68)).alloc (.cells #[.int .i64 0, .slice none 0 0] 68)).heap.size = w.heap.size + 2 := by simp
  have HS := Lib.hid hS
  clear hS
  go_enter Tryz.func51, Tryz.ntmps51
  go_upto_region 1 with (fail)
  generalize (w.alloc (.cells #[.int .i64 size, .slice a L.length c] 68)).alloc (.cells #[.int .i64 0, .slice none 0 0] 68) = V at *
  clear hsv1
  have HMay := Lib.hid (doc_bodymay ⟨size, L⟩ a c V (HS.out.below hBV).s hc (by dsimp only; omega))
  obtain ⟨e0, e1⟩ := b2_facts hb0
  go_wp2_with fail
  with_reducible refine Calls.mono HMay.out ?_
  rintro e V1 ⟨rfl, hB1⟩
  have hbV := (hB1.block w.heap.size (by omega)).trans hb0
  have k1 := (hB1.block (w.heap.size + 1) (by omega)).trans hb1
  have HB := Lib.hid (blw hBV hB1)
  have hs1 := hB1.size
  have hms : mayBd ⟨size, L⟩ = true → _ := fun h => mayBd_spec h
  clear hBV hB1 hb0 hb1 e0 e1 HMay
  cases hmb : mayBd ⟨size, L⟩ with
  | false =>
    have HN := Lib.hid (HNo.out (.inl hmb))
    clear hms HNo HBad HOk HNil hmb
    obtain ⟨r0, r1⟩ := b2_facts k1
    obtain ⟨z0, z1⟩ := b2_froz k1
    obtain ⟨z2, z3⟩ := z1 (.int .i64 0)
    have HEnd := Lib.hid (b2_end k1 (.int .i64 0) (.slice none 0 0))
    clear z1 k1
    go_wp2
    obtain ⟨u0, u1⟩ := b2_facts HEnd.out
    refine bodyPost_ret (v := .tuple #[.agg #[.int .i64 0, .slice none 0 0], .int .i64 1]) (by simp [results, Tryz.f51, go_sem, u0, u1]) rfl ?_
    have e : R = (⟨0, []⟩, 1) := HN.out
    subst e
    exact ⟨none, 0, rfl, Nat.le_refl _, .nil _, below_set2 HB.out (by omega) _ _⟩
  | true =>
    obtain ⟨m1, m2, m3⟩ := hms hmb
    have HPin := Lib.hid (pin_of (size := size) (a := 0) m2 (Int.le_refl 0) m3)
    dsimp only at m1 m2
    have HBd := Lib.hid (HBad.out hmb)
    have HNl := Lib.hid (HNil.out hmb)
    have HOx := Lib.hid (HOk.out hmb)
    have HK1 := Lib.hid k1
    have HKV := Lib.hid hbV
    clear hms HBad HOk HNil hmb m3 k1 hbV
    go_wp2
    go_loopw [8, 9] (fun v i wr => ∃ (k : Nat) (s : Int), k ≤ l.length ∧ v = .int .i64 s ∧ i = .int .i64 (k : Int) ∧ Hid (s = sumP (l.take k)) ∧ 0 ≤ s ∧ s ≤ 64 * (k : Int) ∧ Hid ((l.take k).all fitsP = true) ∧ Hid (Below V1.heap.size V1 wr)) (fun _ i _ => l.length - (intOf i).toNat)
    case atStart => exact ⟨0, 0, by omega, rfl, rfl, Lib.hid rfl, by omega, by omega, Lib.hid rfl, Lib.hid (Below.refl _ _)⟩
    case round =>
      obtain ⟨k, s, hk, rfl, rfl, HSu, hs0, hs6, HFi, HBr⟩ := hrel
      have hsr := HBr.out.size
      by_cases hlt : k < l.length
      · obtain ⟨b, o, rfl, p0, p1, p2, p3, hbl⟩ := SlPt_at ((HS2.out.below HB.out).below HBr.out) hlt
        have hki : (k : Int) < (l.length : Int) := by omega
        have hkc : (k : Int) < (c2 : Int) := by omega
        have HTk := Lib.hid (take_snocP hlt)
        have HMem : Hid (l.getD k default ∈ l) := Lib.hid (by simp [List.getD, hlt])
        generalize l.getD k default = p at *
        obtain ⟨po, pl, pc, pa⟩ := p
        dsimp only at p0 p1 p2 p3
        have HPm := Lib.hid (doc_partmay ⟨po, pl, pc, pa⟩ wr)
        go_wp2_with fail
        with_reducible refine Calls.mono HPm.out ?_
        rintro e Y ⟨rfl, hBY⟩
        have q1 := (World.cell?_of_block (hBY.block b hbl) : Y.cell? ⟨b, o + k * 4 + 1, none⟩ = _).trans p1
        have HBY := Lib.hid (blw HBr.out hBY)
        have HF := Lib.hid (blw HB.out (blw HBr.out hBY))
        have hsy := hBY.size
        clear hBY p0 p1 p2 p3 HPm
        cases hf : fitsP ⟨po, pl, pc, pa⟩ with
        | false =>
          have HN := Lib.hid (HNo.out (.inr (List.all_eq_false.2 ⟨_, HMem.out, by rw [hf]; decide⟩)))
          have k1 := (HBY.out.block (w.heap.size + 1) (by omega)).trans HK1.out
          clear HNo HBd HNl HOx hf q1
          obtain ⟨r0, r1⟩ := b2_facts k1
          obtain ⟨z0, z1⟩ := b2_froz k1
          obtain ⟨z2, z3⟩ := z1 (.int .i64 0)
          have HEnd := Lib.hid (b2_end k1 (.int .i64 0) (.slice none 0 0))
          clear z1 k1
          go_wp2
          obtain ⟨u0, u1⟩ := b2_facts HEnd.out
          refine bodyPost_ret (v := .tuple #[.agg #[.int .i64 0, .slice none 0 0], .int .i64 1]) (by simp [results, Tryz.f51, go_sem, u0, u1]) rfl ?_
          have e : R = (⟨0, []⟩, 1) := HN.out
          subst e
          exact ⟨none, 0, rfl, Nat.le_refl _, .nil _, below_set2 HF.out (by omega) _ _⟩
        | true =>
          obtain ⟨g1, g2, g3, g4, g5, g6⟩ := fitsP_spec hf
          dsimp only at g1 g2 g3 g4 g5 g6
          have HSu2 : Hid (s + pl = sumP (l.take (k + 1))) := Lib.hid (by rw [HTk.out, sumP_snoc, ← HSu.out])
          have HFi2 : Hid ((l.take (k + 1)).all fitsP = true) := Lib.hid (by rw [HTk.out, List.all_append, HFi.out]; simp [hf])
          have hw1 : wrap64 (s + pl) = s + pl := w64 (by omega) (by omega)
          clear hf g3 g4 g5 g6
          go_wp2
          exact ⟨⟨k + 1, s + pl, by omega, rfl, by go_num, HSu2, by omega, by omega, HFi2, HBY⟩, by simp [intOf]; omega⟩
      · obtain rfl : k = l.length := by omega
        have hlt' : decide ((l.length : Int) < (l.length : Int)) = false := by simp
        have hsum : s = sumP l := by rw [HSu.out, List.take_length]
        have hfit : l.all fitsP = true := by have h := HFi.out; rw [List.take_length] at h; exact h
        rw [← hsum] at HBd HNl HOx
        have HFit := Lib.hid hfit
        have HSum := Lib.hid hsum
        have HBd2 := Lib.hid (HBd.out hfit)
        have HNl2 := Lib.hid (HNl.out hfit)
        have HOx2 := Lib.hid (HOx.out hfit)
        have HF := Lib.hid (blw HB.out HBr.out)
        have k1 := (HBr.out.block (w.heap.size + 1) (by omega)).trans HK1.out
        have kv := (HBr.out.block w.heap.size (by omega)).trans HKV.out
        have hw2 : wrap64 (1099511627776 - s) = 1099511627776 - s := w64 (by omega) (by omega)
        clear hlt HNo HBd HNl HOx HFi HSu hsum hfit
        by_cases h1 : off < 0
        · have HN := Lib.hid (HBd2.out (.inl h1))
          clear HBd2 HNl2 HOx2 kv
          obtain ⟨r0, r1⟩ := b2_facts k1
          obtain ⟨z0, z1⟩ := b2_froz k1
          obtain ⟨z2, z3⟩ := z1 (.int .i64 0)
          have HEnd := Lib.hid (b2_end k1 (.int .i64 0) (.slice none 0 0))
          clear z1 k1
          go_wp2
          obtain ⟨u0, u1⟩ := b2_facts HEnd.out
          refine bodyPost_ret (v := .tuple #[.agg #[.int .i64 0, .slice none 0 0], .int .i64 9]) (by simp [results, Tryz.f51, go_sem, u0, u1]) rfl ?_
          have e : R = (⟨0, []⟩, 9) := HN.out
          subst e
          exact ⟨none, 0, rfl, Nat.le_refl _, .nil _, below_set2 HF.out (by omega) _ _⟩
        have h1' : decide (off < 0) = false := by simpa using h1
        by_cases h2 : off > 1099511627776 - s
        · have HN := Lib.hid (HBd2.out (.inr h2))
          clear HBd2 HNl2 HOx2 kv
          obtain ⟨r0, r1⟩ := b2_facts k1
          obtain ⟨z0, z1⟩ := b2_froz k1
          obtain ⟨z2, z3⟩ := z1 (.int .i64 0)
          have HEnd := Lib.hid (b2_end k1 (.int .i64 0) (.slice none 0 0))
          clear z1 k1
          go_wp2
          obtain ⟨u0, u1⟩ := b2_facts HEnd.out
          refine bodyPost_ret (v := .tuple #[.agg #[.int .i64 0, .slice none 0 0], .int .i64 9]) (by simp [results, Tryz.f51, go_sem, u0, u1]) rfl ?_
          have e : R = (⟨0, []⟩, 9) := HN.out
          subst e
          exact ⟨none, 0, rfl, Nat.le_refl _, .nil _, below_set2 HF.out (by omega) _ _⟩
        have h2' : decide (off > 1099511627776 - s) = false := by simpa using h2
        by_cases h3 : l.length = 0
        · have HN := Lib.hid (HNl2.out (by omega) (List.length_eq_zero_iff.1 h3))
          have h3' : ((l.length : Int) == 0) = true := by rw [h3]; rfl
          obtain ⟨e0, e1⟩ := b2_facts kv
          have HNp : Hid (NoPt wr (w.heap.size + 1)) := Lib.hid (.of_cells k1 (by decide) (by decide))
          have HSb := Lib.hid (HS.out.below HF.out)
          clear HBd2 HNl2 HOx2 kv
          obtain ⟨r0, r1⟩ := b2_facts k1
          obtain ⟨z0, z1⟩ := b2_froz k1
          obtain ⟨z2, z3⟩ := z1 (.int .i64 size)
          have HEnd := Lib.hid (b2_end k1 (.int .i64 size) (.slice a L.length c))
          clear z1 k1
          go_wp2
          obtain ⟨u0, u1⟩ := b2_facts HEnd.out
          refine bodyPost_ret (v := .tuple #[.agg #[.int .i64 size, .slice a L.length c], .int .i64 0]) (by simp [results, Tryz.f51, go_sem, u0, u1]) rfl ?_
          have e := HN.out
          subst e
          exact ⟨a, c, rfl, hc, HSb.out.turnP (((Turn.refl [w.heap.size + 1] _).setCell (p := ⟨w.heap.size + 1, 0, none⟩) (.inl (by simp)) _).setCell (p := ⟨w.heap.size + 1, 1, none⟩) (.inl (by simp)) _) (by simpa using HNp.out), below_set2 HF.out (by omega) _ _⟩
        have h3' : ((l.length : Int) == 0) = false := by rw [beq_eq_false_iff_ne]; omega
        have HN := Lib.hid (HOx2.out (by omega) (fun e => h3 (by rw [e]; rfl)))
        have HK1 := Lib.hid k1
        have HKv := Lib.hid kv
        have HSr := Lib.hid (HS2.out.below HF.out)
        have hsum2 := sumP_take HFit.out (Nat.le_refl l.length)
        rw [List.take_length, ← HSum.out] at hsum2
        have hw3 : wrap64 (off + s) = off + s := w64 (by omega) (by omega)
        have HWo := Lib.hid (doc_without L off (off + s) a c wr (HS.out.below HF.out).s hc hl HPin.out (by omega) (by omega) (by omega))
        obtain ⟨e0, e1⟩ := b2_facts kv
        clear HBd2 HNl2 HOx2 k1 kv
        go_wp2_with fail
        with_reducible refine Calls.mono HWo.out ?_
        rintro e w2 ⟨v, rfl, hO, hB2⟩
        obtain ⟨a3, c3, rfl, hc3, hS3, _⟩ := SlPo.own hO (.inr rfl)
        have hsw2 := hB2.size
        have HK2 := Lib.hid ((hB2.block (w.heap.size + 1) (by omega)).trans HK1.out)
        have HKv2 := Lib.hid ((hB2.block w.heap.size (by omega)).trans HKv.out)
        have HSl := Lib.hid (HSr.out.below hB2)
        have HF2 := Lib.hid (blw HF.out hB2)
        have HSM := Lib.hid hS3.s
        have hMl : (withoutD L off (off + s)).length ≤ 2000000 := Nat.le_trans (withoutD_len _ _ _) (by omega)
        clear hO hB2 hS3 HWo e0 e1 HSr HK1 HKv HKV HF HBr
        generalize withoutD L off (off + s) = M at *
        go_wp2
        go_loopw [11, 12] (fun v i wr => ∃ k : Nat, k ≤ M.length ∧ i = .int .i64 (k : Int) ∧ Hid (wr.ownsRow w2.heap.size 87 4 v (M.take k).length (encP.cells (M.take k))) ∧ Hid (Below w2.heap.size w2 wr) ∧ Hid (∀ j, j < k → (M.getD j default).off < off)) (fun _ i _ => M.length - (intOf i).toNat)
        case atStart => exact ⟨0, by omega, rfl, Lib.hid (World.ownsRow_nil _ _ _ _), Lib.hid (Below.refl _ _), Lib.hid fun j hj => by omega⟩
        case round =>
          obtain ⟨k, hk, rfl, HO, HBr, HJ⟩ := hrel
          have hsr2 := HBr.out.size
          go_upto_region 17 with (fail)
          go_cut [73] from 61 to 82 (fun bv wx => ∃ b : Bool, bv = .bool b ∧ wr = wx ∧ Hid (b = true → k < M.length ∧ (M.getD k default).off < off) ∧ Hid (b = false → M.takeWhile (fun p => decide (p.off < off)) = M.take k))
          case first =>
            by_cases hlt : k < M.length
            · obtain ⟨b, o, rfl, p0, p1, p2, p3, hbl⟩ := SlPt_at (HSM.out.below HBr.out) hlt
              have hki : (k : Int) < (M.length : Int) := by omega
              have hkc : (k : Int) < (c3 : Int) := by omega
              have HEnd := Lib.hid (fun h => tw_stop HJ.out hk fun _ => h)
              have HYes := Lib.hid (fun h : (M.getD k default).off < off => (⟨hlt, h⟩ : k < M.length ∧ (M.getD k default).off < off))
              generalize M.getD k default = p at *
              clear p1 p2 p3
              go_wp2
              go_meet
              case rel => exact ⟨_, rfl, rfl, Lib.hid fun h => HYes.out (by simpa using h), Lib.hid fun h => HEnd.out (by simpa using h)⟩
            · obtain rfl : k = M.length := by omega
              have hlt' : decide ((M.length : Int) < (M.length : Int)) = false := by simp
              have HEnd := Lib.hid (tw_stop HJ.out (Nat.le_refl _) fun h => absurd h (by omega))
              clear hlt
              go_wp2
              go_meet
              case rel => exact ⟨false, rfl, rfl, Lib.hid fun h => (by cases h), Lib.hid fun _ => HEnd.out⟩
          case rest =>
            obtain ⟨b, rfl, rfl, HTr, HFa⟩ := hcut
            cases b with
            | true =>
              obtain ⟨hlt, _⟩ := HTr.out rfl
              obtain ⟨b, o, rfl, p0, p1, p2, p3, hbl⟩ := SlPt_at (HSM.out.below HBr.out) hlt
              have hki : (k : Int) < (M.length : Int) := by omega
              have hkc : (k : Int) < (c3 : Int) := by omega
              have HTk := Lib.hid (take_snocP hlt)
              have HJ2 : Hid (∀ j, j < k + 1 → (M.getD j default).off < off) := Lib.hid fun j hj => by
                by_cases e : j = k
                · subst e; exact (HTr.out rfl).2
                · exact HJ.out j (by omega)
              have htl : (M.take k).length ≤ 2000000 := by rw [List.length_take]; omega
              generalize M.getD k default = p at *
              obtain ⟨po, pl, pc, pa⟩ := p
              dsimp only at p0 p1 p2 p3
              clear HTr HFa HJ
              go_wp2_with (first | (at_builtin; refine wpList_append_own _ rfl (.tmp 76) (.tmp 81) 32 rfl w2.heap.size 87 i0 _ 4 32 Tryz.underlying32 hi hz0 hz1 hz2 rfl (by decide) _ _ _ rfl (HO.out.alloc _) ⟨wr.heap.size, 0, none⟩ 1 1 [.int .i64 po, .int .i64 pl, .int .i64 pc, .int .i64 pa] rfl rfl (new4b _ _ _ _ _ _ _ (by first | rfl | omega)) (by intro u hu; simp at hu; rcases hu with rfl | rfl | rfl | rfl <;> rfl) (by unfold maxLen; omega) (by omega) (by simp; omega) ?_; intro v' w5 hown' hgrow hnil; clear hnil; have HO5 := Lib.hid hown'; have HG5 := Lib.hid hgrow; clear hown' hgrow))
              refine ⟨⟨k + 1, by omega, by go_num, ?_, ?_, HJ2⟩, by simp [intOf]; omega⟩
              · have h := HO5.out
                rw [HTk.out, cellsK_snoc, List.length_append, List.length_singleton]
                exact Lib.hid h
              · exact Lib.hid (grown_below (HBr.out.alloc HBr.out.size _) (by simp; omega) (HO.out.alloc _) HG5.out)
            | false =>
              have hTW := HFa.out rfl
              have ho := HO.out
              rw [← hTW] at ho
              have htwl : (M.takeWhile (fun p => decide (p.off < off))).length ≤ 2000000 := by rw [hTW, List.length_take]; omega
              have HOt := Lib.hid ho
              have HFl := Lib.hid (List.length_filter_le (fun p : Bp => decide (off ≤ p.off)))
              clear HTr HFa HJ hTW ho HO
              generalize M.takeWhile (fun p => decide (p.off < off)) = TW at *
              go_wp2
              go_loopw [11, 13, 14] (fun v q i wr => ∃ (k : Nat) (qi : Int), k ≤ l.length ∧ q = .int .i64 qi ∧ i = .int .i64 (k : Int) ∧ 0 ≤ qi ∧ qi ≤ off + 64 * (k : Int) ∧ Hid (qi = off + sumP (l.take k)) ∧ Hid (wr.ownsRow w2.heap.size 87 4 v (TW ++ layP off (l.take k)).length (encP.cells (TW ++ layP off (l.take k)))) ∧ Hid (Below w2.heap.size w2 wr)) (fun _ _ i _ => l.length - (intOf i).toNat)
              case atStart => exact ⟨0, off, by omega, rfl, rfl, by omega, by omega, Lib.hid (by simp [sumP]), by simpa [layP] using HOt, HBr⟩
              case round =>
                obtain ⟨k, q, hk, rfl, rfl, hq0, hq1, HQ, HO, HBr⟩ := hrel
                have hsr3 := HBr.out.size
                by_cases hlt : k < l.length
                · obtain ⟨b, o, rfl, p0, p1, p2, p3, hbl⟩ := SlPt_at (HSl.out.below HBr.out) hlt
                  have hki : (k : Int) < (l.length : Int) := by omega
                  have hkc : (k : Int) < (c2 : Int) := by omega
                  have HTk := Lib.hid (take_snocP hlt)
                  have hfk := fitsP_spec (List.all_eq_true.1 HFit.out (l.getD k default) (by simp [List.getD, hlt]))
                  have hll : (TW ++ layP off (l.take k)).length ≤ 3000000 := by rw [List.length_append, layP_len, List.length_take]; omega
                  generalize l.getD k default = p at *
                  obtain ⟨po, pl, pc, pa⟩ := p
                  obtain ⟨g1, g2, -⟩ := hfk
                  dsimp only at p0 p1 p2 p3 g1 g2
                  have HQ2 : Hid (q + pl = off + sumP (l.take (k + 1))) := Lib.hid (by rw [HTk.out, sumP_snoc, HQ.out, Int.add_assoc])
                  have HL2 : Hid (TW ++ layP off (l.take (k + 1)) = (TW ++ layP off (l.take k)) ++ [⟨q, pl, pc, pa⟩]) := Lib.hid (by rw [HTk.out, layP_snoc, HQ.out, List.append_assoc])
                  have hw4 : wrap64 (q + pl) = q + pl := w64 (by omega) (by omega)
                  generalize TW ++ layP off (l.take k) = N at *
                  have hb1 := heap_alloc_new wr (.cells #[.int .i64 po, .int .i64 pl, .int .i64 pc, .int .i64 pa] 87)
                  have hB1 : Below wr.heap.size wr (wr.alloc (.cells #[.int .i64 po, .int .i64 pl, .int .i64 pc, .int .i64 pa] 87)) := (Below.refl _ _).alloc (Nat.le_refl _) _
                  have hs1 : (wr.alloc (.cells #[.int .i64 po, .int .i64 pl, .int .i64 pc, .int .i64 pa] 87)).heap.size = wr.heap.size + 1 := by simp
                  go_upto_region 25 with (fail)
                  generalize wr.alloc (.cells #[.int .i64 po, .int .i64 pl, .int .i64 pc, .int .i64 pa] 87) = X at *
                  obtain ⟨y0, y1, y2, y3, yf⟩ := b4_cells hb1
                  have hyf := yf 0
                  have HX2 : Hid ((X.setCell ⟨wr.heap.size, 0, none⟩ (.int .i64 q)).heap[wr.heap.size]? = some (.cells #[.int .i64 q, .int .i64 pl, .int .i64 pc, .int .i64 pa] 87 (0, 0))) := Lib.hid (heap_setCell_at hb1 0 _)
                  have HB2 : Hid (Below wr.heap.size wr (X.setCell ⟨wr.heap.size, 0, none⟩ (.int .i64 q))) := Lib.hid (hB1.setCell (p := ⟨wr.heap.size, 0, none⟩) (Nat.le_refl _) _)
                  have hs2 : (X.setCell ⟨wr.heap.size, 0, none⟩ (.int .i64 q)).heap.size = wr.heap.size + 1 := by simp [World.setCell]; omega
                  clear yf hb1 hB1 p0 p1 p2 p3
                  go_upto_region 26 with (fail)
                  generalize X.setCell ⟨wr.heap.size, 0, none⟩ (.int .i64 q) = X2 at *
                  clear y0 y1 y2 y3 hyf hs1
                  obtain ⟨y0, y1, y2, y3, -⟩ := b4_cells HX2.out
                  have HOx := Lib.hid (own_below_any HO.out HB2.out)
                  go_wp2_with (first | (at_builtin; refine wpList_append_own _ rfl (.tmp 100) (.tmp 102) 32 rfl w2.heap.size 87 i0 _ 4 32 Tryz.underlying32 hi hz0 hz1 hz2 rfl (by decide) _ _ _ rfl (HOx.out.alloc _) ⟨wr.heap.size + 1, 0, none⟩ 1 1 [.int .i64 q, .int .i64 pl, .int .i64 pc, .int .i64 pa] rfl rfl (new4b _ _ _ _ _ _ _ (by first | rfl | omega)) (by intro u hu; simp at hu; rcases hu with rfl | rfl | rfl | rfl <;> rfl) (by unfold maxLen; omega) (by omega) (by simp; omega) ?_; intro v' w5 hown' hgrow hnil; clear hnil; have HO5 := Lib.hid hown'; have HG5 := Lib.hid hgrow; clear hown' hgrow))
                  refine ⟨⟨k + 1, q + pl, by omega, rfl, by go_num, by omega, by omega, HQ2, ?_, ?_⟩, by simp [intOf]; omega⟩
                  · have h := HO5.out
                    rw [HL2.out, cellsK_snoc, List.length_append, List.length_singleton]
                    exact Lib.hid h
                  · exact Lib.hid (grown_below ((HBr.out.trans (HB2.out.mono hsr3)).alloc (by omega) _) (by simp; omega) (HOx.out.alloc _) HG5.out)
                · obtain rfl : k = l.length := by omega
                  have hlt' : decide ((l.length : Int) < (l.length : Int)) = false := by simp
                  have ho := HO.out
                  rw [List.take_length] at ho
                  have hll : (TW ++ layP off l).length ≤ 3000000 := by rw [List.length_append, layP_len]; omega
                  have HOt := Lib.hid ho
                  clear hlt ho HO HQ
                  generalize TW ++ layP off l = N at *
                  go_wp2
                  go_loopw [11, 16] (fun v i wr => ∃ k : Nat, k ≤ M.length ∧ i = .int .i64 (k : Int) ∧ Hid (wr.ownsRow w2.heap.size 87 4 v (N ++ (M.take k).filter (fun p => decide (off ≤ p.off))).length (encP.cells (N ++ (M.take k).filter (fun p => decide (off ≤ p.off))))) ∧ Hid (Below w2.heap.size w2 wr)) (fun _ i _ => M.length - (intOf i).toNat)
                  case atStart => exact ⟨0, by omega, rfl, by simpa using HOt, HBr⟩
                  case round =>
                    obtain ⟨k, hk, rfl, HO, HBr⟩ := hrel
                    have hsr4 := HBr.out.size
                    by_cases hlt : k < M.length
                    · obtain ⟨b, o, rfl, p0, p1, p2, p3, hbl⟩ := SlPt_at (HSM.out.below HBr.out) hlt
                      have hki : (k : Int) < (M.length : Int) := by omega
                      have hkc : (k : Int) < (c3 : Int) := by omega
                      have HTk := Lib.hid (take_keepA hlt (fun p : Bp => decide (off ≤ p.off)))
                      have hfl := HFl.out (M.take k)
                      rw [List.length_take] at hfl
                      have hnl : (N ++ (M.take k).filter (fun p => decide (off ≤ p.off))).length ≤ 6000000 := by rw [List.length_append]; omega
                      generalize M.getD k default = p at *
                      obtain ⟨po, pl, pc, pa⟩ := p
                      dsimp only at p0 p1 p2 p3
                      by_cases hge : po ≥ off
                      · have HL2 : Hid (N ++ (M.take (k + 1)).filter (fun p => decide (off ≤ p.off)) = (N ++ (M.take k).filter (fun p => decide (off ≤ p.off))) ++ [⟨po, pl, pc, pa⟩]) := Lib.hid (by rw [HTk.out, if_pos (by simpa using hge), List.append_assoc])
                        generalize N ++ (M.take k).filter (fun p => decide (off ≤ p.off)) = N2 at *
                        clear hfl
                        go_wp2_with (first | (at_builtin; refine wpList_append_own _ rfl (.tmp 117) (.tmp 122) 32 rfl w2.heap.size 87 i0 _ 4 32 Tryz.underlying32 hi hz0 hz1 hz2 rfl (by decide) _ _ _ rfl (HO.out.alloc _) ⟨wr.heap.size, 0, none⟩ 1 1 [.int .i64 po, .int .i64 pl, .int .i64 pc, .int .i64 pa] rfl rfl (new4b _ _ _ _ _ _ _ (by first | rfl | omega)) (by intro u hu; simp at hu; rcases hu with rfl | rfl | rfl | rfl <;> rfl) (by unfold maxLen; omega) (by omega) (by simp; omega) ?_; intro v' w5 hown' hgrow hnil; clear hnil; have HO5 := Lib.hid hown'; have HG5 := Lib.hid hgrow; clear hown' hgrow))
                        refine ⟨⟨k + 1, by omega, by go_num, ?_, ?_⟩, by simp [intOf]; omega⟩
                        · have h := HO5.out
                          rw [HL2.out, cellsK_snoc, List.length_append, List.length_singleton]
                          exact Lib.hid h
                        · exact Lib.hid (grown_below (HBr.out.alloc HBr.out.size _) (by simp; omega) (HO.out.alloc _) HG5.out)
                      · have hge' : decide (po ≥ off) = false := by simpa using hge
                        have HL2 : Hid ((M.take (k + 1)).filter (fun p => decide (off ≤ p.off)) = (M.take k).filter (fun p => decide (off ≤ p.off))) := Lib.hid (by rw [HTk.out, if_neg (by simpa using hge), List.append_nil])
                        clear p1 p2 p3 hfl
                        go_wp2
                        exact ⟨⟨k + 1, by omega, by go_num, by rw [HL2.out]; exact HO, HBr⟩, by simp [intOf]; omega⟩
                    · obtain rfl : k = M.length := by omega
                      have hlt' : decide ((M.length : Int) < (M.length : Int)) = false := by simp
                      have ho := HO.out
                      rw [List.take_length] at ho
                      obtain ⟨a5, c5, rfl, hc5, hS5, _⟩ := SlPo.own ho (.inr rfl)
                      have HS5 := Lib.hid hS5
                      have k5 := (HBr.out.block (w.heap.size + 1) (by omega)).trans HK2.out
                      obtain ⟨e0, e1⟩ := b2_facts ((HBr.out.block w.heap.size (by omega)).trans HKv2.out)
                      have HNp : Hid (NoPt wr (w.heap.size + 1)) := Lib.hid (.of_cells k5 (by decide) (by decide))
                      have HFn := Lib.hid (blw HF2.out HBr.out)
                      clear hlt ho hS5 HO
                      generalize N ++ M.filter (fun p => decide (off ≤ p.off)) = FN at *
                      obtain ⟨r0, r1⟩ := b2_facts k5
                      obtain ⟨z0, z1⟩ := b2_froz k5
                      obtain ⟨z2, z3⟩ := z1 (.int .i64 (max size (off + s)))
                      have HEnd := Lib.hid (b2_end k5 (.int .i64 (max size (off + s))) (.slice a5 FN.length c5))
                      clear z1 k5
                      go_wp2
                      obtain ⟨u0, u1⟩ := b2_facts HEnd.out
                      refine bodyPost_ret (v := .tuple #[.agg #[.int .i64 (max size (off + s)), .slice a5 FN.length c5], .int .i64 0]) (by simp [results, Tryz.f51, go_sem, u0, u1]) rfl ?_
                      have e := HN.out
                      subst e
                      exact ⟨a5, c5, rfl, hc5, HS5.out.turnP (((Turn.refl [w.heap.size + 1] _).setCell (p := ⟨w.heap.size + 1, 0, none⟩) (.inl (by simp)) _).setCell (p := ⟨w.heap.size + 1, 1, none⟩) (.inl (by simp)) _) (by simpa using HNp.out), below_set2 HFn.out (by omega) _ _⟩
end Go.Proofs.YtiegadfhgccliaaGreatDoor
