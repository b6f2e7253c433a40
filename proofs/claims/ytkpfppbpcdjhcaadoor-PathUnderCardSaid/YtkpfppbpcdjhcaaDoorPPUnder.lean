/- The walk of PathUnder. -/
import Derived.Test.YtkpfppbpcdjhcaaDoorAwake11
namespace Go.Proofs.YtkpfppbpcdjhcaaDoor
open Go.RowKit Go.Lib

theorem punder_iff {a b : ByteArray} : punder a b = true ↔ ∃ x y, psplit a = some x ∧ psplit b = some y ∧ y.length < x.length ∧ x.take y.length = y := by
  unfold punder
  cases ha : psplit a <;> cases hb : psplit b <;> simp
theorem under_not_back {a b : ByteArray} (h : punder a b = true) : punder b a = false := by
  cases h2 : punder b a
  · rfl
  · obtain ⟨x, y, hx, hy, h1, _⟩ := punder_iff.1 h
    obtain ⟨x', y', hx', hy', h3, _⟩ := punder_iff.1 h2
    rw [hx] at hy'
    rw [hy] at hx'
    cases hy'; cases hx'
    omega
theorem under_trans {a b c : ByteArray} (h : punder a b = true) (h2 : punder b c = true) : punder a c = true := by
  obtain ⟨x, y, hx, hy, h1, e1⟩ := punder_iff.1 h
  obtain ⟨y', z, hy', hz, h3, e3⟩ := punder_iff.1 h2
  rw [hy] at hy'
  cases hy'
  refine punder_iff.2 ⟨x, z, hx, hz, by omega, ?_⟩
  have h4 : (x.take y.length).take z.length = z := by rw [e1]; exact e3
  rw [List.take_take, Nat.min_eq_left (by omega)] at h4
  exact h4
theorem under_root (a : ByteArray) : punder a ⟨#[47]⟩ = match psplit a with
    | some x => decide (0 < x.length)
    | none => false := by
  unfold punder
  rw [split_root]
  cases psplit a <;> simp

set_option maxRecDepth 100000 in
set_option maxHeartbeats 4000000 in
theorem pathUnder_walk (a b c : ByteArray) (w : World) (ha : a.size ≤ maxLen) (hb : b.size ≤ maxLen) (hc : c.size ≤ maxLen) (hm : MLen w) :
    Calls Tryd.prog 4 #[.string a, .string b, .string c] w fun e w' => e = .returned (.bool true) ∧ Below w.heap.size w w' := by
  have HA := Lib.hid (awake11 w hm)
  have HM : Hid (∀ w1, Below w.heap.size w w1 → MLen w1) := fun w1 h => hm.below h
  clear hm
  have HSa := Lib.hid ha
  have HSb := Lib.hid hb
  have HSc := Lib.hid hc
  unfold maxLen at ha hb hc
  by_cases h1 : 500 < a.size
  · have d1 : decide ((500 : Int) < (a.size : Int)) = true := by simp; omega
    go_enter Tryd.func4, Tryd.ntmps4
    go_wp2_with fail
    refine HA.out.mono ?_
    rintro e w1 ⟨rfl, hB1⟩
    go_wp2_with fail
    go_ret
    exact ⟨rfl, hB1⟩
  have d1 : decide ((500 : Int) < (a.size : Int)) = false := by simp; omega
  by_cases h2 : 500 < b.size
  · have d2 : decide ((500 : Int) < (b.size : Int)) = true := by simp; omega
    go_enter Tryd.func4, Tryd.ntmps4
    go_wp2_with fail
    refine HA.out.mono ?_
    rintro e w1 ⟨rfl, hB1⟩
    go_wp2_with fail
    go_ret
    exact ⟨rfl, hB1⟩
  have d2 : decide ((500 : Int) < (b.size : Int)) = false := by simp; omega
  by_cases h3 : 500 < c.size
  · have d3 : decide ((500 : Int) < (c.size : Int)) = true := by simp; omega
    go_enter Tryd.func4, Tryd.ntmps4
    go_wp2_with fail
    refine HA.out.mono ?_
    rintro e w1 ⟨rfl, hB1⟩
    go_wp2_with fail
    go_ret
    exact ⟨rfl, hB1⟩
  have d3 : decide ((500 : Int) < (c.size : Int)) = false := by simp; omega
  have HP1 : Hid (∀ w1, Below w.heap.size w w1 → Calls Tryd.prog 8 #[.string a] w1 (SplitAns w1 a)) := fun w1 h => path_split a w1 HSa.out (HM.out w1 h)
  have HU : Hid (∀ (x y : ByteArray) (r : Bool), x.size ≤ maxLen → y.size ≤ maxLen → punder x y = r → ∀ w1, Below w.heap.size w w1 → Calls Tryd.prog 12 #[.string x, .string y] w1 fun e w' => e = .returned (.bool r) ∧ Below w1.heap.size w1 w') := fun x y r hx hy hr w1 h => by
    have := path_under x y w1 hx hy (HM.out w1 h); rw [hr] at this; exact this
  have Haa := Lib.hid (under_self a)
  have hroot := Lib.hid (under_root a)
  cases hab : punder a b with
  | false =>
    have Hab := Lib.hid hab
    clear hab
    cases hx : psplit a with
    | none =>
      have HX := Lib.hid hx
      have HR := Lib.hid (show punder a ⟨#[47]⟩ = false by rw [hroot.out, hx])
      clear hx
      go_enter Tryd.func4, Tryd.ntmps4
      go_wp2_with fail
      refine HA.out.mono ?_
      rintro e w1 ⟨rfl, hB1⟩
      go_wp2_with fail
      refine (HU.out a a _ HSa.out HSa.out Haa.out _ hB1).mono ?_
      rintro e w2 ⟨rfl, hB2⟩
      go_wp2_with fail
      refine (HU.out a b _ HSa.out HSb.out Hab.out _ (blw hB1 hB2)).mono ?_
      rintro e w3 ⟨rfl, hB3⟩
      go_wp2_with fail
      refine (HU.out a b _ HSa.out HSb.out Hab.out _ (blw (blw hB1 hB2) hB3)).mono ?_
      rintro e w4 ⟨rfl, hB4⟩
      have HB4 := Lib.hid (blw (blw (blw hB1 hB2) hB3) hB4)
      clear hB1 hB2 hB3 hB4
      go_wp2_with fail
      refine (HP1.out _ HB4.out).mono ?_
      intro e w5 hr
      obtain ⟨rfl, hB5⟩ := splitAns_none HX.out hr
      clear hr
      go_wp2_with fail
      refine (HU.out a _ _ HSa.out (by decide) HR.out _ (blw HB4.out hB5)).mono ?_
      rintro e w6 ⟨rfl, hB6⟩
      go_wp2_with fail
      go_ret
      exact ⟨rfl, blw (blw HB4.out hB5) hB6⟩
    | some x =>
      have HX := Lib.hid hx
      have HR := Lib.hid (show punder a ⟨#[47]⟩ = decide (0 < x.length) by rw [hroot.out, hx])
      have d9 : ((decide (0 < x.length)) == (decide (0 < x.length))) = true := by simp
      have h8 := (psplit_ok hx).1.few
      clear hx
      go_enter Tryd.func4, Tryd.ntmps4
      go_wp2_with fail
      refine HA.out.mono ?_
      rintro e w1 ⟨rfl, hB1⟩
      go_wp2_with fail
      refine (HU.out a a _ HSa.out HSa.out Haa.out _ hB1).mono ?_
      rintro e w2 ⟨rfl, hB2⟩
      go_wp2_with fail
      refine (HU.out a b _ HSa.out HSb.out Hab.out _ (blw hB1 hB2)).mono ?_
      rintro e w3 ⟨rfl, hB3⟩
      go_wp2_with fail
      refine (HU.out a b _ HSa.out HSb.out Hab.out _ (blw (blw hB1 hB2) hB3)).mono ?_
      rintro e w4 ⟨rfl, hB4⟩
      have HB4 := Lib.hid (blw (blw (blw hB1 hB2) hB3) hB4)
      clear hB1 hB2 hB3 hB4
      go_wp2_with fail
      refine (HP1.out _ HB4.out).mono ?_
      intro e w5 hr
      obtain ⟨a1, c1, rfl, hc1, hS1, hB5⟩ := splitAns_some HX.out hr
      clear hr hS1
      by_cases hl : 0 < x.length
      · have HR2 := Lib.hid (HR.out.trans (decide_eq_true hl))
        have dl : decide ((0 : Int) < (x.length : Int)) = true := decide_eq_true (by omega)
        go_wp2_with fail
        refine (HU.out a _ _ HSa.out (by decide) HR2.out _ (blw HB4.out hB5)).mono ?_
        rintro e w6 ⟨rfl, hB6⟩
        go_wp2_with fail
        go_ret
        exact ⟨rfl, blw (blw HB4.out hB5) hB6⟩
      · have HR2 := Lib.hid (HR.out.trans (decide_eq_false hl))
        have dl : decide ((0 : Int) < (x.length : Int)) = false := decide_eq_false (by omega)
        have dl' : decide (0 < x.length) = false := decide_eq_false hl
        go_wp2_with fail
        refine (HU.out a _ _ HSa.out (by decide) HR2.out _ (blw HB4.out hB5)).mono ?_
        rintro e w6 ⟨rfl, hB6⟩
        go_wp2_with fail
        go_ret
        exact ⟨rfl, blw (blw HB4.out hB5) hB6⟩
  | true =>
    have Hab := Lib.hid hab
    have Hba := Lib.hid (under_not_back hab)
    obtain ⟨x, y, hx, hy, hl0, _⟩ := punder_iff.1 hab
    have HX := Lib.hid hx
    have hl : 0 < x.length := by omega
    have HR := Lib.hid (show punder a ⟨#[47]⟩ = true by rw [hroot.out, hx]; simp [hl])
    have h8 := (psplit_ok hx).1.few
    have dl : decide ((0 : Int) < (x.length : Int)) = true := decide_eq_true (by omega)
    clear hx hy hl0
    cases hbc : punder b c with
    | false =>
      have Hbc := Lib.hid hbc
      clear hab hbc
      go_enter Tryd.func4, Tryd.ntmps4
      go_wp2_with fail
      refine HA.out.mono ?_
      rintro e w1 ⟨rfl, hB1⟩
      go_wp2_with fail
      refine (HU.out a a _ HSa.out HSa.out Haa.out _ hB1).mono ?_
      rintro e w2 ⟨rfl, hB2⟩
      go_wp2_with fail
      refine (HU.out a b _ HSa.out HSb.out Hab.out _ (blw hB1 hB2)).mono ?_
      rintro e w3 ⟨rfl, hB3⟩
      go_wp2_with fail
      refine (HU.out b a _ HSb.out HSa.out Hba.out _ (blw (blw hB1 hB2) hB3)).mono ?_
      rintro e w4 ⟨rfl, hB4⟩
      have HB4 := Lib.hid (blw (blw (blw hB1 hB2) hB3) hB4)
      clear hB1 hB2 hB3 hB4
      go_wp2_with fail
      refine (HU.out a b _ HSa.out HSb.out Hab.out _ HB4.out).mono ?_
      rintro e w5 ⟨rfl, hB5⟩
      go_wp2_with fail
      refine (HU.out b c _ HSb.out HSc.out Hbc.out _ (blw HB4.out hB5)).mono ?_
      rintro e w6 ⟨rfl, hB6⟩
      have HB6 := Lib.hid (blw (blw HB4.out hB5) hB6)
      clear hB5 hB6
      go_wp2_with fail
      refine (HP1.out _ HB6.out).mono ?_
      intro e w7 hr
      obtain ⟨a1, c1, rfl, hc1, hS1, hB7⟩ := splitAns_some HX.out hr
      clear hr hS1
      go_wp2_with fail
      refine (HU.out a _ _ HSa.out (by decide) HR.out _ (blw HB6.out hB7)).mono ?_
      rintro e w8 ⟨rfl, hB8⟩
      go_wp2_with fail
      go_ret
      exact ⟨rfl, blw (blw HB6.out hB7) hB8⟩
    | true =>
      have Hbc := Lib.hid hbc
      have Hac := Lib.hid (under_trans hab hbc)
      clear hab hbc
      go_enter Tryd.func4, Tryd.ntmps4
      go_wp2_with fail
      refine HA.out.mono ?_
      rintro e w1 ⟨rfl, hB1⟩
      go_wp2_with fail
      refine (HU.out a a _ HSa.out HSa.out Haa.out _ hB1).mono ?_
      rintro e w2 ⟨rfl, hB2⟩
      go_wp2_with fail
      refine (HU.out a b _ HSa.out HSb.out Hab.out _ (blw hB1 hB2)).mono ?_
      rintro e w3 ⟨rfl, hB3⟩
      go_wp2_with fail
      refine (HU.out b a _ HSb.out HSa.out Hba.out _ (blw (blw hB1 hB2) hB3)).mono ?_
      rintro e w4 ⟨rfl, hB4⟩
      have HB4 := Lib.hid (blw (blw (blw hB1 hB2) hB3) hB4)
      clear hB1 hB2 hB3 hB4
      go_wp2_with fail
      refine (HU.out a b _ HSa.out HSb.out Hab.out _ HB4.out).mono ?_
      rintro e w5 ⟨rfl, hB5⟩
      go_wp2_with fail
      refine (HU.out b c _ HSb.out HSc.out Hbc.out _ (blw HB4.out hB5)).mono ?_
      rintro e w6 ⟨rfl, hB6⟩
      have HB6 := Lib.hid (blw (blw HB4.out hB5) hB6)
      clear hB5 hB6
      go_wp2_with fail
      refine (HU.out a c _ HSa.out HSc.out Hac.out _ HB6.out).mono ?_
      rintro e w7 ⟨rfl, hB7⟩
      have HB7 := Lib.hid (blw HB6.out hB7)
      clear hB7
      go_wp2_with fail
      refine (HP1.out _ HB7.out).mono ?_
      intro e w8 hr
      obtain ⟨a1, c1, rfl, hc1, hS1, hB8⟩ := splitAns_some HX.out hr
      clear hr hS1
      go_wp2_with fail
      refine (HU.out a _ _ HSa.out (by decide) HR.out _ (blw HB7.out hB8)).mono ?_
      rintro e w9 ⟨rfl, hB9⟩
      go_wp2_with fail
      go_ret
      exact ⟨rfl, blw (blw HB7.out hB8) hB9⟩
end Go.Proofs.YtkpfppbpcdjhcaaDoor
