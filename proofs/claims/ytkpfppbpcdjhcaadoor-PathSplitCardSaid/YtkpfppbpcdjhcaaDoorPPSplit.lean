/- The walk of PathSplit. -/
import Derived.Test.YtkpfppbpcdjhcaaDoorAwake11
namespace Go.Proofs.YtkpfppbpcdjhcaaDoor
open Go.RowKit Go.Lib

theorem getD_mem {L : List ByteArray} {k : Nat} (hk : k < L.length) : L.getD k default ∈ L := by simp [List.getD, hk]

set_option maxRecDepth 100000 in
set_option maxHeartbeats 2000000 in
theorem pathSplit_walk (a b : ByteArray) (w : World) (ha : a.size ≤ maxLen) (hb : b.size ≤ maxLen) (hm : MLen w) :
    Calls Tryd.prog 3 #[.string a, .string b] w fun e w' => e = .returned (.bool true) ∧ Below w.heap.size w w' := by
  have HA := Lib.hid (awake11 w hm)
  have HM : Hid (∀ w1, Below w.heap.size w w1 → MLen w1) := fun w1 h => hm.below h
  clear hm
  have HSa := Lib.hid ha
  have HSb := Lib.hid hb
  unfold maxLen at ha hb
  by_cases h1 : 1000 < a.size
  · have d1 : decide ((1000 : Int) < (a.size : Int)) = true := by simp; omega
    go_enter Tryd.func3, Tryd.ntmps3
    go_wp2_with fail
    refine HA.out.mono ?_
    rintro e w1 ⟨rfl, hB1⟩
    go_wp2_with fail
    go_ret
    exact ⟨rfl, hB1⟩
  have d1 : decide ((1000 : Int) < (a.size : Int)) = false := by simp; omega
  by_cases h2 : 1000 < b.size
  · have d2 : decide ((1000 : Int) < (b.size : Int)) = true := by simp; omega
    go_enter Tryd.func3, Tryd.ntmps3
    go_wp2_with fail
    refine HA.out.mono ?_
    rintro e w1 ⟨rfl, hB1⟩
    go_wp2_with fail
    go_ret
    exact ⟨rfl, hB1⟩
  have d2 : decide ((1000 : Int) < (b.size : Int)) = false := by simp; omega
  generalize hU : punder a b = U
  generalize hN : nameOk a = N
  have HU := Lib.hid hU
  have HN := Lib.hid hN
  clear hU hN
  have HP1 : Hid (∀ w1, Below w.heap.size w w1 → Calls Tryd.prog 8 #[.string a] w1 (SplitAns w1 a)) := fun w1 h => path_split a w1 HSa.out (HM.out w1 h)
  have HP2 : Hid (∀ w1, Calls Tryd.prog 9 #[.string a] w1 (RSplitAns w1 a)) := fun w1 => ref_split a w1 HSa.out
  have HN1 : Hid (∀ w1, Calls Tryd.prog 10 #[.string a] w1 fun e w' => e = .returned (.bool N) ∧ ∃ n, w' = w1.drewN n) := fun w1 => by
    have := name_any a HSa.out w1; rw [HN.out] at this; exact this
  have HN2 : Hid (∀ w1, Calls Tryd.prog 11 #[.string a] w1 fun e w' => e = .returned (.bool N) ∧ w1 = w') := fun w1 => by
    have := rname_any a HSa.out w1; rw [HN.out] at this; exact this
  have HU1 : Hid (∀ w1, Below w.heap.size w w1 → Calls Tryd.prog 12 #[.string a, .string b] w1 fun e w' => e = .returned (.bool U) ∧ Below w1.heap.size w1 w') := fun w1 h => by
    have := path_under a b w1 HSa.out HSb.out (HM.out w1 h); rw [HU.out] at this; exact this
  have HU2 : Hid (∀ w1, Calls Tryd.prog 13 #[.string a, .string b] w1 fun e w' => e = .returned (.bool U) ∧ Below w1.heap.size w1 w') := fun w1 => by
    have := ref_under a b w1 HSa.out HSb.out; rw [HU.out] at this; exact this
  have bU : (U != U) = false := by cases U <;> rfl
  have bN : (N != N) = false := by cases N <;> rfl
  cases hx : psplit a with
  | none =>
    have HX := Lib.hid hx
    clear hx
    go_enter Tryd.func3, Tryd.ntmps3
    go_wp2_with fail
    refine HA.out.mono ?_
    rintro e w1 ⟨rfl, hB1⟩
    go_wp2_with fail
    refine (HP1.out _ hB1).mono ?_
    intro e w2 hr
    obtain ⟨rfl, hB2⟩ := splitAns_none HX.out hr
    clear hr
    go_wp2_with fail
    refine (HP2.out _).mono ?_
    intro e w3 hr
    obtain ⟨rfl, hB3⟩ := rsplitAns_none HX.out hr
    clear hr
    go_wp2_with fail
    refine (HN1.out _).mono ?_
    rintro e w4 ⟨rfl, n4, rfl⟩
    go_wp2_with fail
    refine (HN2.out _).mono ?_
    rintro e w5 ⟨rfl, rfl⟩
    have HB5 := Lib.hid (below_drewN' (blw (blw hB1 hB2) hB3) n4)
    clear hB1 hB2 hB3
    go_wp2_with fail
    refine (HU1.out _ HB5.out).mono ?_
    rintro e w6 ⟨rfl, hB6⟩
    go_wp2_with fail
    refine (HU2.out _).mono ?_
    rintro e w7 ⟨rfl, hB7⟩
    have HB7 := Lib.hid (blw (blw HB5.out hB6) hB7)
    clear hB6 hB7
    go_wp2
    go_loop [9] (fun i => i = .int .i64 0) (fun _ => 0)
    case atStart => rfl
    case round =>
      obtain rfl := hrel
      go_wp2
      go_ret
      exact ⟨rfl, HB7.out⟩
  | some L =>
    have HX := Lib.hid hx
    have hok := psplit_ok hx
    have h8 := hok.1.few
    have HJ := Lib.hid hok.2
    have HNm := Lib.hid hok.1.names
    have HSh := Lib.hid hok.1.short
    clear hx hok
    have b8 : ((L.length : Int) != (L.length : Int)) = false := by simp
    go_enter Tryd.func3, Tryd.ntmps3
    go_wp2_with fail
    refine HA.out.mono ?_
    rintro e w1 ⟨rfl, hB1⟩
    go_wp2_with fail
    refine (HP1.out _ hB1).mono ?_
    intro e w2 hr
    obtain ⟨a1, c1, rfl, hc1, hS1, hB2⟩ := splitAns_some HX.out hr
    clear hr
    go_wp2_with fail
    refine (HP2.out _).mono ?_
    intro e w3 hr
    obtain ⟨a2, c2, rfl, hc2, hS2, hB3⟩ := rsplitAns_some HX.out hr
    clear hr
    go_wp2_with fail
    refine (HN1.out _).mono ?_
    rintro e w4 ⟨rfl, n4, rfl⟩
    go_wp2_with fail
    refine (HN2.out _).mono ?_
    rintro e w5 ⟨rfl, rfl⟩
    have HB5 := Lib.hid (below_drewN' (blw (blw hB1 hB2) hB3) n4)
    have hS1' := hS1.below (below_drewN' hB3 n4)
    have hS2' := hS2.below (below_drewN' (Below.refl _ _) n4)
    clear hB1 hB2 hB3 hS1 hS2
    go_wp2_with fail
    refine (HU1.out _ HB5.out).mono ?_
    rintro e w6 ⟨rfl, hB6⟩
    go_wp2_with fail
    refine (HU2.out _).mono ?_
    rintro e w7 ⟨rfl, hB7⟩
    have HB7 := Lib.hid (blw (blw HB5.out hB6) hB7)
    have hS1 := hS1'.below (blw hB6 hB7)
    have hS2 := hS2'.below (blw hB6 hB7)
    clear hB6 hB7 hS1' hS2'
    go_wp2
    go_loopw [9] (fun i wr => ∃ (j : Nat), j ≤ L.length ∧ i = .int .i64 (j : Int) ∧ Hid (Below w7.heap.size w7 wr)) (fun i _ => L.length - (intOf i).toNat)
    case atStart => exact ⟨0, by omega, rfl, Lib.hid (Below.refl _ _)⟩
    case round =>
      obtain ⟨j, hj, rfl, HW⟩ := hrel
      by_cases hjl : j < L.length
      · obtain ⟨b1, o1, rfl, cell1, hbl1⟩ := (hS1.below HW.out).at_ hjl
        obtain ⟨b2, o2, rfl, cell2, hbl2⟩ := (hS2.below HW.out).at_ hjl
        have hji : (j : Int) < (L.length : Int) := by omega
        have hj0 : (0 : Int) ≤ (j : Int) := by omega
        have hn := HNm.out _ (getD_mem hjl)
        generalize L.getD j default = x at cell1 cell2 hn
        have hxs : x.size ≤ maxLen := by have := nameOk_size hn; unfold maxLen; omega
        have HQ : Hid (∀ w1, Calls Tryd.prog 10 #[.string x] w1 fun e w' => e = .returned (.bool true) ∧ ∃ n, w' = w1.drewN n) := fun w1 => by
          have := name_any x hxs w1; rw [hn] at this; exact this
        clear hn hxs
        have e1 : (x.toList == x.toList) = true := by simp
        go_wp2
        go_quiet ((go_at_call 10; exact Calls.quiet_of (HQ.out _)))
        go_wp2
        exact ⟨⟨j + 1, by omega, by go_num, Lib.hid (below_drewN' HW.out _)⟩, by simp [intOf]; omega⟩
      · have hjl2 : decide ((j : Int) < (L.length : Int)) = false := by simp; omega
        have hj1 : (join (L.map (·.data.toList)) [47]).length ≤ 281474976710656 := by
          have := HSh.out
          unfold pjoin at this
          rw [mkB_size, List.length_cons] at this
          omega
        have hj2 := path_join _ _ L _ (hS1.below HW.out) hc1 (by omega) hj1
        rw [HJ.out] at hj2
        have e1 : (a.toList == a.toList) = true := by simp
        go_wp2_with fail
        refine hj2.mono ?_
        rintro e w8 ⟨rfl, hB8⟩
        go_wp2_with fail
        go_ret
        exact ⟨rfl, blw (blw HB7.out HW.out) hB8⟩
end Go.Proofs.YtkpfppbpcdjhcaaDoor
