/- A finer grain keeps no fewer; without tiers all stay; a policy that begins later keeps no fewer: the walk of treeringlaw19.TierMore. -/
import Derived.Test.YtddnhjpclglclaaMoreL
import Derived.Test.YtddnhjpclglclaaPTKeeps
namespace Go.Proofs.Ytddnhjpclglclaa
open Go.RowKit Fl
set_option maxRecDepth 100000 in
set_option maxHeartbeats 4000000 in
theorem tierMore_walk (now : Nat) (s2 : Option Addr) (cap : Nat) (L : List Pt) (c : Int) (w : World) (hI : SlP w (.slice s2 L.length cap) L) (hcap : L.length ≤ cap) (hnow : now < 18446744073709551616) (hc0 : 0 ≤ c) (hc1 : c ≤ 255) :
    Calls Try.prog 14 #[.float .f64 now, .slice s2 L.length cap, .int .u8 c] w fun e w' => e = .returned (.bool true) ∧ Below w.heap.size w w' := by
  cases h100 : decide (100 < (L.length : Int))
  case true =>
    go_enter Try.func14, Try.ntmps14
    go_wp2_with (go_at_call 38; refine (awake19 _).mono ?_; rintro e w1 ⟨rfl, hB1⟩)
    go_ret
    exact ⟨rfl, hB1⟩
  have hLn : L.length ≤ 1000000 := by have := of_decide_eq_false h100; omega
  have hLi : (L.length : Int) ≤ 100 := by have := of_decide_eq_false h100; omega
  cases hm : mayB L
  case false =>
    have HM := Lib.hid hm
    clear hm
    go_enter Try.func14, Try.ntmps14
    go_wp2_with (first
      | (go_at_call 38; refine (awake19 _).mono ?_; rintro e w1 ⟨rfl, hB1⟩)
      | (go_at_call 19; refine (rpmay_sl _ _ L _ (hI.below hB1) (by omega)).mono ?_; rintro e w2 ⟨rfl, hB2⟩; rw [HM.out]))
    go_ret
    exact ⟨rfl, blw hB1 hB2⟩
  have HM := Lib.hid hm
  clear hm
  cases ht : tmay now
  case false =>
    have HTM := Lib.hid ht
    clear ht
    go_enter Try.func14, Try.ntmps14
    go_wp2_with (first
      | (go_at_call 38; refine (awake19 _).mono ?_; rintro e w1 ⟨rfl, hB1⟩)
      | (go_at_call 19; refine (rpmay_sl _ _ L _ (hI.below hB1) (by omega)).mono ?_; rintro e w2 ⟨rfl, hB2⟩; rw [HM.out])
      | (go_at_call 46; refine (rmay_any _ hnow _).mono ?_; rintro e w' ⟨rfl, rfl⟩; rw [HTM.out]))
    go_ret
    exact ⟨rfl, blw hB1 hB2⟩
  have HTM := Lib.hid ht
  clear ht
  go_enter Try.func14, Try.ntmps14
  go_wp2_with (first
    | (go_at_call 38; refine (awake19 _).mono ?_; rintro e w1 ⟨rfl, hB1⟩)
    | (go_at_call 19; refine (rpmay_sl _ _ L _ (hI.below hB1) (by omega)).mono ?_; rintro e w2 ⟨rfl, hB2⟩; rw [HM.out]; have hC2 := Lib.hid (blw hB1 hB2))
    | (go_at_call 46; refine (rmay_any _ hnow _).mono ?_; rintro e w' ⟨rfl, rfl⟩; rw [HTM.out]))
  go_loopw [7] (fun i wr => ∃ k : Nat, k ≤ L.length ∧ i = .int .i64 (k : Int) ∧ Hid (∀ j, j < k → key (L.getD j default).st ≤ 4696837146684686336) ∧ w2 = wr) (fun i _ => L.length - (intOf i).toNat)
  case atStart => exact ⟨0, by omega, rfl, Lib.hid fun j h => absurd h (by omega), rfl⟩
  case round =>
    obtain ⟨k, hk, rfl, HS, rfl⟩ := hrel
    by_cases hlt : k < L.length
    · obtain ⟨b, o, rfl, hr⟩ : ∃ b off, s2 = some ⟨b, off, none⟩ ∧ RdP w b off L := by
        rcases hI with ⟨a', cap', e, rfl⟩ | ⟨b, off, cap', e, hr⟩
        · simp at hlt
        · exact ⟨b, off, (Value.slice.inj e).1, hr⟩
      have hnn := (mayB_true.1 HM.out).nn hlt
      generalize hP : L.getD k default = p at hnn
      obtain ⟨ps, pt, pm⟩ := p
      dsimp only at hnn
      obtain ⟨c0, c1, c2⟩ := pcs (hr.below hC2.out) hlt hP
      have hbl := (hr.below hC2.out).lt
      have hkl : (k : Int) < (L.length : Int) := by omega
      have hnx : IntKind.i64.wrap ((k : Int) + 1) = (k : Int) + 1 := IntWalk.i64_in _ (by omega)
      have hg := f_gtr hnn (show NN 4696837146684686336 from .inl (by decide))
      have HP := Lib.hid hP
      clear hP hr hI
      by_cases hle : key pt ≤ 4696837146684686336
      · rw [decide_eq_false (by rw [show key 4696837146684686336 = 4696837146684686336 from rfl]; omega)] at hg
        go_wp2
        exact ⟨⟨k + 1, by omega, by go_num, Lib.hid fun j hj => by
          by_cases e : j = k
          · subst e; rw [HP.out]; exact hle
          · exact HS.out j (by omega), trivial⟩, by simp [intOf]; omega⟩
      · rw [decide_eq_true (by rw [show key 4696837146684686336 = 4696837146684686336 from rfl]; omega)] at hg
        go_wp2
        go_ret
        exact ⟨rfl, hC2.out⟩
    · have hlt' : decide ((k : Int) < (L.length : Int)) = false := decide_eq_false (by omega)
      obtain rfl : k = L.length := by omega
      obtain ⟨C, rfl⟩ := Int.eq_ofNat_of_zero_le hc0
      obtain ⟨m, hm⟩ : ∃ m : Nat, C % 20 = m := ⟨_, rfl⟩
      have hml : m < 20 := by omega
      have vm : (C : Int) % 20 = (m : Int) := by omega
      have vm' : (C : Int).tmod 20 = (m : Int) := by rw [Int.tmod_eq_emod_of_nonneg (by omega)]; exact vm
      have vf : floatOfInt .f64 (1 + (m : Int)) = dy (1 + m) 0 := floatOfInt_nat (1 + m)
      have vq : ∀ w, (binOp .quo 23 (.float .f64 (dy (1 + m) 0)) (.float .f64 4611686018427387904)).run Try.prog w = .ok (.float .f64 (dy (1 + m) 1)) w := by
        intro w
        have two_dy : 4611686018427387904 = dy 2 0 := by decide +kernel
        have := run_quo (P := Try.prog) 23 (quo_dy (a := 1 + m) (d := 2) (s := 0) (t := 0) (c := 1 + m) (u := 1) (by omega) (by omega) (by decide) (by omega) (by omega) (by omega) (by omega) (by omega) (by omega)) w
        rw [← two_dy] at this
        exact this
      obtain ⟨KA, KB, KC, eA, eB, eC, eD, l1, l2⟩ := more_ways (n := 1 + m) (by omega) (by omega) (tmay_iff.1 HTM.out) (mayB_true.1 HM.out) HS.out
      have lG : dy (1 + m) 0 < 18446744073709551616 := by have := (dy_spec (k := 1 + m) (s := 0) (by omega)).1; omega
      have lH : dy (1 + m) 1 < 18446744073709551616 := by have := (dy_spec (k := 1 + m) (s := 1) (by omega)).1; omega
      generalize dy (1 + m) 0 = G at *
      generalize dy (1 + m) 1 = H at *
      have EA := Lib.hid eA
      have EB := Lib.hid eB
      have EC := Lib.hid eC
      have ED := Lib.hid eD
      have fA : ∀ k, k < [(⟨0, G⟩ : Tr)].length → ([(⟨0, G⟩ : Tr)].getD k default).age < 18446744073709551616 ∧ ([(⟨0, G⟩ : Tr)].getD k default).grain < 18446744073709551616 := fun k hk => by
        obtain rfl : k = 0 := by simp at hk; omega
        exact ⟨show (0 : Nat) < 18446744073709551616 by decide, lG⟩
      have fB : ∀ k, k < [(⟨0, H⟩ : Tr)].length → ([(⟨0, H⟩ : Tr)].getD k default).age < 18446744073709551616 ∧ ([(⟨0, H⟩ : Tr)].getD k default).grain < 18446744073709551616 := fun k hk => by
        obtain rfl : k = 0 := by simp at hk; omega
        exact ⟨show (0 : Nat) < 18446744073709551616 by decide, lH⟩
      have fC : ∀ k, k < [(⟨4613937818241073152, G⟩ : Tr)].length → ([(⟨4613937818241073152, G⟩ : Tr)].getD k default).age < 18446744073709551616 ∧ ([(⟨4613937818241073152, G⟩ : Tr)].getD k default).grain < 18446744073709551616 := fun k hk => by
        obtain rfl : k = 0 := by simp at hk; omega
        exact ⟨show (4613937818241073152 : Nat) < 18446744073709551616 by decide, lG⟩
      have FA := Lib.hid fA
      have FB := Lib.hid fB
      have FC := Lib.hid fC
      clear eA eB eC eD fA fB fC lG lH hm
      go_wp2_with (first
        | (go_at_call 39; first
            | (have h5 := hC5.out; refine (keep_any none 0 [] now _ _ L _ (slt_nil _ _ _) (hI.below h5) hcap (by simp) hLn hnow).mono ?_; rw [ED.out]; rintro e w6 ⟨v, rfl, hS, ⟨vd, cd, rfl, hle⟩, hB6⟩; have hC6 := Lib.hid (blw hC5.out hB6); clear hS hB6 hle h5)
            | (have h4 := hC4.out; have h4b := bal h4 (.cells #[.float .f64 4613937818241073152, .float .f64 G] 63); refine (keep_any _ 1 [⟨4613937818241073152, G⟩] now _ _ L _ (slt_new w4 #[.float .f64 4613937818241073152, .float .f64 G] 63 _ rfl FC.out 1) (hI.below h4b) hcap (by simp) hLn hnow).mono ?_; rw [EC.out]; rintro e w5 ⟨v, rfl, hS, ⟨vc, cc, rfl, hle⟩, hB5⟩; have hC5 := Lib.hid (blw h4b hB5); clear hS hB5 hle h4 h4b)
            | (have h3 := hC3.out; have h3b := bal h3 (.cells #[.float .f64 0, .float .f64 H] 63); refine (keep_any _ 1 [⟨0, H⟩] now _ _ L _ (slt_new w3 #[.float .f64 0, .float .f64 H] 63 _ rfl FB.out 1) (hI.below h3b) hcap (by simp) hLn hnow).mono ?_; rw [EB.out]; rintro e w4 ⟨v, rfl, hS, ⟨vb, cb, rfl, hle⟩, hB4⟩; have hC4 := Lib.hid (blw h3b hB4); clear hS hB4 hle h3 h3b)
            | (have h2b := bal hC2.out (.cells #[.float .f64 0, .float .f64 G] 63); refine (keep_any _ 1 [⟨0, G⟩] now _ _ L _ (slt_new _ #[.float .f64 0, .float .f64 G] 63 _ rfl FA.out 1) (hI.below h2b) hcap (by simp) hLn hnow).mono ?_; rw [EA.out]; rintro e w3 ⟨v, rfl, hS, ⟨va, cca, rfl, hle⟩, hB3⟩; have hC3 := Lib.hid (blw h2b hB3); clear hS hB3 hle h2b)))
      go_ret
      exact ⟨rfl, hC6.out⟩
end Go.Proofs.Ytddnhjpclglclaa
