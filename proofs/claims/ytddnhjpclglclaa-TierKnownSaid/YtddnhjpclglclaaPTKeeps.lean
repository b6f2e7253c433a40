/- Any policy, any now, any points: which stay, or why it cannot be told: the walk of treeringlaw19.TierKeeps. -/
import Derived.Test.YtddnhjpclglclaaRKeep
namespace Go.Proofs.Ytddnhjpclglclaa
open Go.RowKit Fl
theorem keepR_len (T : List Tr) (now : Nat) (L : List Pt) : (keepR T now L).1.length ≤ L.length := by
  unfold keepR
  split
  · split
    · exact kept_le T now L L.length
    · exact Nat.zero_le _
  · exact Nat.zero_le _
set_option maxRecDepth 100000 in
set_option maxHeartbeats 4000000 in
theorem tierKeeps_walk (s : Option Addr) (ca : Nat) (T : List Tr) (now : Nat) (s2 : Option Addr) (cap : Nat) (L : List Pt) (w : World) (hT : SlT w (.slice s T.length ca) T) (_ : T.length ≤ ca) (_ : ca ≤ 9223372036854775807) (hI : SlP w (.slice s2 L.length cap) L) (hcap : L.length ≤ cap) (hnow : now < 18446744073709551616) :
    Calls Try.prog 12 #[.slice s T.length ca, .float .f64 now, .slice s2 L.length cap] w fun e w' => e = .returned (.bool true) ∧ Below w.heap.size w w' := by
  cases h40 : decide (40 < (T.length : Int))
  case true =>
    go_enter Try.func12, Try.ntmps12
    go_wp2_with (go_at_call 38; refine (awake19 _).mono ?_; rintro e w1 ⟨rfl, hB1⟩)
    go_ret
    exact ⟨rfl, hB1⟩
  cases h100 : decide (100 < (L.length : Int))
  case true =>
    go_enter Try.func12, Try.ntmps12
    go_wp2_with (go_at_call 38; refine (awake19 _).mono ?_; rintro e w1 ⟨rfl, hB1⟩)
    go_ret
    exact ⟨rfl, hB1⟩
  have hTn : T.length < 9223372036854775807 := by have := of_decide_eq_false h40; omega
  have hLn : L.length ≤ 1000000 := by have := of_decide_eq_false h100; omega
  have hLi : (L.length : Int) ≤ 100 := by have := of_decide_eq_false h100; omega
  have hKn := keepR_len T now L
  obtain ⟨K, hK⟩ : ∃ K, (keepR T now L).1 = K := ⟨_, rfl⟩
  obtain ⟨c, hc⟩ : ∃ c, (keepR T now L).2 = c := ⟨_, rfl⟩
  obtain ⟨pb, hpb⟩ : ∃ b, polB T = b := ⟨_, rfl⟩
  rw [hK] at hKn
  have HK := Lib.hid hK
  have HC := Lib.hid hc
  have HPB := Lib.hid hpb
  clear hK hc hpb
  go_enter Try.func12, Try.ntmps12
  go_wp2_with (first
    | (go_at_call 38; refine (awake19 _).mono ?_; rintro e w1 ⟨rfl, hB1⟩)
    | (go_at_call 39; refine (keep_any _ _ T now _ _ L _ (hT.below hB1) (hI.below hB1) hcap hTn hLn hnow).mono ?_; rw [HK.out, HC.out]; rintro e w2 ⟨v, rfl, hS, ⟨va, vc, rfl, hle⟩, hB2⟩; have HS2 := Lib.hid hS; have hC2 := Lib.hid (blw hB1 hB2); clear hS hB2)
    | (go_at_call 40; refine (rkeep_any _ _ T now _ _ L _ (hT.below hC2.out) (hI.below hC2.out) hTn hLn hnow).mono ?_; rw [HK.out, HC.out]; rintro e w3 ⟨v, rfl, hS, ⟨ua, uc, rfl, hle2⟩, hB3⟩; have HS3 := Lib.hid (HS2.out.below hB3); have HU3 := Lib.hid hS; have hC3 := Lib.hid (blw hC2.out hB3); clear hS hB3)
    | (go_at_call 41; refine (rsame_any _ _ _ _ K _ HS3.out HU3.out (by omega)).mono ?_; rintro e w4 ⟨rfl, hB4⟩; have hC4 := Lib.hid (blw hC3.out hB4); clear hB4)
    | (go_at_call 42; refine (tiermay_any _ _ T _ (hT.below hC4.out) hTn).mono ?_; rintro e w5 ⟨rfl, hB5⟩; rw [HPB.out]; have hC5 := Lib.hid (blw hC4.out hB5); clear hB5)
    | (go_at_call 43; refine (rpol_any _ _ T _ (hT.below hC5.out)).mono ?_; rintro e w6 ⟨rfl, hB6⟩; rw [HPB.out]; have hC6 := Lib.hid (blw hC5.out hB6); clear hB6))
  go_loopw [11] (fun i wr => ∃ k : Nat, k ≤ L.length ∧ i = .int .i64 (k : Int) ∧ Hid (Below w.heap.size w wr)) (fun i _ => L.length - (intOf i).toNat)
  case atStart => exact ⟨0, by omega, rfl, hC6⟩
  case round =>
    obtain ⟨k, hk, rfl, HC0⟩ := hrel
    clear hC6
    by_cases hlt : k < L.length
    · obtain ⟨b, o, rfl, hr⟩ : ∃ b off, s2 = some ⟨b, off, none⟩ ∧ RdP w b off L := by
        rcases hI with ⟨a', cap', e, rfl⟩ | ⟨b, off, cap', e, hr⟩
        · simp at hlt
        · exact ⟨b, off, (Value.slice.inj e).1, hr⟩
      have wpt := (hr.fit k hlt).f
      generalize hP : L.getD k default = p at wpt
      obtain ⟨ps, pt, pm⟩ := p
      dsimp only at wpt
      obtain ⟨c0, c1, c2⟩ := pcs (hr.below HC0.out) hlt hP
      have hbl := (hr.below HC0.out).lt
      have hkl : (k : Int) < (L.length : Int) := by omega
      have hnx : IntKind.i64.wrap ((k : Int) + 1) = (k : Int) + 1 := IntWalk.i64_in _ (by omega)
      obtain ⟨ti, hti⟩ : ∃ x, ofI T (ageOf now pt) = x := ⟨_, rfl⟩
      have HTI := Lib.hid hti
      have HT2 := Lib.hid (hT.below HC0.out)
      clear hP hr hI hti
      go_wp2
      go_quiet ((first
        | (go_at_call 44; refine Calls.quiet_of_same (v := .int .i64 ti) ((tierof_any _ _ T now _ _ (HT2.out.below (below_drewN (Below.refl _ _) _)) hTn hnow wpt).mono fun e w' h => ⟨by rw [h.1, HTI.out], h.2.symm⟩))
        | (go_at_call 45; refine Calls.mono (rtier_any _ _ T now _ _ (HT2.out.below (below_drewN (Below.refl _ _) _)) hTn hnow wpt) (fun e w' h => (⟨by rw [h.1, HTI.out], _, h.2.choose_spec.trans (two_drewN _ _ _)⟩ : e = .returned (.int .i64 ti) ∧ ∃ m, w' = wr.drewN m)))))
      go_wp2
      exact ⟨⟨k + 1, by omega, by go_num, Lib.hid (below_drewN HC0.out _)⟩, by simp [intOf]; omega⟩
    · have hlt' : decide ((k : Int) < (L.length : Int)) = false := decide_eq_false (by omega)
      go_wp2
      go_ret
      exact ⟨rfl, HC0.out⟩
end Go.Proofs.Ytddnhjpclglclaa
