/- Kept twice at one time it is as kept once; the newest, and all marks, stay; nothing comes back: the walk of treeringlaw19.TierAgain. -/
import Derived.Test.YtddnhjpclglclaaAgainL
import Derived.Test.YtddnhjpclglclaaPTKeeps
namespace Go.Proofs.Ytddnhjpclglclaa
open Go.RowKit Fl
set_option maxRecDepth 100000 in
set_option maxHeartbeats 4000000 in
theorem tierAgain_walk (s : Option Addr) (ca : Nat) (T : List Tr) (now : Nat) (s2 : Option Addr) (cap : Nat) (L : List Pt) (w : World) (hT : SlT w (.slice s T.length ca) T) (_ : T.length ≤ ca) (_ : ca ≤ 9223372036854775807) (hI : SlP w (.slice s2 L.length cap) L) (hcap : L.length ≤ cap) (hnow : now < 18446744073709551616) :
    Calls Try.prog 13 #[.slice s T.length ca, .float .f64 now, .slice s2 L.length cap] w fun e w' => e = .returned (.bool true) ∧ Below w.heap.size w w' := by
  cases h40 : decide (40 < (T.length : Int))
  case true =>
    go_enter Try.func13, Try.ntmps13
    go_wp2_with (go_at_call 38; refine (awake19 _).mono ?_; rintro e w1 ⟨rfl, hB1⟩)
    go_ret
    exact ⟨rfl, hB1⟩
  cases h100 : decide (100 < (L.length : Int))
  case true =>
    go_enter Try.func13, Try.ntmps13
    go_wp2_with (go_at_call 38; refine (awake19 _).mono ?_; rintro e w1 ⟨rfl, hB1⟩)
    go_ret
    exact ⟨rfl, hB1⟩
  have hTn : T.length < 9223372036854775807 := by have := of_decide_eq_false h40; omega
  have hLn : L.length ≤ 1000000 := by have := of_decide_eq_false h100; omega
  have hLi : (L.length : Int) ≤ 100 := by have := of_decide_eq_false h100; omega
  have hl1 : IntKind.i64.wrap ((L.length : Int) - 1) = (L.length : Int) - 1 := IntWalk.i64_in _ (by omega)
  by_cases hc0 : (keepR T now L).2 = 0
  case neg =>
    obtain ⟨hk, hc⟩ := keepR_fail hc0
    clear hc0
    rcases hc with hc | hc
    all_goals
      have HK := Lib.hid hk
      have HC := Lib.hid hc
      clear hk hc
      go_enter Try.func13, Try.ntmps13
      go_wp2_with (first
        | (go_at_call 38; refine (awake19 _).mono ?_; rintro e w1 ⟨rfl, hB1⟩)
        | (go_at_call 39; refine (keep_any _ _ T now _ _ L _ (hT.below hB1) (hI.below hB1) hcap hTn hLn hnow).mono ?_; rw [HK.out, HC.out]; rintro e w2 ⟨v, rfl, hS, ⟨va, vc, rfl, hle⟩, hB2⟩))
      go_ret
      exact ⟨rfl, blw hB1 hB2⟩
  have hKn := keepR_len T now L
  obtain ⟨K, hK⟩ : ∃ K, (keepR T now L).1 = K := ⟨_, rfl⟩
  have hKR : keepR T now L = (K, 0) := Prod.ext hK hc0
  obtain ⟨hA, hKk, hML, hMK⟩ := keepR_again hKR
  rw [hK] at hKn
  have HKR := Lib.hid hKR
  have HA := Lib.hid hA
  have HKk := Lib.hid hKk
  have HML := Lib.hid hML
  have HMK := Lib.hid hMK
  clear hKR hA hKk hML hMK hK hc0
  go_enter Try.func13, Try.ntmps13
  go_wp2_with (first
    | (go_at_call 38; refine (awake19 _).mono ?_; rintro e w1 ⟨rfl, hB1⟩)
    | (go_at_call 39; first
        | (have h2 := hC2.out; refine (keep_any _ _ T now _ _ K _ (hT.below hC2.out) HS2.out hle hTn (by omega) hnow).mono ?_; rw [HA.out]; rintro e w3 ⟨v, rfl, hS, ⟨ua, uc, rfl, hle2⟩, hB3⟩; have HU3 := Lib.hid hS; have HS3 := Lib.hid (HS2.out.below hB3); have hC3 := Lib.hid (blw hC2.out hB3); clear hS hB3 h2 hle2)
        | (refine (keep_any _ _ T now _ _ L _ (hT.below hB1) (hI.below hB1) hcap hTn hLn hnow).mono ?_; rw [HKR.out]; rintro e w2 ⟨v, rfl, hS, ⟨va, vc, rfl, hle⟩, hB2⟩; have HS2 := Lib.hid hS; have hC2 := Lib.hid (blw hB1 hB2); clear hS hB2))
    | (go_at_call 41; refine (rsame_any _ _ _ _ K _ HS3.out HU3.out (by omega)).mono ?_; rintro e w4 ⟨rfl, hB4⟩; have HS4 := Lib.hid (HS3.out.below hB4); have hC4 := Lib.hid (blw hC3.out hB4); clear hB4))
  go_loopw [11, 12] (fun at_ i wr => ∃ k : Nat, k ≤ L.length ∧ i = .int .i64 (k : Int) ∧ at_ = .int .i64 ((kept T now L k).length : Int) ∧ Hid (Below w.heap.size w wr) ∧ Hid (SlP wr (.slice va K.length vc) K)) (fun _ i _ => L.length - (intOf i).toNat)
  case atStart => exact ⟨0, by omega, rfl, rfl, hC4, HS4⟩
  case round =>
    obtain ⟨k, hk, rfl, rfl, HC0, HSK⟩ := hrel
    clear hC4 HS4
    by_cases hlt : k < L.length
    · obtain ⟨b, o, rfl, hr⟩ : ∃ b off, s2 = some ⟨b, off, none⟩ ∧ RdP w b off L := by
        rcases hI with ⟨a', cap', e, rfl⟩ | ⟨b, off, cap', e, hr⟩
        · simp at hlt
        · exact ⟨b, off, (Value.slice.inj e).1, hr⟩
      obtain ⟨hat, hways⟩ := again_ways (T := T) (now := now) HML.out hlt
      rw [← HKk.out] at hat hways
      obtain ⟨kb, ko, rfl, hkr⟩ : ∃ b off, va = some ⟨b, off, none⟩ ∧ RdP wr b off K := by
        rcases HSK.out with ⟨a', cap', e, h0⟩ | ⟨b, off, cap', e, hr⟩
        · rw [h0] at hat; simp at hat
        · exact ⟨b, off, (Value.slice.inj e).1, hr⟩
      have hrefl := seq_refl (mayB_true.2 HML.out) hlt
      generalize hA' : (kept T now L k).length = at' at hat hways
      generalize hP : L.getD k default = p at hrefl hways
      obtain ⟨ps, pt, pm⟩ := p
      dsimp only at hrefl
      obtain ⟨c0, c1, c2⟩ := pcs (hr.below HC0.out) hlt hP
      have hbl := (hr.below HC0.out).lt
      have hkl : (k : Int) < (L.length : Int) := by omega
      have hnx : IntKind.i64.wrap ((k : Int) + 1) = (k : Int) + 1 := IntWalk.i64_in _ (by omega)
      have hal : (at' : Int) < (K.length : Int) := by omega
      have hax : IntKind.i64.wrap ((at' : Int) + 1) = (at' : Int) + 1 := IntWalk.i64_in _ (by omega)
      have hkbl := hkr.lt
      clear hP hr hI
      rcases hways with ⟨_, hq, hnext⟩ | ⟨hq, hmk, hne, hnext⟩
      · obtain ⟨d0, d1, d2⟩ := pcs hkr hat hq
        have HN := Lib.hid hnext
        clear hq hnext hA' hkr
        go_wp2
        go_quiet (fail)
        go_wp2
        exact ⟨⟨k + 1, by omega, by go_num, by rw [HN.out]; go_num, Lib.hid (below_drewN HC0.out _), Lib.hid (HSK.out.below (below_drewN (Below.refl _ _) _))⟩, by simp [intOf]; omega⟩
      · generalize hQ : K.getD at' default = q at hq
        obtain ⟨qs, qt, qm⟩ := q
        dsimp only at hq hmk
        obtain ⟨d0, d1, d2⟩ := pcs hkr hat hQ
        have e1 : (qs == ps) = false := by simpa using hq
        have e2 : ((k : Int) == (L.length : Int) - 1) = false := by simp; omega
        have HN := Lib.hid hnext
        clear hq hnext hA' hQ hkr hne
        go_wp2
        go_quiet (fail)
        go_wp2
        exact ⟨⟨k + 1, by omega, by go_num, by rw [HN.out], Lib.hid (below_drewN HC0.out _), Lib.hid (HSK.out.below (below_drewN (Below.refl _ _) _))⟩, by simp [intOf]; omega⟩
    · have hlt' : decide ((k : Int) < (L.length : Int)) = false := decide_eq_false (by omega)
      obtain rfl : k = L.length := by omega
      rw [← HKk.out]
      go_wp2
      go_ret
      exact ⟨by first | rfl | simp, HC0.out⟩
end Go.Proofs.Ytddnhjpclglclaa
