/- Contracts of tier.May, treeringref1.PolicyMay, tier.Of, treeringref1.Tier. -/
import Derived.Test.YtddnhjpclglclaaTr
import Derived.Test.YtddnhjpclglclaaAwake18
namespace Go.Proofs.Ytddnhjpclglclaa
open Go.RowKit Fl
set_option maxRecDepth 100000 in
set_option maxHeartbeats 4000000 in
theorem tiermay_any (a : Option Addr) (cap : Nat) (L : List Tr) (w : World) (hI : SlT w (.slice a L.length cap) L) (hn : L.length < 9223372036854775807) :
    Calls Try.prog 42 #[.slice a L.length cap] w fun e w' => e = .returned (.bool (polB L)) ∧ Below w.heap.size w w' := by
  go_enter Try.func42, Try.ntmps42
  go_wp2
  go_loopw [7] (fun i wr => ∃ k : Nat, k ≤ L.length ∧ i = .int .i64 (k : Int) ∧ (∀ j, j < k → polOk L j) ∧ Hid (Below w.heap.size w wr)) (fun i _ => L.length - (intOf i).toNat)
  case atStart => exact ⟨0, by omega, rfl, by intro j h; omega, Lib.hid (Below.refl _ _)⟩
  case round =>
    obtain ⟨k, hk, rfl, hall, HB⟩ := hrel
    by_cases hlt : k < L.length
    · obtain ⟨b, o, rfl, hr⟩ := hI.rd (by omega)
      have hrr := hr.below HB.out
      have fit := hr.fit k hlt
      have hbl := hrr.lt
      have hw := pol_ways L k hlt _ rfl fit.1 fit.2 hall
      have hlen : (k : Int) < (L.length : Int) := by omega
      have hprev : 0 < k → ∀ q, L.getD (k - 1) default = q → _ := fun h q hq => trs hrr (k := k - 1) (by omega) hq
      obtain ⟨c0, c1⟩ := trs hrr hlt rfl
      generalize hP : L.getD k default = p at c0 c1 hw
      obtain ⟨pa, pg⟩ := p
      dsimp only at c0 c1 hw
      have hnx : IntKind.i64.wrap ((k : Int) + 1) = (k : Int) + 1 := IntWalk.i64_in _ (by omega)
      have HAll := Lib.hid hall
      have HR := Lib.hid hr
      clear hall hP fit hrr hr hI
      rcases hw with ⟨hb, t1⟩ | ⟨hb, t1, t2⟩ | ⟨t1, t2, ⟨h0, hok⟩ | ⟨h0, q, hq, hw⟩⟩
      · have HF := Lib.hid hb
        clear hb hprev
        go_wp2
        go_quiet (fail)
        go_wp2
        go_ret
        exact ⟨by rw [HF.out]; rfl, below_drewN (bal HB.out _) _⟩
      · have HF := Lib.hid hb
        clear hb hprev
        go_wp2
        go_quiet (fail)
        go_wp2
        go_ret
        exact ⟨by rw [HF.out]; rfl, below_drewN (bal HB.out _) _⟩
      · have t0 : decide ((0 : Int) < (k : Int)) = false := by simp; omega
        have t0' : decide (0 < k) = false := by simp; omega
        have HO := Lib.hid hok
        clear hok hprev h0
        go_wp2
        go_quiet (fail)
        go_wp2
        exact ⟨⟨k + 1, by omega, by go_num, snoc_all HAll.out HO.out, Lib.hid (below_drewN (bal HB.out _) _)⟩, by simp [intOf]; omega⟩
      · have hd := hprev h0 q hq
        obtain ⟨qa, qg⟩ := q
        obtain ⟨d0, d1⟩ := hd
        have t0 : decide ((0 : Int) < (k : Int)) = true := by simp; omega
        have t0' : decide (0 < k) = true := by simp; omega
        have v1 : IntKind.i64.wrap ((k : Int) - 1) = (k : Int) - 1 := IntWalk.i64_in _ (by omega)
        have v2 : ((k : Int) - 1).toNat = k - 1 := by omega
        have v3 : (0 : Int) ≤ (k : Int) - 1 := by omega
        have v4 : (k : Int) - 1 < (L.length : Int) := by omega
        clear hprev hq
        dsimp only at d0 d1 hw
        rcases hw with ⟨hb, t3⟩ | ⟨hok, t3⟩
        · have HF := Lib.hid hb
          clear hb
          go_wp2
          go_quiet (fail)
          go_wp2
          go_ret
          exact ⟨by rw [HF.out]; rfl, below_drewN (bal HB.out _) _⟩
        · have HO := Lib.hid hok
          clear hok
          go_wp2
          go_quiet (fail)
          go_wp2
          exact ⟨⟨k + 1, by omega, by go_num, snoc_all HAll.out HO.out, Lib.hid (below_drewN (bal HB.out _) _)⟩, by simp [intOf]; omega⟩
    · obtain rfl : k = L.length := by omega
      have HF := Lib.hid (pol_all hall)
      clear hall
      go_wp2
      go_ret
      exact ⟨by rw [HF.out]; rfl, HB.out⟩
set_option maxRecDepth 100000 in
set_option maxHeartbeats 4000000 in
theorem rpol_any (a : Option Addr) (cap : Nat) (L : List Tr) (w : World) (hI : SlT w (.slice a L.length cap) L) :
    Calls Try.prog 43 #[.slice a L.length cap] w fun e w' => e = .returned (.bool (polB L)) ∧ Below w.heap.size w w' := by
  cases h8 : decide (8 < (L.length : Int))
  case true =>
    have HF := Lib.hid (show polB L = false from polB_false.2 fun q => by have := of_decide_eq_true h8; have := q.1; omega)
    go_enter Try.func43, Try.ntmps43
    go_wp2
    go_ret
    exact ⟨by rw [HF.out]; rfl, Below.refl _ _⟩
  have hl8 : L.length ≤ 8 := by have := of_decide_eq_false h8; omega
  go_enter Try.func43, Try.ntmps43
  go_wp2
  go_loopw [3] (fun i wr => ∃ k : Nat, k ≤ L.length ∧ i = .int .i64 (k : Int) ∧ (∀ j, j < k → polOk L j) ∧ Hid (Below w.heap.size w wr)) (fun i _ => L.length - (intOf i).toNat)
  case atStart => exact ⟨0, by omega, rfl, by intro j h; omega, Lib.hid (Below.refl _ _)⟩
  case round =>
    obtain ⟨k, hk, rfl, hall, HB⟩ := hrel
    by_cases hlt : k < L.length
    · obtain ⟨b, o, rfl, hr⟩ := hI.rd (by omega)
      have hrr := hr.below HB.out
      have fit := hr.fit k hlt
      have hbl := hrr.lt
      have hw := pol_ways L k hlt _ rfl fit.1 fit.2 hall
      have hlen : (k : Int) < (L.length : Int) := by omega
      have hprev : 0 < k → ∀ q, L.getD (k - 1) default = q → _ := fun h q hq => trs hrr (k := k - 1) (by omega) hq
      obtain ⟨c0, c1⟩ := trs hrr hlt rfl
      generalize hP : L.getD k default = p at c0 c1 hw
      obtain ⟨pa, pg⟩ := p
      dsimp only at c0 c1 hw
      have hnx : IntKind.i64.wrap ((k : Int) + 1) = (k : Int) + 1 := IntWalk.i64_in _ (by omega)
      have HAll := Lib.hid hall
      have HR := Lib.hid hr
      clear hall hP fit hrr hr hI
      rcases hw with ⟨hb, t1⟩ | ⟨hb, t1, t2⟩ | ⟨t1, t2, ⟨h0, hok⟩ | ⟨h0, q, hq, hw⟩⟩
      · have HF := Lib.hid hb
        clear hb hprev
        go_wp2
        go_quiet (fail)
        go_wp2
        go_ret
        exact ⟨by rw [HF.out]; rfl, below_drewN HB.out _⟩
      · have HF := Lib.hid hb
        clear hb hprev
        go_wp2
        go_quiet (fail)
        go_wp2
        go_ret
        exact ⟨by rw [HF.out]; rfl, below_drewN HB.out _⟩
      · have t0 : decide ((0 : Int) < (k : Int)) = false := by simp; omega
        have t0' : decide (0 < k) = false := by simp; omega
        have HO := Lib.hid hok
        clear hok hprev h0
        go_wp2
        go_quiet (fail)
        go_wp2
        exact ⟨⟨k + 1, by omega, by go_num, snoc_all HAll.out HO.out, Lib.hid (below_drewN HB.out _)⟩, by simp [intOf]; omega⟩
      · have hd := hprev h0 q hq
        obtain ⟨qa, qg⟩ := q
        obtain ⟨d0, d1⟩ := hd
        have t0 : decide ((0 : Int) < (k : Int)) = true := by simp; omega
        have t0' : decide (0 < k) = true := by simp; omega
        have v1 : IntKind.i64.wrap ((k : Int) - 1) = (k : Int) - 1 := IntWalk.i64_in _ (by omega)
        have v2 : ((k : Int) - 1).toNat = k - 1 := by omega
        have v3 : (0 : Int) ≤ (k : Int) - 1 := by omega
        have v4 : (k : Int) - 1 < (L.length : Int) := by omega
        clear hprev hq
        dsimp only at d0 d1 hw
        rcases hw with ⟨hb, t3⟩ | ⟨hok, t3⟩
        · have HF := Lib.hid hb
          clear hb
          go_wp2
          go_quiet (fail)
          go_wp2
          go_ret
          exact ⟨by rw [HF.out]; rfl, below_drewN HB.out _⟩
        · have HO := Lib.hid hok
          clear hok
          go_wp2
          go_quiet (fail)
          go_wp2
          exact ⟨⟨k + 1, by omega, by go_num, snoc_all HAll.out HO.out, Lib.hid (below_drewN HB.out _)⟩, by simp [intOf]; omega⟩
    · obtain rfl : k = L.length := by omega
      have HF := Lib.hid (show polB L = true from polB_true.2 ⟨hl8, hall⟩)
      clear hall
      go_wp2
      go_ret
      exact ⟨by rw [HF.out]; rfl, HB.out⟩
set_option maxRecDepth 100000 in
set_option maxHeartbeats 2000000 in
theorem tierof_any (a : Option Addr) (cap : Nat) (L : List Tr) (now st : Nat) (w : World) (hI : SlT w (.slice a L.length cap) L) (hn : L.length < 9223372036854775807) (h1 : now < 18446744073709551616) (h2 : st < 18446744073709551616) :
    Calls Try.prog 44 #[.slice a L.length cap, .float .f64 now, .float .f64 st] w fun e w' => e = .returned (.int .i64 (ofI L (ageOf now st))) ∧ w = w' := by
  have hi0 : IntKind.i64.wrap ((L.length : Int) - 1) = (L.length : Int) - 1 := IntWalk.i64_in _ (by omega)
  go_enter Try.func44, Try.ntmps44
  go_wp2_with (go_at_call 26; refine (of_any _ _ (by assumption) (by assumption) _).mono ?_; rintro e w' ⟨rfl, rfl⟩)
  go_loopw [8] (fun i wr => ∃ k : Nat, k ≤ L.length ∧ i = .int .i64 ((k : Int) - 1) ∧ (∀ j, k ≤ j → j < L.length → leB (L.getD j default).age (ageOf now st) = false) ∧ wr = w) (fun i _ => (intOf i + 1).toNat)
  case atStart => exact ⟨L.length, by omega, rfl, by intro j h1 h2; omega, rfl⟩
  case round =>
    obtain ⟨k, hk, rfl, hall, rfl⟩ := hrel
    cases k with
    | zero =>
      have HF := Lib.hid (ofI_eq (.inl ⟨rfl, fun j hj => hall j (by omega) hj⟩) : ofI L (ageOf now st) = -1)
      clear hall
      have hi : (((0 : Nat) : Int) - 1) = -1 := rfl
      rw [hi]
      go_wp2
      go_ret
      exact ⟨by rw [HF.out]; rfl, rfl⟩
    | succ m =>
      obtain ⟨b, o, rfl, hr⟩ := hI.rd (by omega)
      have hml : m < L.length := by omega
      obtain ⟨c0, c1⟩ := trs hr hml rfl
      have hi : (((m + 1 : Nat) : Int) - 1) = (m : Int) := by omega
      have hi1 : IntKind.i64.wrap ((m : Int) - 1) = (m : Int) - 1 := IntWalk.i64_in _ (by omega)
      have hbl := hr.lt
      rw [hi]
      clear hi hr hI
      cases hx : leB (L.getD m default).age (ageOf now st)
      · have hall' : Hid (∀ j, m ≤ j → j < L.length → leB (L.getD j default).age (ageOf now st) = false) := Lib.hid fun j h1 h2 => by
          by_cases e : j = m
          · subst e; exact hx
          · exact hall j (by omega) h2
        clear hall
        generalize L.getD m default = p at c0 c1 hx
        obtain ⟨pa, pg⟩ := p
        unfold leB at hx
        dsimp only at c0 c1 hx
        go_wp2
        exact ⟨⟨m, by omega, rfl, hall'.out, trivial⟩, by simp [intOf]⟩
      · have HF := Lib.hid (ofI_eq (.inr ⟨m, hml, rfl, hx, fun j h1 h2 => hall j (by omega) h2⟩) : ofI L (ageOf now st) = m)
        clear hall
        generalize L.getD m default = p at c0 c1 hx
        obtain ⟨pa, pg⟩ := p
        unfold leB at hx
        dsimp only at c0 c1 hx
        go_wp2
        go_ret
        exact ⟨by rw [HF.out]; rfl, rfl⟩
/-- The last among the first k. -/
def LastTo (L : List Tr) (old k : Nat) (r : Int) : Prop := (r = -1 ∧ ∀ j, j < k → leB (L.getD j default).age old = false) ∨ ∃ m : Nat, m < k ∧ r = m ∧ leB (L.getD m default).age old = true ∧ ∀ j, m < j → j < k → leB (L.getD j default).age old = false
theorem LastTo.no {L : List Tr} {old k : Nat} {r : Int} (h : LastTo L old k r) (hx : leB (L.getD k default).age old = false) : LastTo L old (k + 1) r := by
  rcases h with ⟨rfl, h⟩ | ⟨m, hm, rfl, h1, h2⟩
  · exact .inl ⟨rfl, fun j hj => by
      by_cases e : j = k
      · subst e; exact hx
      · exact h j (by omega)⟩
  · exact .inr ⟨m, by omega, rfl, h1, fun j h3 h4 => by
      by_cases e : j = k
      · subst e; exact hx
      · exact h2 j h3 (by omega)⟩
theorem LastTo.yes {L : List Tr} {old k : Nat} (hx : leB (L.getD k default).age old = true) : LastTo L old (k + 1) k := .inr ⟨k, by omega, rfl, hx, fun j h1 h2 => by omega⟩
set_option maxRecDepth 100000 in
set_option maxHeartbeats 2000000 in
theorem rtier_any (a : Option Addr) (cap : Nat) (L : List Tr) (now st : Nat) (w : World) (hI : SlT w (.slice a L.length cap) L) (hn : L.length < 9223372036854775807) (h1 : now < 18446744073709551616) (h2 : st < 18446744073709551616) :
    Calls Try.prog 45 #[.slice a L.length cap, .float .f64 now, .float .f64 st] w fun e w' => e = .returned (.int .i64 (ofI L (ageOf now st))) ∧ ∃ n, w' = w.drewN n := by
  go_enter Try.func45, Try.ntmps45
  go_wp2
  go_loopw [7, 8] (fun r i wr => ∃ (k : Nat) (q : Int) (n : Nat), k ≤ L.length ∧ i = .int .i64 (k : Int) ∧ r = .int .i64 q ∧ LastTo L (ageOf now st) k q ∧ wr = w.drewN n) (fun _ i _ => L.length - (intOf i).toNat)
  case atStart => exact ⟨0, -1, 0, by omega, rfl, rfl, .inl ⟨rfl, fun j hj => by omega⟩, rfl⟩
  case round =>
    obtain ⟨k, q, n, hk, rfl, rfl, hq, hwr⟩ := hrel
    have HW := Lib.hid hwr
    have hwh : wr.heap = w.heap := by rw [hwr]; rfl
    have hwc : ∀ p, wr.cell? p = w.cell? p := fun p => by unfold World.cell?; rw [hwh]
    clear hwr
    by_cases hlt : k < L.length
    · obtain ⟨b, o, rfl, hr⟩ := hI.rd (by omega)
      obtain ⟨c0, c1⟩ := trs hr hlt rfl
      rw [← hwc] at c0 c1
      have hlen : (k : Int) < (L.length : Int) := by omega
      have hnx : IntKind.i64.wrap ((k : Int) + 1) = (k : Int) + 1 := IntWalk.i64_in _ (by omega)
      have hbl : b < wr.heap.size := by rw [hwh]; exact hr.lt
      clear hr hI hwc hwh
      cases hx : leB (L.getD k default).age (ageOf now st)
      · have HQ := Lib.hid (hq.no hx)
        clear hq
        generalize L.getD k default = p at c0 c1 hx
        obtain ⟨pa, pg⟩ := p
        unfold leB at hx
        dsimp only at c0 c1 hx
        go_wp2
        go_quiet ((go_at_call 47; refine Calls.quiet_of_same ((rage_any _ _ h1 h2 _).mono fun _ _ h => ⟨h.1, h.2.symm⟩)))
        go_wp2
        exact ⟨⟨k + 1, q, _, by omega, by go_num, rfl, HQ.out, by rw [HW.out]; exact two_drewN _ _ _⟩, by simp [intOf]; omega⟩
      · have HQ := Lib.hid (LastTo.yes (L := L) hx)
        clear hq
        generalize L.getD k default = p at c0 c1 hx
        obtain ⟨pa, pg⟩ := p
        unfold leB at hx
        dsimp only at c0 c1 hx
        go_wp2
        go_quiet ((go_at_call 47; refine Calls.quiet_of_same ((rage_any _ _ h1 h2 _).mono fun _ _ h => ⟨h.1, h.2.symm⟩)))
        go_wp2
        exact ⟨⟨k + 1, k, _, by omega, by go_num, rfl, HQ.out, by rw [HW.out]; exact two_drewN _ _ _⟩, by simp [intOf]; omega⟩
    · obtain rfl : k = L.length := by omega
      have HF := Lib.hid (ofI_eq hq)
      clear hq
      go_wp2
      go_ret
      exact ⟨by rw [HF.out]; rfl, n, HW.out⟩
end Go.Proofs.Ytddnhjpclglclaa
