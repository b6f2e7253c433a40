/- An elder point is in no earlier tier; the tier of a point is the last that has begun: the walk of treeringlaw19.TierOf. -/
import Derived.Test.YtddnhjpclglclaaLateL
import Derived.Deep.CutRange
namespace Go.Proofs.Ytddnhjpclglclaa
open Go.ChangeShapes Go.WideShapes Go.ChangeAt Go.RowKit Go.Deep Fl
set_option linter.unusedVariables false
theorem open_twof {H : Type} {enc : TypeId × Value → H} {w : World} {base : Nat} {spare : Nat → Bool} {held : Bool} {r : Reach} {b0 : Nat} {v : Value} {d : DataW H} {p : List MemPlace} (hv : Value.okWide Try.prog w r b0 65 v) (h : DataW.Trod enc Try.prog w base spare held 65 v d p) :
    ∃ a b, v = .agg #[.float .f64 a, .float .f64 b] ∧ a < 18446744073709551616 ∧ b < 18446744073709551616 := by
  simp only [Value.okWide, Try.underlying65] at hv
  obtain ⟨cs, rfl, hs, _⟩ := hv
  have k1 : Try.prog.cellsOf 23 = 1 := by kernel_rfl
  have k2 : Try.prog.cellsOf 65 = 2 := by kernel_rfl
  obtain ⟨fuel, hf⟩ := h
  obtain ⟨xs, m, _, ex, _, hl, hel⟩ := DataW.trod_array Try.underlying65 hf
  rw [k2] at hs
  obtain ⟨l⟩ := cs
  match l, hs with
  | [a, b], _ =>
    have h0 := hel 0 (by omega)
    have h1 := hel 1 (by omega)
    match xs, hl with
    | [x0, x1], _ =>
      rw [k1] at h0 h1
      obtain ⟨z0, a0, w0⟩ := trod_float Try.underlying23 h0
      obtain ⟨z1, a1, w1⟩ := trod_float Try.underlying23 h1
      simp [Value.cells] at a0 a1
      subst a0 a1
      exact ⟨z0, z1, rfl, wf_f64 w0, wf_f64 w1⟩
/-- The first test's ways. -/
theorem tof_ways {L : List Tr} (hp : PolP L) {now a b : Nat} :
    tmay now = false ∨ tmay now = true ∧ (tmay a = false ∨ tmay a = true ∧ (tmay b = false ∨ tmay b = true ∧
      ((FloatKind.f64.format.order a b == some .lt || FloatKind.f64.format.order a b == some .eq) = false ∨ (FloatKind.f64.format.order a b == some .lt || FloatKind.f64.format.order a b == some .eq) = true ∧ decide (ofI L (ageOf now a) < ofI L (ageOf now b)) = false))) := by
  cases h1 : tmay now
  · exact .inl rfl
  cases h2 : tmay a
  · exact .inr ⟨rfl, .inl rfl⟩
  cases h3 : tmay b
  · exact .inr ⟨rfl, .inr ⟨rfl, .inl rfl⟩⟩
  refine .inr ⟨rfl, .inr ⟨rfl, .inr ⟨rfl, ?_⟩⟩⟩
  have t1 := tmay_iff.1 h1
  have t2 := tmay_iff.1 h2
  have t3 := tmay_iff.1 h3
  rw [f_leq t2.nn t3.nn]
  by_cases h : key a ≤ key b
  · refine .inr ⟨decide_eq_true h, decide_eq_false ?_⟩
    have n1 := ageOf_nn now a
    have n2 := ageOf_nn now b
    have := of_mono hp n1.1 n2.1 (by rw [n1.2, n2.2]; exact ageOf_anti t1 t2 h)
    omega
  · exact .inl (decide_eq_false h)

set_option maxRecDepth 100000 in
set_option maxHeartbeats 8000000 in
theorem tof1 (s : Option Addr) (cap : Nat) (L : List Tr) (now a b o0 : Nat) (tb : Int) (w : World) (hT : SlT w (.slice s L.length cap) L) (hTl : L.length < 9223372036854775807) (hnow : now < 18446744073709551616) (ha : a < 18446744073709551616) (hb : b < 18446744073709551616) (HM : Hid (polB L = true)) (HTA : Hid (ofI L (ageOf now a) = (-1))) (HTB : Hid (ofI L (ageOf now b) = tb)) (HO : Hid (ageOf now a = o0))
    (W1 : tmay now = false ∨ tmay now = true ∧ (tmay a = false ∨ tmay a = true ∧ (tmay b = false ∨ tmay b = true ∧ ((FloatKind.f64.format.order a b == some .lt || FloatKind.f64.format.order a b == some .eq) = false ∨ (FloatKind.f64.format.order a b == some .lt || FloatKind.f64.format.order a b == some .eq) = true ∧ decide ((-1) < tb) = false)))) (h0 : 0 < L.length) (ga gg : Nat) (hg : L.getD 0 default = ⟨ga, gg⟩) (W4 : (FloatKind.f64.format.order ga o0 == some .lt || FloatKind.f64.format.order ga o0 == some .eq) = false) :
    Calls Try.prog 15 #[.slice s L.length cap, .float .f64 now, .agg #[.float .f64 a, .float .f64 b]] w fun e w' => e = .returned (.bool true) ∧ Below w.heap.size w w' := by
  obtain ⟨tb', tof, rfl, htr⟩ := hT.rd h0
  have v1 : decide ((L.length : Int) ≤ -1) = false := decide_eq_false (by omega)
  have v0 : (0 : Int) < (L.length : Int) := by omega
  go_enter Try.func15, Try.ntmps15
  go_wp2_with (first
    | (go_at_call 38; refine (awake19 _).mono ?_; rintro e w1 ⟨rfl, hB1⟩; have hN1 := Lib.hid (keepB (World.alloc_heap_new w (.cells #[.float .f64 a, .float .f64 b] 65)) hB1); have hC1 := Lib.hid (blw (bal (Below.refl _ w) (.cells #[.float .f64 a, .float .f64 b] 65)) hB1))
    | (go_at_call 43; refine (rpol_any _ _ L _ (hT.below hC1.out)).mono ?_; rintro e w2 ⟨rfl, hB2⟩; rw [HM.out]; have hN2 := Lib.hid (keepB hN1.out hB2); have hC2 := Lib.hid (blw hC1.out hB2); clear hB2 hB1))
  obtain ⟨s0, s1⟩ := two_cells hN2.out
  have hsl : w.heap.size < w2.heap.size := (Array.getElem?_eq_some_iff.1 hN2.out).1
  go_quiet ((first
    | (go_at_call 44; with_reducible show Calls _ _ #[_, _, Value.float FloatKind.f64 a] _ _; refine Calls.quiet_of_same (v := .int .i64 (-1)) ((tierof_any _ _ L now a _ ((hT.below hC2.out).below (below_drewN (Below.refl _ _) _)) hTl hnow ha).mono fun e w' h => ⟨by rw [h.1, HTA.out], h.2.symm⟩))
    | (go_at_call 44; refine Calls.quiet_of_same (v := .int .i64 tb) ((tierof_any _ _ L now b _ ((hT.below hC2.out).below (below_drewN (Below.refl _ _) _)) hTl hnow hb).mono fun e w' h => ⟨by rw [h.1, HTB.out], h.2.symm⟩))))
  generalize hwq : w2.drewN nq = wq
  have hwh : wq.heap = w2.heap := hwq ▸ rfl
  have hCq := Lib.hid (show Below w.heap.size w wq from hwq ▸ below_drewN hC2.out nq)
  clear s0 s1 hsl
  obtain ⟨s0, s1⟩ := two_cells (heap_eq2 hwh hN2.out)
  have hsl : w.heap.size < wq.heap.size := (Array.getElem?_eq_some_iff.1 (heap_eq2 hwh hN2.out)).1
  clear hwq hwh hN2 hC2 hN1 hC1
  obtain ⟨t0, t1⟩ := trs (htr.below hCq.out) h0 hg
  have htl := (htr.below hCq.out).lt
  simp only [Nat.zero_mul, Nat.add_zero] at t0 t1
  clear hg
  go_upto_region 6 with fail
  go_cut [47] from 24 to 47 (fun c wx => c = .bool false ∧ wx = wq)
  case first =>
    clear HM
    rcases W1 with u1 | ⟨u1, u2 | ⟨u2, u3 | ⟨u3, u4 | ⟨u4, u5⟩⟩⟩⟩
    all_goals
      go_wp2_with (first
        | (go_at_call 46; with_reducible show Calls _ _ #[Value.float FloatKind.f64 now] _ _; refine (rmay_any _ hnow _).mono ?_; rintro e w' ⟨rfl, rfl⟩; rw [u1])
        | (go_at_call 46; with_reducible show Calls _ _ #[Value.float FloatKind.f64 a] _ _; refine (rmay_any a ha _).mono ?_; rintro e w' ⟨rfl, rfl⟩; rw [u2])
        | (go_at_call 46; refine (rmay_any b hb _).mono ?_; rintro e w' ⟨rfl, rfl⟩; rw [u3]))
      go_meet
      exact ⟨rfl, rfl⟩
  case rest =>
    obtain ⟨rfl, rfl⟩ := hcut
    clear W1
    go_wp2
    go_quiet ((go_at_call 47; refine Calls.quiet_of_same (v := .float .f64 o0) ((rage_any now a hnow ha _).mono fun e w' h => ⟨by rw [h.1, HO.out], h.2.symm⟩)))
    go_wp2
    go_ret
    exact ⟨rfl, below_drewN hCq.out _⟩
set_option maxRecDepth 100000 in
set_option maxHeartbeats 8000000 in
theorem tof2 (s : Option Addr) (cap : Nat) (L : List Tr) (now a b o0 : Nat) (tb : Int) (w : World) (hT : SlT w (.slice s L.length cap) L) (hTl : L.length < 9223372036854775807) (hnow : now < 18446744073709551616) (ha : a < 18446744073709551616) (hb : b < 18446744073709551616) (HM : Hid (polB L = true)) (HTA : Hid (ofI L (ageOf now a) = (-1))) (HTB : Hid (ofI L (ageOf now b) = tb)) (HO : Hid (ageOf now a = o0))
    (W1 : tmay now = false ∨ tmay now = true ∧ (tmay a = false ∨ tmay a = true ∧ (tmay b = false ∨ tmay b = true ∧ ((FloatKind.f64.format.order a b == some .lt || FloatKind.f64.format.order a b == some .eq) = false ∨ (FloatKind.f64.format.order a b == some .lt || FloatKind.f64.format.order a b == some .eq) = true ∧ decide ((-1) < tb) = false)))) (hL0 : L.length = 0) :
    Calls Try.prog 15 #[.slice s L.length cap, .float .f64 now, .agg #[.float .f64 a, .float .f64 b]] w fun e w' => e = .returned (.bool true) ∧ Below w.heap.size w w' := by
  have v0 : decide ((0 : Int) < (L.length : Int)) = false := decide_eq_false (by omega)
  have v1 : decide ((L.length : Int) ≤ -1) = false := decide_eq_false (by omega)
  have v0n : decide (0 < L.length) = false := decide_eq_false (by omega)
  clear hL0
  go_enter Try.func15, Try.ntmps15
  go_wp2_with (first
    | (go_at_call 38; refine (awake19 _).mono ?_; rintro e w1 ⟨rfl, hB1⟩; have hN1 := Lib.hid (keepB (World.alloc_heap_new w (.cells #[.float .f64 a, .float .f64 b] 65)) hB1); have hC1 := Lib.hid (blw (bal (Below.refl _ w) (.cells #[.float .f64 a, .float .f64 b] 65)) hB1))
    | (go_at_call 43; refine (rpol_any _ _ L _ (hT.below hC1.out)).mono ?_; rintro e w2 ⟨rfl, hB2⟩; rw [HM.out]; have hN2 := Lib.hid (keepB hN1.out hB2); have hC2 := Lib.hid (blw hC1.out hB2); clear hB2 hB1))
  obtain ⟨s0, s1⟩ := two_cells hN2.out
  have hsl : w.heap.size < w2.heap.size := (Array.getElem?_eq_some_iff.1 hN2.out).1
  go_quiet ((first
    | (go_at_call 44; with_reducible show Calls _ _ #[_, _, Value.float FloatKind.f64 a] _ _; refine Calls.quiet_of_same (v := .int .i64 (-1)) ((tierof_any _ _ L now a _ ((hT.below hC2.out).below (below_drewN (Below.refl _ _) _)) hTl hnow ha).mono fun e w' h => ⟨by rw [h.1, HTA.out], h.2.symm⟩))
    | (go_at_call 44; refine Calls.quiet_of_same (v := .int .i64 tb) ((tierof_any _ _ L now b _ ((hT.below hC2.out).below (below_drewN (Below.refl _ _) _)) hTl hnow hb).mono fun e w' h => ⟨by rw [h.1, HTB.out], h.2.symm⟩))))
  generalize hwq : w2.drewN nq = wq
  have hwh : wq.heap = w2.heap := hwq ▸ rfl
  have hCq := Lib.hid (show Below w.heap.size w wq from hwq ▸ below_drewN hC2.out nq)
  clear s0 s1 hsl
  obtain ⟨s0, s1⟩ := two_cells (heap_eq2 hwh hN2.out)
  have hsl : w.heap.size < wq.heap.size := (Array.getElem?_eq_some_iff.1 (heap_eq2 hwh hN2.out)).1
  clear hwq hwh hN2 hC2 hN1 hC1
  skip
  go_upto_region 6 with fail
  go_cut [47] from 24 to 47 (fun c wx => c = .bool false ∧ wx = wq)
  case first =>
    clear HM
    rcases W1 with u1 | ⟨u1, u2 | ⟨u2, u3 | ⟨u3, u4 | ⟨u4, u5⟩⟩⟩⟩
    all_goals
      go_wp2_with (first
        | (go_at_call 46; with_reducible show Calls _ _ #[Value.float FloatKind.f64 now] _ _; refine (rmay_any _ hnow _).mono ?_; rintro e w' ⟨rfl, rfl⟩; rw [u1])
        | (go_at_call 46; with_reducible show Calls _ _ #[Value.float FloatKind.f64 a] _ _; refine (rmay_any a ha _).mono ?_; rintro e w' ⟨rfl, rfl⟩; rw [u2])
        | (go_at_call 46; refine (rmay_any b hb _).mono ?_; rintro e w' ⟨rfl, rfl⟩; rw [u3]))
      go_meet
      exact ⟨rfl, rfl⟩
  case rest =>
    obtain ⟨rfl, rfl⟩ := hcut
    clear W1
    go_wp2
    go_quiet ((go_at_call 47; refine Calls.quiet_of_same (v := .float .f64 o0) ((rage_any now a hnow ha _).mono fun e w' h => ⟨by rw [h.1, HO.out], h.2.symm⟩)))
    go_wp2
    go_ret
    exact ⟨rfl, below_drewN hCq.out _⟩
set_option maxRecDepth 100000 in
set_option maxHeartbeats 8000000 in
theorem tof3 (s : Option Addr) (cap : Nat) (L : List Tr) (now a b o0 : Nat) (tb : Int) (k : Nat) (hk : k < L.length) (w : World) (hT : SlT w (.slice s L.length cap) L) (hTl : L.length < 9223372036854775807) (hnow : now < 18446744073709551616) (ha : a < 18446744073709551616) (hb : b < 18446744073709551616) (HM : Hid (polB L = true)) (HTA : Hid (ofI L (ageOf now a) = (k : Int))) (HTB : Hid (ofI L (ageOf now b) = tb)) (HO : Hid (ageOf now a = o0))
    (W1 : tmay now = false ∨ tmay now = true ∧ (tmay a = false ∨ tmay a = true ∧ (tmay b = false ∨ tmay b = true ∧ ((FloatKind.f64.format.order a b == some .lt || FloatKind.f64.format.order a b == some .eq) = false ∨ (FloatKind.f64.format.order a b == some .lt || FloatKind.f64.format.order a b == some .eq) = true ∧ decide ((k : Int) < tb) = false)))) (ga gg : Nat) (hg : L.getD k default = ⟨ga, gg⟩) (W2 : (FloatKind.f64.format.order ga o0 == some .lt || FloatKind.f64.format.order ga o0 == some .eq) = true) (h1 : k + 1 < L.length) (na ng : Nat) (hg2 : L.getD (k + 1) default = ⟨na, ng⟩) (W4 : (FloatKind.f64.format.order na o0 == some .lt || FloatKind.f64.format.order na o0 == some .eq) = false) :
    Calls Try.prog 15 #[.slice s L.length cap, .float .f64 now, .agg #[.float .f64 a, .float .f64 b]] w fun e w' => e = .returned (.bool true) ∧ Below w.heap.size w w' := by
  obtain ⟨tb', tof, rfl, htr⟩ := hT.rd (by omega)
  have v1 : decide ((L.length : Int) ≤ (k : Int)) = false := decide_eq_false (by omega)
  have v1n : decide (L.length ≤ k) = false := decide_eq_false (by omega)
  have v2 : (k : Int) < (L.length : Int) := by omega
  have v3 : IntKind.i64.wrap ((k : Int) + 1) = (k : Int) + 1 := IntWalk.i64_in _ (by omega)
  have v4 : ((k : Int) + 1).toNat = k + 1 := by omega
  have v5 : decide ((k : Int) < -1) = false := decide_eq_false (by omega)
  have v6 : (k : Int) + 1 < (L.length : Int) := by omega
  go_enter Try.func15, Try.ntmps15
  go_wp2_with (first
    | (go_at_call 38; refine (awake19 _).mono ?_; rintro e w1 ⟨rfl, hB1⟩; have hN1 := Lib.hid (keepB (World.alloc_heap_new w (.cells #[.float .f64 a, .float .f64 b] 65)) hB1); have hC1 := Lib.hid (blw (bal (Below.refl _ w) (.cells #[.float .f64 a, .float .f64 b] 65)) hB1))
    | (go_at_call 43; refine (rpol_any _ _ L _ (hT.below hC1.out)).mono ?_; rintro e w2 ⟨rfl, hB2⟩; rw [HM.out]; have hN2 := Lib.hid (keepB hN1.out hB2); have hC2 := Lib.hid (blw hC1.out hB2); clear hB2 hB1))
  obtain ⟨s0, s1⟩ := two_cells hN2.out
  have hsl : w.heap.size < w2.heap.size := (Array.getElem?_eq_some_iff.1 hN2.out).1
  go_quiet ((first
    | (go_at_call 44; with_reducible show Calls _ _ #[_, _, Value.float FloatKind.f64 a] _ _; refine Calls.quiet_of_same (v := .int .i64 k) ((tierof_any _ _ L now a _ ((hT.below hC2.out).below (below_drewN (Below.refl _ _) _)) hTl hnow ha).mono fun e w' h => ⟨by rw [h.1, HTA.out], h.2.symm⟩))
    | (go_at_call 44; refine Calls.quiet_of_same (v := .int .i64 tb) ((tierof_any _ _ L now b _ ((hT.below hC2.out).below (below_drewN (Below.refl _ _) _)) hTl hnow hb).mono fun e w' h => ⟨by rw [h.1, HTB.out], h.2.symm⟩))))
  generalize hwq : w2.drewN nq = wq
  have hwh : wq.heap = w2.heap := hwq ▸ rfl
  have hCq := Lib.hid (show Below w.heap.size w wq from hwq ▸ below_drewN hC2.out nq)
  clear s0 s1 hsl
  obtain ⟨s0, s1⟩ := two_cells (heap_eq2 hwh hN2.out)
  have hsl : w.heap.size < wq.heap.size := (Array.getElem?_eq_some_iff.1 (heap_eq2 hwh hN2.out)).1
  clear hwq hwh hN2 hC2 hN1 hC1
  obtain ⟨t0, t1⟩ := trs (htr.below hCq.out) hk hg
  obtain ⟨t2, t3⟩ := trs (htr.below hCq.out) h1 hg2
  have htl := (htr.below hCq.out).lt
  clear hg hg2
  go_upto_region 6 with fail
  go_cut [47] from 24 to 47 (fun c wx => c = .bool false ∧ wx = wq)
  case first =>
    clear HM
    rcases W1 with u1 | ⟨u1, u2 | ⟨u2, u3 | ⟨u3, u4 | ⟨u4, u5⟩⟩⟩⟩
    all_goals
      go_wp2_with (first
        | (go_at_call 46; with_reducible show Calls _ _ #[Value.float FloatKind.f64 now] _ _; refine (rmay_any _ hnow _).mono ?_; rintro e w' ⟨rfl, rfl⟩; rw [u1])
        | (go_at_call 46; with_reducible show Calls _ _ #[Value.float FloatKind.f64 a] _ _; refine (rmay_any a ha _).mono ?_; rintro e w' ⟨rfl, rfl⟩; rw [u2])
        | (go_at_call 46; refine (rmay_any b hb _).mono ?_; rintro e w' ⟨rfl, rfl⟩; rw [u3]))
      go_meet
      exact ⟨rfl, rfl⟩
  case rest =>
    obtain ⟨rfl, rfl⟩ := hcut
    clear W1
    go_wp2
    go_quiet ((go_at_call 47; refine Calls.quiet_of_same (v := .float .f64 o0) ((rage_any now a hnow ha _).mono fun e w' h => ⟨by rw [h.1, HO.out], h.2.symm⟩)))
    go_wp2
    go_ret
    exact ⟨rfl, below_drewN hCq.out _⟩
set_option maxRecDepth 100000 in
set_option maxHeartbeats 8000000 in
theorem tof4 (s : Option Addr) (cap : Nat) (L : List Tr) (now a b o0 : Nat) (tb : Int) (k : Nat) (hk : k < L.length) (w : World) (hT : SlT w (.slice s L.length cap) L) (hTl : L.length < 9223372036854775807) (hnow : now < 18446744073709551616) (ha : a < 18446744073709551616) (hb : b < 18446744073709551616) (HM : Hid (polB L = true)) (HTA : Hid (ofI L (ageOf now a) = (k : Int))) (HTB : Hid (ofI L (ageOf now b) = tb)) (HO : Hid (ageOf now a = o0))
    (W1 : tmay now = false ∨ tmay now = true ∧ (tmay a = false ∨ tmay a = true ∧ (tmay b = false ∨ tmay b = true ∧ ((FloatKind.f64.format.order a b == some .lt || FloatKind.f64.format.order a b == some .eq) = false ∨ (FloatKind.f64.format.order a b == some .lt || FloatKind.f64.format.order a b == some .eq) = true ∧ decide ((k : Int) < tb) = false)))) (ga gg : Nat) (hg : L.getD k default = ⟨ga, gg⟩) (W2 : (FloatKind.f64.format.order ga o0 == some .lt || FloatKind.f64.format.order ga o0 == some .eq) = true) (h1 : ¬ k + 1 < L.length) :
    Calls Try.prog 15 #[.slice s L.length cap, .float .f64 now, .agg #[.float .f64 a, .float .f64 b]] w fun e w' => e = .returned (.bool true) ∧ Below w.heap.size w w' := by
  obtain ⟨tb', tof, rfl, htr⟩ := hT.rd (by omega)
  have v1 : decide ((L.length : Int) ≤ (k : Int)) = false := decide_eq_false (by omega)
  have v1n : decide (L.length ≤ k) = false := decide_eq_false (by omega)
  have v2 : (k : Int) < (L.length : Int) := by omega
  have v3 : IntKind.i64.wrap ((k : Int) + 1) = (k : Int) + 1 := IntWalk.i64_in _ (by omega)
  have v4 : ((k : Int) + 1).toNat = k + 1 := by omega
  have v5 : decide ((k : Int) < -1) = false := decide_eq_false (by omega)
  have v6 : decide ((k : Int) + 1 < (L.length : Int)) = false := decide_eq_false (by omega)
  have v6n : decide (k + 1 < L.length) = false := decide_eq_false h1
  go_enter Try.func15, Try.ntmps15
  go_wp2_with (first
    | (go_at_call 38; refine (awake19 _).mono ?_; rintro e w1 ⟨rfl, hB1⟩; have hN1 := Lib.hid (keepB (World.alloc_heap_new w (.cells #[.float .f64 a, .float .f64 b] 65)) hB1); have hC1 := Lib.hid (blw (bal (Below.refl _ w) (.cells #[.float .f64 a, .float .f64 b] 65)) hB1))
    | (go_at_call 43; refine (rpol_any _ _ L _ (hT.below hC1.out)).mono ?_; rintro e w2 ⟨rfl, hB2⟩; rw [HM.out]; have hN2 := Lib.hid (keepB hN1.out hB2); have hC2 := Lib.hid (blw hC1.out hB2); clear hB2 hB1))
  obtain ⟨s0, s1⟩ := two_cells hN2.out
  have hsl : w.heap.size < w2.heap.size := (Array.getElem?_eq_some_iff.1 hN2.out).1
  go_quiet ((first
    | (go_at_call 44; with_reducible show Calls _ _ #[_, _, Value.float FloatKind.f64 a] _ _; refine Calls.quiet_of_same (v := .int .i64 k) ((tierof_any _ _ L now a _ ((hT.below hC2.out).below (below_drewN (Below.refl _ _) _)) hTl hnow ha).mono fun e w' h => ⟨by rw [h.1, HTA.out], h.2.symm⟩))
    | (go_at_call 44; refine Calls.quiet_of_same (v := .int .i64 tb) ((tierof_any _ _ L now b _ ((hT.below hC2.out).below (below_drewN (Below.refl _ _) _)) hTl hnow hb).mono fun e w' h => ⟨by rw [h.1, HTB.out], h.2.symm⟩))))
  generalize hwq : w2.drewN nq = wq
  have hwh : wq.heap = w2.heap := hwq ▸ rfl
  have hCq := Lib.hid (show Below w.heap.size w wq from hwq ▸ below_drewN hC2.out nq)
  clear s0 s1 hsl
  obtain ⟨s0, s1⟩ := two_cells (heap_eq2 hwh hN2.out)
  have hsl : w.heap.size < wq.heap.size := (Array.getElem?_eq_some_iff.1 (heap_eq2 hwh hN2.out)).1
  clear hwq hwh hN2 hC2 hN1 hC1
  obtain ⟨t0, t1⟩ := trs (htr.below hCq.out) hk hg
  have htl := (htr.below hCq.out).lt
  clear hg
  go_upto_region 6 with fail
  go_cut [47] from 24 to 47 (fun c wx => c = .bool false ∧ wx = wq)
  case first =>
    clear HM
    rcases W1 with u1 | ⟨u1, u2 | ⟨u2, u3 | ⟨u3, u4 | ⟨u4, u5⟩⟩⟩⟩
    all_goals
      go_wp2_with (first
        | (go_at_call 46; with_reducible show Calls _ _ #[Value.float FloatKind.f64 now] _ _; refine (rmay_any _ hnow _).mono ?_; rintro e w' ⟨rfl, rfl⟩; rw [u1])
        | (go_at_call 46; with_reducible show Calls _ _ #[Value.float FloatKind.f64 a] _ _; refine (rmay_any a ha _).mono ?_; rintro e w' ⟨rfl, rfl⟩; rw [u2])
        | (go_at_call 46; refine (rmay_any b hb _).mono ?_; rintro e w' ⟨rfl, rfl⟩; rw [u3]))
      go_meet
      exact ⟨rfl, rfl⟩
  case rest =>
    obtain ⟨rfl, rfl⟩ := hcut
    clear W1
    go_wp2
    go_quiet ((go_at_call 47; refine Calls.quiet_of_same (v := .float .f64 o0) ((rage_any now a hnow ha _).mono fun e w' h => ⟨by rw [h.1, HO.out], h.2.symm⟩)))
    go_wp2
    go_ret
    exact ⟨rfl, below_drewN hCq.out _⟩
set_option maxRecDepth 100000 in
set_option maxHeartbeats 1000000 in
theorem tierOf_walk (s : Option Addr) (cap : Nat) (L : List Tr) (now a b : Nat) (w : World) (hT : SlT w (.slice s L.length cap) L) (_ : L.length ≤ cap) (_ : cap ≤ 9223372036854775807) (hnow : now < 18446744073709551616) (ha : a < 18446744073709551616) (hb : b < 18446744073709551616) :
    Calls Try.prog 15 #[.slice s L.length cap, .float .f64 now, .agg #[.float .f64 a, .float .f64 b]] w fun e w' => e = .returned (.bool true) ∧ Below w.heap.size w w' := by
  cases hp : polB L
  · have HM := Lib.hid hp
    go_enter Try.func15, Try.ntmps15
    go_wp2_with (first
      | (go_at_call 38; refine (awake19 _).mono ?_; rintro e w1 ⟨rfl, hB1⟩; have hC1 := Lib.hid (blw (bal (Below.refl _ w) (.cells #[.float .f64 a, .float .f64 b] 65)) hB1))
      | (go_at_call 43; refine (rpol_any _ _ L _ (hT.below hC1.out)).mono ?_; rintro e w2 ⟨rfl, hB2⟩; rw [HM.out]; have hC2 := Lib.hid (blw hC1.out hB2)))
    go_ret
    exact ⟨rfl, hC2.out⟩
  have hpp := polB_true.1 hp
  have hl8 := hpp.1
  have hTl : L.length < 9223372036854775807 := by omega
  have W1 := @tof_ways L hpp now a b
  have W2 := ofI_is L (ageOf now a)
  obtain ⟨ta, hta⟩ : ∃ x, ofI L (ageOf now a) = x := ⟨_, rfl⟩
  rw [hta] at W1 W2
  rcases W2 with ⟨rfl, W2⟩ | ⟨k, hk, rfl, W2, W3⟩
  · by_cases h0 : 0 < L.length
    · exact tof1 s cap L now a b _ _ w hT hTl hnow ha hb (Lib.hid hp) (Lib.hid hta) (Lib.hid rfl) (Lib.hid rfl) W1 h0 _ _ rfl (W2 0 h0)
    · exact tof2 s cap L now a b _ _ w hT hTl hnow ha hb (Lib.hid hp) (Lib.hid hta) (Lib.hid rfl) (Lib.hid rfl) W1 (by omega)
  · by_cases h1 : k + 1 < L.length
    · exact tof3 s cap L now a b _ _ k hk w hT hTl hnow ha hb (Lib.hid hp) (Lib.hid hta) (Lib.hid rfl) (Lib.hid rfl) W1 _ _ rfl W2 h1 _ _ rfl (W3 (k + 1) (by omega) h1)
    · exact tof4 s cap L now a b _ _ k hk w hT hTl hnow ha hb (Lib.hid hp) (Lib.hid hta) (Lib.hid rfl) (Lib.hid rfl) W1 _ _ rfl W2 h1
end Go.Proofs.Ytddnhjpclglclaa
