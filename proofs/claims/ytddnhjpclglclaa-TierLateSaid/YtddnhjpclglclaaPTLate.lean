/- Thinned later, with the same policy, no point comes back, and none that is still too young for any tier is lost: the walk of treeringlaw19.TierLate. -/
import Derived.Test.YtddnhjpclglclaaLateL
import Derived.Test.YtddnhjpclglclaaPTKeeps
import Derived.Deep.LoopGhost
namespace Go.Proofs.Ytddnhjpclglclaa
open Go.RowKit Fl
theorem heap_eq3 {W W' : World} (h : W'.heap = W.heap) {k : Nat} {o : Option Obj} (g : W.heap[k]? = o) : W'.heap[k]? = o := by rw [h]; exact g
theorem sl_rd {W : World} {a : Option Addr} {L : List Pt} {cap : Nat} (h : SlP W (.slice a L.length cap) L) (hn : 0 < L.length) : ∃ b off, a = some ⟨b, off, none⟩ ∧ RdP W b off L := by
  rcases h with ⟨a', cap', e, rfl⟩ | ⟨b, off, cap', e, hr⟩
  · simp at hn
  · exact ⟨b, off, (Value.slice.inj e).1, hr⟩
set_option maxRecDepth 100000 in
set_option maxHeartbeats 6000000 in
theorem tierLate_walk (s : Option Addr) (ca : Nat) (T : List Tr) (n0 n1 : Int) (s2 : Option Addr) (cap : Nat) (L : List Pt) (w : World) (hT : SlT w (.slice s T.length ca) T) (_ : T.length ≤ ca) (_ : ca ≤ 9223372036854775807) (hI : SlP w (.slice s2 L.length cap) L) (hcap : L.length ≤ cap) (hx : 0 ≤ n0 ∧ n0 ≤ 255) (hy : 0 ≤ n1 ∧ n1 ≤ 255) :
    Calls Try.prog 16 #[.slice s T.length ca, .agg #[.int .u8 n0, .int .u8 n1], .slice s2 L.length cap] w fun e w' => e = .returned (.bool true) ∧ Below w.heap.size w w' := by
  obtain ⟨x, rfl⟩ := Int.eq_ofNat_of_zero_le hx.1
  obtain ⟨y, rfl⟩ := Int.eq_ofNat_of_zero_le hy.1
  have hx' : x ≤ 255 := by omega
  have hy' : y ≤ 255 := by omega
  clear hx hy
  cases h100 : decide (100 < (L.length : Int))
  case true =>
    go_enter Try.func16, Try.ntmps16
    go_wp2_with (go_at_call 38; refine (awake19 _).mono ?_; rintro e w1 ⟨rfl, hB1⟩)
    go_ret
    exact ⟨rfl, blw (bal (Below.refl _ w) (.cells #[.int .u8 (x : Int), .int .u8 (y : Int)] 67)) hB1⟩
  cases h20 : decide (20 < (T.length : Int))
  case true =>
    go_enter Try.func16, Try.ntmps16
    go_wp2_with (go_at_call 38; refine (awake19 _).mono ?_; rintro e w1 ⟨rfl, hB1⟩)
    go_ret
    exact ⟨rfl, blw (bal (Below.refl _ w) (.cells #[.int .u8 (x : Int), .int .u8 (y : Int)] 67)) hB1⟩
  have hTn : T.length < 9223372036854775807 := by have := of_decide_eq_false h20; omega
  have hLn : L.length ≤ 1000000 := by have := of_decide_eq_false h100; omega
  have hLi : (L.length : Int) ≤ 100 := by have := of_decide_eq_false h100; omega
  have vf0 : floatOfInt .f64 (x : Int) = dy x 0 := floatOfInt_nat x
  have vf1 : floatOfInt .f64 (y : Int) = dy y 0 := floatOfInt_nat y
  have two_dy : 4611686018427387904 = dy 2 0 := by decide +kernel
  have vq0 : ∀ w, (binOp .quo 23 (.float .f64 (dy x 0)) (.float .f64 4611686018427387904)).run Try.prog w = .ok (.float .f64 (dy x 1)) w := by
    intro w
    have := run_quo (P := Try.prog) 23 (quo_dy (a := x) (d := 2) (s := 0) (t := 0) (c := x) (u := 1) (by omega) (by omega) (by decide) (by omega) (by omega) (by omega) (by omega) (by omega) (by omega)) w
    rw [← two_dy] at this
    exact this
  have vq1 : ∀ w, (binOp .quo 23 (.float .f64 (dy y 0)) (.float .f64 4611686018427387904)).run Try.prog w = .ok (.float .f64 (dy y 1)) w := by
    intro w
    have := run_quo (P := Try.prog) 23 (quo_dy (a := y) (d := 2) (s := 0) (t := 0) (c := y) (u := 1) (by omega) (by omega) (by decide) (by omega) (by omega) (by omega) (by omega) (by omega) (by omega)) w
    rw [← two_dy] at this
    exact this
  have va : ∀ w, (binOp .add 23 (.float .f64 (dy x 1)) (.float .f64 (dy y 1))).run Try.prog w = .ok (.float .f64 (dy (x + y) 1)) w := by
    intro w
    have := run_add (P := Try.prog) w 23 (dy_T (k := x) (s := 1) (by omega)) (dy_T (k := y) (s := 1) (by omega)) (by have := (dy_spec (k := x) (s := 1) (by omega)).1; omega)
    rw [rnd_add_dy (by omega)] at this
    exact this
  have hu := dy_T (k := x + y) (s := 1) (by omega)
  have htu : key (dy x 1) ≤ key (dy (x + y) 1) := by rw [key_dy (by omega), key_dy (by omega)]; exact (dy_le (by omega) (by omega)).2 (by omega)
  have lt0 : dy x 1 < 18446744073709551616 := by have := (dy_spec (k := x) (s := 1) (by omega)).1; omega
  have lu0 : dy (x + y) 1 < 18446744073709551616 := by have := (dy_spec (k := x + y) (s := 1) (by omega)).1; omega
  clear two_dy
  generalize dy x 0 = X0 at *
  generalize dy y 0 = Y0 at *
  generalize dy y 1 = Y1 at *
  generalize dy (x + y) 1 = u at *
  generalize dy x 1 = t at *
  by_cases hc0 : (keepR T t L).2 = 0
  case neg =>
    obtain ⟨hk, hc⟩ := keepR_fail hc0
    clear hc0
    rcases hc with hc | hc
    all_goals
      have HK := Lib.hid hk
      have HC := Lib.hid hc
      clear hk hc
      go_enter Try.func16, Try.ntmps16
      go_wp2_with (go_at_call 38; refine (awake19 _).mono ?_; rintro e w1 ⟨rfl, hB1⟩; have hN1 := Lib.hid (keepB (World.alloc_heap_new w (.cells #[.int .u8 (x : Int), .int .u8 (y : Int)] 67)) hB1); have hC1 := Lib.hid (blw (bal (Below.refl _ w) (.cells #[.int .u8 (x : Int), .int .u8 (y : Int)] 67)) hB1); clear hB1)
      obtain ⟨s0, s1⟩ := two_cells hN1.out
      have hsl : w.heap.size < w1.heap.size := (Array.getElem?_eq_some_iff.1 hN1.out).1
      go_quiet (fail)
      generalize hwq : w1.drewN nq = wq
      have hCq := Lib.hid (show Below w.heap.size w wq from hwq ▸ below_drewN hC1.out nq)
      clear hwq s0 s1 hsl hN1 hC1
      go_wp2_with (go_at_call 39; refine (keep_any _ _ T t _ _ L _ (hT.below hCq.out) (hI.below hCq.out) hcap hTn hLn lt0).mono ?_; rw [HK.out, HC.out]; rintro e w2 ⟨v, rfl, hS, ⟨va', vc, rfl, hle⟩, hB2⟩)
      go_ret
      exact ⟨rfl, blw hCq.out hB2⟩
  obtain ⟨A, hA⟩ : ∃ A, (keepR T t L).1 = A := ⟨_, rfl⟩
  have hAR : keepR T t L = (A, 0) := Prod.ext hA hc0
  obtain ⟨B, hBR, hBl, hAl, mA, mB, hBA, hLB, mL⟩ := late_ways hAR hu htu
  have HAR := Lib.hid hAR
  have HBR := Lib.hid hBR
  have HBA := Lib.hid hBA
  have HLB := Lib.hid hLB
  have HMA := Lib.hid mA
  have HMB := Lib.hid mB
  have HML := Lib.hid mL
  have hBl' : decide ((A.length : Int) < (B.length : Int)) = false := decide_eq_false (by omega)
  have hBln : decide (A.length < B.length) = false := decide_eq_false (by omega)
  have hBlm : ¬ A.length < B.length := by omega
  have hAi : (A.length : Int) ≤ 100 := by omega
  have hBi : (B.length : Int) ≤ 100 := by omega
  clear hAR hBR hBA hLB mA mB mL hA hc0 htu hu
  go_enter Try.func16, Try.ntmps16
  go_wp2_with (go_at_call 38; refine (awake19 _).mono ?_; rintro e w1 ⟨rfl, hB1⟩; have hN1 := Lib.hid (keepB (World.alloc_heap_new w (.cells #[.int .u8 (x : Int), .int .u8 (y : Int)] 67)) hB1); have hC1 := Lib.hid (blw (bal (Below.refl _ w) (.cells #[.int .u8 (x : Int), .int .u8 (y : Int)] 67)) hB1); clear hB1)
  obtain ⟨s0, s1⟩ := two_cells hN1.out
  have hsl : w.heap.size < w1.heap.size := (Array.getElem?_eq_some_iff.1 hN1.out).1
  go_quiet (fail)
  generalize hwq : w1.drewN nq = wq
  have hCq := Lib.hid (show Below w.heap.size w wq from hwq ▸ below_drewN hC1.out nq)
  clear hwq s0 s1 hsl hN1 hC1
  go_wp2_with (go_at_call 39; first
      | (have h2 := hC2.out; refine (keep_any _ _ T u _ _ A _ (hT.below hC2.out) HS2.out hle hTn (by omega) lu0).mono ?_; rw [HBR.out]; rintro e w3 ⟨v, rfl, hS, ⟨bA, bc, rfl, hle2⟩, hB3⟩; have HU3 := Lib.hid hS; have HS3 := Lib.hid (HS2.out.below hB3); have hC3 := Lib.hid (blw hC2.out hB3); clear hS hB3 h2 hle2)
      | (refine (keep_any _ _ T t _ _ L _ (hT.below hCq.out) (hI.below hCq.out) hcap hTn hLn lt0).mono ?_; rw [HAR.out]; rintro e w2 ⟨v, rfl, hS, ⟨aA, ac, rfl, hle⟩, hB2⟩; have HS2 := Lib.hid hS; have hC2 := Lib.hid (blw hCq.out hB2); clear hS hB2))
  clear vf0 vf1 vq0 vq1 va
  go_loopw [13] (fun i wr => ∃ k : Nat, k ≤ B.length ∧ i = .int .i64 (k : Int) ∧ Hid (Below w.heap.size w wr) ∧ Hid (SlP wr (.slice aA A.length ac) A) ∧ Hid (SlP wr (.slice bA B.length bc) B)) (fun i _ => B.length - (intOf i).toNat)
  case atStart => exact ⟨0, by omega, rfl, hC3, HS3, HU3⟩
  case round =>
    obtain ⟨k, hk, rfl, HC0, HA0, HB0⟩ := hrel
    obtain ⟨wo, rfl⟩ : ∃ x, x = wr := ⟨wr, rfl⟩
    by_cases hlt : k < B.length
    · obtain ⟨m, hml, hme⟩ := HBA.out k hlt
      have hrefl := seq_refl (mayB_true.2 HMB.out) hlt
      generalize hP : B.getD k default = p at hme hrefl
      obtain ⟨ps, pt, pm⟩ := p
      dsimp only at hrefl
      have HE := Lib.hid hme
      have HP := Lib.hid hP
      have hki : (k : Int) < (B.length : Int) := by omega
      have hnx : IntKind.i64.wrap ((k : Int) + 1) = (k : Int) + 1 := IntWalk.i64_in _ (by omega)
      obtain ⟨c0, c1, c2, hbl⟩ : True ∧ True ∧ True ∧ True := ⟨trivial, trivial, trivial, trivial⟩
      clear hme hP
      go_wp2
      go_loopw [14, 15] (fun th j w2 => ∃ q : Nat, q ≤ A.length ∧ j = .int .i64 (q : Int) ∧ th = .bool (decide (m < q)) ∧ Hid (Below w.heap.size w w2) ∧ Hid (SlP w2 (.slice aA A.length ac) A) ∧ Hid (SlP w2 (.slice bA B.length bc) B)) (fun _ j _ => A.length - (intOf j).toNat)
      case atStart => exact ⟨0, by omega, rfl, by rw [decide_eq_false (by omega)], HC0, HA0, HB0⟩
      case round =>
        obtain ⟨q, hq, rfl, rfl, HC2, HSA, HSB⟩ := hrel
        clear c0 c1 c2 hbl
        obtain ⟨wi, rfl⟩ : ∃ x, x = wr := ⟨wr, rfl⟩
        by_cases hql : q < A.length
        · obtain ⟨kb, ko, e0, hkr⟩ := sl_rd HSA.out (by omega)
          obtain ⟨xb, xo, e1, hxr⟩ := sl_rd (HSB.out) (by omega)
          subst e0
          subst e1
          obtain ⟨x0, x1, x2⟩ := pcs hxr hlt HP.out
          have hxl := hxr.lt
          have hkl := hkr.lt
          have hqi : (q : Int) < (A.length : Int) := by omega
          have hqx : IntKind.i64.wrap ((q : Int) + 1) = (q : Int) + 1 := IntWalk.i64_in _ (by omega)
          generalize hQ : A.getD q default = z
          obtain ⟨zs, zt, zm⟩ := z
          obtain ⟨d0, d1, d2⟩ := pcs hkr hql hQ
          by_cases hqm : q = m
          · subst hqm
            obtain ⟨rfl, rfl, rfl⟩ : zs = ps ∧ zt = pt ∧ zm = pm := by have := hQ.symm.trans HE.out; simp at this; exact this
            have hd : decide (q < q) = false := decide_eq_false (by omega)
            rw [hd]
            clear hQ hkr hxr
            go_wp2
            go_quiet (fail)
            go_wp2
            exact ⟨⟨q + 1, by omega, by go_num, by rw [decide_eq_true (by omega)], Lib.hid (below_drewN HC2.out _), Lib.hid (HSA.out.below (below_drewN (Below.refl _ _) _)), Lib.hid (HSB.out.below (below_drewN (Below.refl _ _) _))⟩, by simp [intOf]; omega⟩
          · have hne := seq_ne HMA.out hql hml hqm hQ HE.out
            dsimp only at hne
            by_cases hlt2 : m < q
            · rw [decide_eq_true hlt2]
              clear hQ hkr hxr
              go_wp2
              go_quiet (fail)
              go_wp2
              exact ⟨⟨q + 1, by omega, by go_num, by rw [decide_eq_true (by omega)], Lib.hid (below_drewN HC2.out _), Lib.hid (HSA.out.below (below_drewN (Below.refl _ _) _)), Lib.hid (HSB.out.below (below_drewN (Below.refl _ _) _))⟩, by simp [intOf]; omega⟩
            · rw [decide_eq_false hlt2]
              clear hQ hkr hxr
              go_wp2
              go_quiet (fail)
              go_wp2
              exact ⟨⟨q + 1, by omega, by go_num, by rw [decide_eq_false (by omega)], Lib.hid (below_drewN HC2.out _), Lib.hid (HSA.out.below (below_drewN (Below.refl _ _) _)), Lib.hid (HSB.out.below (below_drewN (Below.refl _ _) _))⟩, by simp [intOf]; omega⟩
        · have hql' : decide ((q : Int) < (A.length : Int)) = false := decide_eq_false (by omega)
          obtain rfl : q = A.length := by omega
          rw [decide_eq_true hml]
          go_wp2
          exact ⟨⟨k + 1, by omega, by go_num, HC2, HSA, HSB⟩, by simp [intOf]; omega⟩
    · have hlt' : decide ((k : Int) < (B.length : Int)) = false := decide_eq_false (by omega)
      go_wp2
      go_loopg [16] L.length (fun g i wr => ∃ k : Nat, k + g = L.length ∧ i = .int .i64 (k : Int) ∧ Hid (Below w.heap.size w wr) ∧ Hid (SlP wr (.slice aA A.length ac) A) ∧ Hid (SlP wr (.slice bA B.length bc) B))
      case atStart => exact ⟨0, by omega, rfl, HC0, HA0, HB0⟩
      case round =>
        clear HC0 HA0 HB0 hlt' hlt hk
        obtain ⟨k, hk, rfl, HC0, HA0, HB0⟩ := hrel
        obtain ⟨wo, rfl⟩ : ∃ x, x = wr := ⟨wr, rfl⟩
        by_cases hlt : k < L.length
        · obtain ⟨b, o, rfl, hr⟩ := sl_rd hI (by omega)
          have wpt := (hr.fit k hlt).f
          have hrefl := seq_refl (mayB_true.2 HML.out) hlt
          have hB2 := HLB.out k hlt
          generalize hP : L.getD k default = p at hrefl wpt hB2
          obtain ⟨ps, pt, pm⟩ := p
          dsimp only at hrefl wpt hB2
          obtain ⟨c0, c1, c2⟩ := pcs (hr.below HC0.out) hlt hP
          have hbl := (hr.below HC0.out).lt
          have HP := Lib.hid hP
          have HRd := Lib.hid hr
          have hki : (k : Int) < (L.length : Int) := by omega
          have hnx : IntKind.i64.wrap ((k : Int) + 1) = (k : Int) + 1 := IntWalk.i64_in _ (by omega)
          obtain ⟨ti, hti⟩ : ∃ x, ofI T (ageOf u pt) = x := ⟨_, rfl⟩
          rw [hti] at hB2
          have HTI := Lib.hid hti
          clear hP hr hti
          by_cases hneg : ti < 0
          · obtain ⟨m, hml, hme⟩ := hB2 hneg
            have hge : decide (0 ≤ ti) = false := decide_eq_false (by omega)
            have HE := Lib.hid hme
            clear hme hB2
            go_wp2_with (go_at_call 44; refine (tierof_any _ _ T u _ _ (hT.below HC0.out) hTn lu0 wpt).mono ?_; rintro e w' ⟨rfl, rfl⟩; rw [HTI.out])
            go_loopg [17, 18] B.length (fun g2 th j w2 => ∃ q : Nat, q + g2 = B.length ∧ j = .int .i64 (q : Int) ∧ th = .bool (decide (m < q)) ∧ Hid (Below w.heap.size w w2) ∧ Hid (SlP w2 (.slice aA A.length ac) A) ∧ Hid (SlP w2 (.slice bA B.length bc) B))
            case atStart => exact ⟨0, by omega, rfl, by rw [decide_eq_false (by omega)], HC0, HA0, HB0⟩
            case round =>
              obtain ⟨q, hq, rfl, rfl, HC2, HSA, HSB⟩ := hrel
              clear c0 c1 c2 hbl
              obtain ⟨wi, rfl⟩ : ∃ x, x = wr := ⟨wr, rfl⟩
              by_cases hql : q < B.length
              · obtain ⟨kb, ko, e0, hkr⟩ := sl_rd HSB.out (by omega)
                obtain ⟨xb, xo, e1, hxr⟩ := sl_rd (slr (cap := cap) HRd.out HC2.out) (by omega)
                subst e0
                obtain ⟨rfl, rfl⟩ : b = xb ∧ o = xo := by simpa using e1
                obtain ⟨x0, x1, x2⟩ := pcs hxr hlt HP.out
                have hxl := hxr.lt
                have hkl := hkr.lt
                have hqi : (q : Int) < (B.length : Int) := by omega
                have hqx : IntKind.i64.wrap ((q : Int) + 1) = (q : Int) + 1 := IntWalk.i64_in _ (by omega)
                generalize hQ : B.getD q default = z
                obtain ⟨zs, zt, zm⟩ := z
                obtain ⟨d0, d1, d2⟩ := pcs hkr hql hQ
                by_cases hqm : q = m
                · subst hqm
                  obtain ⟨rfl, rfl, rfl⟩ : zs = ps ∧ zt = pt ∧ zm = pm := by have := hQ.symm.trans HE.out; simp at this; exact this
                  have hd : decide (q < q) = false := decide_eq_false (by omega)
                  rw [hd]
                  clear hQ hkr hxr
                  go_wp2
                  go_quiet (fail)
                  go_wp2
                  go_roundg (gk - 1)
                  case measure => omega
                  case rel => exact ⟨q + 1, by omega, by first | rfl | go_num, by rw [decide_eq_true (by omega)], Lib.hid (below_drewN HC2.out _), Lib.hid (HSA.out.below (below_drewN (Below.refl _ _) _)), Lib.hid (HSB.out.below (below_drewN (Below.refl _ _) _))⟩
                · have hne := seq_ne HMB.out hql hml hqm hQ HE.out
                  dsimp only at hne
                  by_cases hlt2 : m < q
                  · rw [decide_eq_true hlt2]
                    clear hQ hkr hxr
                    go_wp2
                    go_quiet (fail)
                    go_wp2
                    go_roundg (gk - 1)
                    case measure => omega
                    case rel => exact ⟨q + 1, by omega, by first | rfl | go_num, by rw [decide_eq_true (by omega)], Lib.hid (below_drewN HC2.out _), Lib.hid (HSA.out.below (below_drewN (Below.refl _ _) _)), Lib.hid (HSB.out.below (below_drewN (Below.refl _ _) _))⟩
                  · rw [decide_eq_false hlt2]
                    clear hQ hkr hxr
                    go_wp2
                    go_quiet (fail)
                    go_wp2
                    go_roundg (gk - 1)
                    case measure => omega
                    case rel => exact ⟨q + 1, by omega, by first | rfl | go_num, by rw [decide_eq_false (by omega)], Lib.hid (below_drewN HC2.out _), Lib.hid (HSA.out.below (below_drewN (Below.refl _ _) _)), Lib.hid (HSB.out.below (below_drewN (Below.refl _ _) _))⟩
              · have hql' : decide ((q : Int) < (B.length : Int)) = false := decide_eq_false (by omega)
                obtain rfl : q = B.length := by omega
                rw [decide_eq_true hml]
                go_wp2
                go_roundg (L.length - (k + 1))
                case measure => omega
                case rel => exact ⟨k + 1, by omega, by first | rfl | go_num, HC2, HSA, HSB⟩
          · have hge : decide (0 ≤ ti) = true := decide_eq_true (by omega)
            clear hB2
            go_wp2_with (go_at_call 44; refine (tierof_any _ _ T u _ _ (hT.below HC0.out) hTn lu0 wpt).mono ?_; rintro e w' ⟨rfl, rfl⟩; rw [HTI.out])
            go_roundg (L.length - (k + 1))
            case measure => omega
            case rel => exact ⟨k + 1, by omega, by first | rfl | go_num, HC0, HA0, HB0⟩
        · have hlt' : decide ((k : Int) < (L.length : Int)) = false := decide_eq_false (by omega)
          go_wp2
          go_ret
          exact ⟨rfl, HC0.out⟩
end Go.Proofs.Ytddnhjpclglclaa
