/- Each point is found by its number, by its mark, and by a time between it and the next: the walk of treeringlaw18.PointsSeq. -/
import Derived.Test.YtddnhjpclglclaaSeqL
import Derived.Deep.QuietTactic
import Derived.BigQuiet
namespace Go.Proofs.Ytddnhjpclglclaa
open Go.RowKit Fl
theorem pcs {w : World} {b o k : Nat} {L : List Pt} (hr : RdP w b o L) (hk : k < L.length) {ps : Int} {pt : Nat} {pm : ByteArray} (h : L.getD k default = ⟨ps, pt, pm⟩) :
    w.cell? ⟨b, o + k * 3, none⟩ = some (.int .i64 ps) ∧ w.cell? ⟨b, o + k * 3 + 1, none⟩ = some (.float .f64 pt) ∧ w.cell? ⟨b, o + k * 3 + 2, none⟩ = some (.string pm) := by
  obtain ⟨c0, c1, c2⟩ := hr.at_ k hk
  rw [h] at c0 c1 c2
  exact ⟨c0, c1, c2⟩
theorem seq_refl {L : List Pt} (hm : mayB L = true) {k : Nat} (hk : k < L.length) : (FloatKind.f64.format.order (L.getD k default).st (L.getD k default).st == some .eq) = true := by
  have h := (mayB_true.1 hm).nn hk
  rw [f_eql h h]; exact decide_eq_true rfl
theorem slr {w W : World} {b o cap : Nat} {L : List Pt} (hr : RdP w b o L) (h : Below w.heap.size w W) : SlP W (.slice (some ⟨b, o, none⟩) L.length cap) L := .inr ⟨b, o, cap, rfl, hr.below h⟩
set_option maxRecDepth 100000 in
set_option maxHeartbeats 4000000 in
theorem pointsSeq_walk (s : Option Addr) (cap : Nat) (L : List Pt) (w : World) (hI : SlP w (.slice s L.length cap) L) (_ : L.length ≤ cap) :
    Calls Try.prog 8 #[.slice s L.length cap] w fun e w' => e = .returned (.bool true) ∧ Below w.heap.size w w' := by
  cases h100 : decide (100 < (L.length : Int))
  · have hn : L.length < 9223372036854775807 := by simp at h100; omega
    cases hm : mayB L
    · go_enter Try.func8, Try.ntmps8
      go_wp2_with (first
        | (go_at_call 18; refine (awake18 _).mono ?_; rintro e w1 ⟨rfl, hB1⟩)
        | (go_at_call 19; refine (rpmay_sl _ _ L _ (hI.below hB1) hn).mono ?_; rintro e w2 ⟨rfl, hB2⟩; rw [hm]))
      go_ret
      exact ⟨rfl, blw hB1 hB2⟩
    · have HM := Lib.hid hm
      clear hm
      go_enter Try.func8, Try.ntmps8
      go_wp2_with (first
        | (go_at_call 18; refine (awake18 _).mono ?_; rintro e w1 ⟨rfl, hB1⟩)
        | (go_at_call 19; refine (rpmay_sl _ _ L _ (hI.below hB1) hn).mono ?_; rintro e w2 ⟨rfl, hB2⟩; rw [HM.out]; have hC := Lib.hid (blw hB1 hB2)))
      go_loopw [3] (fun i wr => ∃ k : Nat, k ≤ L.length ∧ i = .int .i64 (k : Int) ∧ Hid (Below w.heap.size w wr)) (fun i _ => L.length - (intOf i).toNat)
      case atStart => exact ⟨0, by omega, rfl, hC⟩
      case round =>
        obtain ⟨k, hk, rfl, hC0⟩ := hrel
        by_cases hlt : k < L.length
        · obtain ⟨b, o, rfl, hr⟩ : ∃ b off, s = some ⟨b, off, none⟩ ∧ RdP w b off L := by
            rcases hI with ⟨a', cap', e, rfl⟩ | ⟨b, off, cap', e, hr⟩
            · simp at hlt
            · exact ⟨b, off, (Value.slice.inj e).1, hr⟩
          have q1 := seq_find HM.out hlt
          have q2 := seq_none HM.out hlt
          have q3 := @mark_find L HM.out k hlt
          have q4 := @st_ways L HM.out k
          have q5 := seq_refl HM.out hlt
          have q6 := (hr.fit k hlt).i
          have q7 := ((mayB_true.1 HM.out).ok1 hlt).1
          generalize hP : L.getD k default = p at q1 q2 q3 q4 q5 q6 q7
          obtain ⟨ps, pt, pm⟩ := p
          dsimp only at q1 q2 q3 q4 q5 q6 q7
          have HP := Lib.hid hP
          have HR := Lib.hid hr
          have v1 : IntKind.i64.wrap (-ps) = -ps := IntWalk.i64_in _ (by omega)
          have v2 : IntKind.i64.wrap ((k : Int) + 1) = (k : Int) + 1 := IntWalk.i64_in _ (by omega)
          have v3 : ((k : Int) + 1).toNat = k + 1 := by omega
          have v4 : (0 : Int) ≤ (k : Int) + 1 := by omega
          have hlen : (k : Int) < (L.length : Int) := by omega
          have Q1 := Lib.hid q1
          have Q2 := Lib.hid q2
          obtain ⟨c0, c1, c2⟩ := pcs (hr.below hC0.out) hlt hP
          have hbl := (hr.below hC0.out).lt
          clear hP hr q1 q2 q6 q7 hI h100
          cases s4 : pm.toList.isEmpty
          · by_cases hk1 : k + 1 < L.length
            · have t1 : decide ((k : Int) + 1 < (L.length : Int)) = true := by simp; omega
              have t1' : decide (k + 1 < L.length) = true := by simp; omega
              have q4 := q4 hk1
              generalize hN : L.getD (k + 1) default = n at q4
              obtain ⟨ns, nt, nm⟩ := n
              dsimp only at q4
              have HN := Lib.hid hN
              clear hN
              have v5 : (k : Int) + 1 < (L.length : Int) := by omega
              rcases q4 with q4 | ⟨q4, d, h, r, r1, r2, r3, r4, r5 | ⟨r5, q8⟩⟩
              · have Q3 := Lib.hid (q3 s4)
                clear q3
                go_wp2_with (go_at_call 28; refine (pseq_any _ _ _ L _ (slr HR.out hC0.out) hn).mono ?_; rintro e w1 ⟨rfl, hB1⟩; rw [Q1.out]; dsimp only [askV]; have hC1 := Lib.hid (bal (blw hC0.out hB1) (.cells #[.int .i64 ps, .float .f64 pt, .string pm] 27)); obtain ⟨e0, e1, e2⟩ := pcs (HR.out.below hC1.out) hlt HP.out; have hb1 := (HR.out.below hC1.out).lt)
                go_quiet (fail)
                go_wp2_with (first | (go_at_call 28; refine (pseq_any _ _ _ L _ (slr HR.out (below_drewN hC1.out _)) hn).mono ?_; rintro e w2 ⟨rfl, hB2⟩; rw [Q2.out]; dsimp only [askV, ptZero]; have hC2 := Lib.hid (bal (blw (below_drewN hC1.out _) hB2) (.cells #[.int .i64 0, .float .f64 0, .string ⟨#[]⟩] 27)); obtain ⟨d0, d1, d2⟩ := pcs (HR.out.below hC2.out) hlt HP.out; have hb2 := (HR.out.below hC2.out).lt; obtain ⟨x0, x1, x2⟩ := pcs (HR.out.below hC2.out) hk1 HN.out) | (go_at_call 29; refine (pmark_any _ _ _ L _ (slr HR.out hC2.out) hn).mono ?_; rintro e w3 ⟨rfl, hB3⟩; rw [Q3.out]; dsimp only [askV]; have hC3 := Lib.hid (bal (blw hC2.out hB3) (.cells #[.int .i64 ps, .float .f64 pt, .string pm] 27)); obtain ⟨f0, f1, f2⟩ := pcs (HR.out.below hC3.out) hlt HP.out; have hb3 := (HR.out.below hC3.out).lt; obtain ⟨g0, g1, g2⟩ := pcs (HR.out.below hC3.out) hk1 HN.out))
                go_quiet (fail)
                go_wp2
                go_quiet (fail)
                go_wp2
                exact ⟨⟨k + 1, by omega, by go_num, Lib.hid (below_drewN hC3.out _)⟩, by simp [intOf]; omega⟩
              · have r1 := r1 Try.prog 23
                have r2 := r2 Try.prog 23
                have r3 := r3 Try.prog 23
                generalize hA : askR (phi_at r) L = A
                obtain ⟨⟨a0, a1, a2⟩, ac⟩ := A
                have Q4 := Lib.hid hA
                clear hA
                have Q3 := Lib.hid (q3 s4)
                clear q3
                go_wp2_with (go_at_call 28; refine (pseq_any _ _ _ L _ (slr HR.out hC0.out) hn).mono ?_; rintro e w1 ⟨rfl, hB1⟩; rw [Q1.out]; dsimp only [askV]; have hC1 := Lib.hid (bal (blw hC0.out hB1) (.cells #[.int .i64 ps, .float .f64 pt, .string pm] 27)); obtain ⟨e0, e1, e2⟩ := pcs (HR.out.below hC1.out) hlt HP.out; have hb1 := (HR.out.below hC1.out).lt)
                go_quiet (fail)
                go_wp2_with (first | (go_at_call 28; refine (pseq_any _ _ _ L _ (slr HR.out (below_drewN hC1.out _)) hn).mono ?_; rintro e w2 ⟨rfl, hB2⟩; rw [Q2.out]; dsimp only [askV, ptZero]; have hC2 := Lib.hid (bal (blw (below_drewN hC1.out _) hB2) (.cells #[.int .i64 0, .float .f64 0, .string ⟨#[]⟩] 27)); obtain ⟨d0, d1, d2⟩ := pcs (HR.out.below hC2.out) hlt HP.out; have hb2 := (HR.out.below hC2.out).lt; obtain ⟨x0, x1, x2⟩ := pcs (HR.out.below hC2.out) hk1 HN.out) | (go_at_call 29; refine (pmark_any _ _ _ L _ (slr HR.out hC2.out) hn).mono ?_; rintro e w3 ⟨rfl, hB3⟩; rw [Q3.out]; dsimp only [askV]; have hC3 := Lib.hid (bal (blw hC2.out hB3) (.cells #[.int .i64 ps, .float .f64 pt, .string pm] 27)); obtain ⟨f0, f1, f2⟩ := pcs (HR.out.below hC3.out) hlt HP.out; have hb3 := (HR.out.below hC3.out).lt; obtain ⟨g0, g1, g2⟩ := pcs (HR.out.below hC3.out) hk1 HN.out))
                go_quiet (fail)
                go_wp2
                go_quiet (fail)
                go_wp2
                go_quiet (fail)
                go_wp2_with (go_at_call 20; refine (pat_any _ _ _ L _ (slr HR.out (below_drewN hC3.out _)) hn).mono ?_; rintro e w4 ⟨rfl, hB4⟩; rw [Q4.out]; dsimp only [askV]; have hC4 := Lib.hid (bal (blw (below_drewN hC3.out _) hB4) (.cells #[.int .i64 a0, .float .f64 a1, .string a2] 27)); obtain ⟨y0, y1, y2⟩ := pcs (HR.out.below hC4.out) hlt HP.out; have hb4 := (HR.out.below hC4.out).lt; obtain ⟨z0, z1, z2⟩ := pcs (HR.out.below hC4.out) hk1 HN.out)
                go_quiet (fail)
                go_wp2
                exact ⟨⟨k + 1, by omega, by go_num, Lib.hid (below_drewN hC4.out _)⟩, by simp [intOf]; omega⟩
              · have r1 := r1 Try.prog 23
                have r2 := r2 Try.prog 23
                have r3 := r3 Try.prog 23
                have Q4 := Lib.hid q8
                clear q8
                have Q3 := Lib.hid (q3 s4)
                clear q3
                go_wp2_with (go_at_call 28; refine (pseq_any _ _ _ L _ (slr HR.out hC0.out) hn).mono ?_; rintro e w1 ⟨rfl, hB1⟩; rw [Q1.out]; dsimp only [askV]; have hC1 := Lib.hid (bal (blw hC0.out hB1) (.cells #[.int .i64 ps, .float .f64 pt, .string pm] 27)); obtain ⟨e0, e1, e2⟩ := pcs (HR.out.below hC1.out) hlt HP.out; have hb1 := (HR.out.below hC1.out).lt)
                go_quiet (fail)
                go_wp2_with (first | (go_at_call 28; refine (pseq_any _ _ _ L _ (slr HR.out (below_drewN hC1.out _)) hn).mono ?_; rintro e w2 ⟨rfl, hB2⟩; rw [Q2.out]; dsimp only [askV, ptZero]; have hC2 := Lib.hid (bal (blw (below_drewN hC1.out _) hB2) (.cells #[.int .i64 0, .float .f64 0, .string ⟨#[]⟩] 27)); obtain ⟨d0, d1, d2⟩ := pcs (HR.out.below hC2.out) hlt HP.out; have hb2 := (HR.out.below hC2.out).lt; obtain ⟨x0, x1, x2⟩ := pcs (HR.out.below hC2.out) hk1 HN.out) | (go_at_call 29; refine (pmark_any _ _ _ L _ (slr HR.out hC2.out) hn).mono ?_; rintro e w3 ⟨rfl, hB3⟩; rw [Q3.out]; dsimp only [askV]; have hC3 := Lib.hid (bal (blw hC2.out hB3) (.cells #[.int .i64 ps, .float .f64 pt, .string pm] 27)); obtain ⟨f0, f1, f2⟩ := pcs (HR.out.below hC3.out) hlt HP.out; have hb3 := (HR.out.below hC3.out).lt; obtain ⟨g0, g1, g2⟩ := pcs (HR.out.below hC3.out) hk1 HN.out))
                go_quiet (fail)
                go_wp2
                go_quiet (fail)
                go_wp2
                go_quiet (fail)
                go_wp2_with (go_at_call 20; refine (pat_any _ _ _ L _ (slr HR.out (below_drewN hC3.out _)) hn).mono ?_; rintro e w4 ⟨rfl, hB4⟩; rw [Q4.out]; dsimp only [askV]; have hC4 := Lib.hid (bal (blw (below_drewN hC3.out _) hB4) (.cells #[.int .i64 ps, .float .f64 pt, .string pm] 27)); obtain ⟨y0, y1, y2⟩ := pcs (HR.out.below hC4.out) hlt HP.out; have hb4 := (HR.out.below hC4.out).lt; obtain ⟨z0, z1, z2⟩ := pcs (HR.out.below hC4.out) hk1 HN.out)
                go_quiet (fail)
                go_wp2
                exact ⟨⟨k + 1, by omega, by go_num, Lib.hid (below_drewN hC4.out _)⟩, by simp [intOf]; omega⟩
            · have t1 : decide ((k : Int) + 1 < (L.length : Int)) = false := by simp; omega
              have t1' : decide (k + 1 < L.length) = false := by simp; omega
              clear q4
              have Q3 := Lib.hid (q3 s4)
              clear q3
              go_wp2_with (go_at_call 28; refine (pseq_any _ _ _ L _ (slr HR.out hC0.out) hn).mono ?_; rintro e w1 ⟨rfl, hB1⟩; rw [Q1.out]; dsimp only [askV]; have hC1 := Lib.hid (bal (blw hC0.out hB1) (.cells #[.int .i64 ps, .float .f64 pt, .string pm] 27)); obtain ⟨e0, e1, e2⟩ := pcs (HR.out.below hC1.out) hlt HP.out; have hb1 := (HR.out.below hC1.out).lt)
              go_quiet (fail)
              go_wp2_with (first | (go_at_call 28; refine (pseq_any _ _ _ L _ (slr HR.out (below_drewN hC1.out _)) hn).mono ?_; rintro e w2 ⟨rfl, hB2⟩; rw [Q2.out]; dsimp only [askV, ptZero]; have hC2 := Lib.hid (bal (blw (below_drewN hC1.out _) hB2) (.cells #[.int .i64 0, .float .f64 0, .string ⟨#[]⟩] 27)); obtain ⟨d0, d1, d2⟩ := pcs (HR.out.below hC2.out) hlt HP.out; have hb2 := (HR.out.below hC2.out).lt) | (go_at_call 29; refine (pmark_any _ _ _ L _ (slr HR.out hC2.out) hn).mono ?_; rintro e w3 ⟨rfl, hB3⟩; rw [Q3.out]; dsimp only [askV]; have hC3 := Lib.hid (bal (blw hC2.out hB3) (.cells #[.int .i64 ps, .float .f64 pt, .string pm] 27)); obtain ⟨f0, f1, f2⟩ := pcs (HR.out.below hC3.out) hlt HP.out; have hb3 := (HR.out.below hC3.out).lt))
              go_quiet (fail)
              go_wp2
              go_quiet (fail)
              go_wp2
              exact ⟨⟨k + 1, by omega, by go_num, Lib.hid (below_drewN hC3.out _)⟩, by simp [intOf]; omega⟩
          · by_cases hk1 : k + 1 < L.length
            · have t1 : decide ((k : Int) + 1 < (L.length : Int)) = true := by simp; omega
              have t1' : decide (k + 1 < L.length) = true := by simp; omega
              have q4 := q4 hk1
              generalize hN : L.getD (k + 1) default = n at q4
              obtain ⟨ns, nt, nm⟩ := n
              dsimp only at q4
              have HN := Lib.hid hN
              clear hN
              have v5 : (k : Int) + 1 < (L.length : Int) := by omega
              rcases q4 with q4 | ⟨q4, d, h, r, r1, r2, r3, r4, r5 | ⟨r5, q8⟩⟩
              · clear q3
                go_wp2_with (go_at_call 28; refine (pseq_any _ _ _ L _ (slr HR.out hC0.out) hn).mono ?_; rintro e w1 ⟨rfl, hB1⟩; rw [Q1.out]; dsimp only [askV]; have hC1 := Lib.hid (bal (blw hC0.out hB1) (.cells #[.int .i64 ps, .float .f64 pt, .string pm] 27)); obtain ⟨e0, e1, e2⟩ := pcs (HR.out.below hC1.out) hlt HP.out; have hb1 := (HR.out.below hC1.out).lt)
                go_quiet (fail)
                go_wp2_with (go_at_call 28; refine (pseq_any _ _ _ L _ (slr HR.out (below_drewN hC1.out _)) hn).mono ?_; rintro e w2 ⟨rfl, hB2⟩; rw [Q2.out]; dsimp only [askV, ptZero]; have hC2 := Lib.hid (bal (blw (below_drewN hC1.out _) hB2) (.cells #[.int .i64 0, .float .f64 0, .string ⟨#[]⟩] 27)); obtain ⟨d0, d1, d2⟩ := pcs (HR.out.below hC2.out) hlt HP.out; have hb2 := (HR.out.below hC2.out).lt; obtain ⟨x0, x1, x2⟩ := pcs (HR.out.below hC2.out) hk1 HN.out)
                go_quiet (fail)
                go_wp2
                exact ⟨⟨k + 1, by omega, by go_num, Lib.hid (below_drewN hC2.out _)⟩, by simp [intOf]; omega⟩
              · have r1 := r1 Try.prog 23
                have r2 := r2 Try.prog 23
                have r3 := r3 Try.prog 23
                generalize hA : askR (phi_at r) L = A
                obtain ⟨⟨a0, a1, a2⟩, ac⟩ := A
                have Q4 := Lib.hid hA
                clear hA
                clear q3
                go_wp2_with (go_at_call 28; refine (pseq_any _ _ _ L _ (slr HR.out hC0.out) hn).mono ?_; rintro e w1 ⟨rfl, hB1⟩; rw [Q1.out]; dsimp only [askV]; have hC1 := Lib.hid (bal (blw hC0.out hB1) (.cells #[.int .i64 ps, .float .f64 pt, .string pm] 27)); obtain ⟨e0, e1, e2⟩ := pcs (HR.out.below hC1.out) hlt HP.out; have hb1 := (HR.out.below hC1.out).lt)
                go_quiet (fail)
                go_wp2_with (go_at_call 28; refine (pseq_any _ _ _ L _ (slr HR.out (below_drewN hC1.out _)) hn).mono ?_; rintro e w2 ⟨rfl, hB2⟩; rw [Q2.out]; dsimp only [askV, ptZero]; have hC2 := Lib.hid (bal (blw (below_drewN hC1.out _) hB2) (.cells #[.int .i64 0, .float .f64 0, .string ⟨#[]⟩] 27)); obtain ⟨d0, d1, d2⟩ := pcs (HR.out.below hC2.out) hlt HP.out; have hb2 := (HR.out.below hC2.out).lt; obtain ⟨x0, x1, x2⟩ := pcs (HR.out.below hC2.out) hk1 HN.out)
                go_quiet (fail)
                go_wp2
                go_quiet (fail)
                go_wp2_with (go_at_call 20; refine (pat_any _ _ _ L _ (slr HR.out (below_drewN hC2.out _)) hn).mono ?_; rintro e w4 ⟨rfl, hB4⟩; rw [Q4.out]; dsimp only [askV]; have hC4 := Lib.hid (bal (blw (below_drewN hC2.out _) hB4) (.cells #[.int .i64 a0, .float .f64 a1, .string a2] 27)); obtain ⟨y0, y1, y2⟩ := pcs (HR.out.below hC4.out) hlt HP.out; have hb4 := (HR.out.below hC4.out).lt; obtain ⟨z0, z1, z2⟩ := pcs (HR.out.below hC4.out) hk1 HN.out)
                go_quiet (fail)
                go_wp2
                exact ⟨⟨k + 1, by omega, by go_num, Lib.hid (below_drewN hC4.out _)⟩, by simp [intOf]; omega⟩
              · have r1 := r1 Try.prog 23
                have r2 := r2 Try.prog 23
                have r3 := r3 Try.prog 23
                have Q4 := Lib.hid q8
                clear q8
                clear q3
                go_wp2_with (go_at_call 28; refine (pseq_any _ _ _ L _ (slr HR.out hC0.out) hn).mono ?_; rintro e w1 ⟨rfl, hB1⟩; rw [Q1.out]; dsimp only [askV]; have hC1 := Lib.hid (bal (blw hC0.out hB1) (.cells #[.int .i64 ps, .float .f64 pt, .string pm] 27)); obtain ⟨e0, e1, e2⟩ := pcs (HR.out.below hC1.out) hlt HP.out; have hb1 := (HR.out.below hC1.out).lt)
                go_quiet (fail)
                go_wp2_with (go_at_call 28; refine (pseq_any _ _ _ L _ (slr HR.out (below_drewN hC1.out _)) hn).mono ?_; rintro e w2 ⟨rfl, hB2⟩; rw [Q2.out]; dsimp only [askV, ptZero]; have hC2 := Lib.hid (bal (blw (below_drewN hC1.out _) hB2) (.cells #[.int .i64 0, .float .f64 0, .string ⟨#[]⟩] 27)); obtain ⟨d0, d1, d2⟩ := pcs (HR.out.below hC2.out) hlt HP.out; have hb2 := (HR.out.below hC2.out).lt; obtain ⟨x0, x1, x2⟩ := pcs (HR.out.below hC2.out) hk1 HN.out)
                go_quiet (fail)
                go_wp2
                go_quiet (fail)
                go_wp2_with (go_at_call 20; refine (pat_any _ _ _ L _ (slr HR.out (below_drewN hC2.out _)) hn).mono ?_; rintro e w4 ⟨rfl, hB4⟩; rw [Q4.out]; dsimp only [askV]; have hC4 := Lib.hid (bal (blw (below_drewN hC2.out _) hB4) (.cells #[.int .i64 ps, .float .f64 pt, .string pm] 27)); obtain ⟨y0, y1, y2⟩ := pcs (HR.out.below hC4.out) hlt HP.out; have hb4 := (HR.out.below hC4.out).lt; obtain ⟨z0, z1, z2⟩ := pcs (HR.out.below hC4.out) hk1 HN.out)
                go_quiet (fail)
                go_wp2
                exact ⟨⟨k + 1, by omega, by go_num, Lib.hid (below_drewN hC4.out _)⟩, by simp [intOf]; omega⟩
            · have t1 : decide ((k : Int) + 1 < (L.length : Int)) = false := by simp; omega
              have t1' : decide (k + 1 < L.length) = false := by simp; omega
              clear q4
              clear q3
              go_wp2_with (go_at_call 28; refine (pseq_any _ _ _ L _ (slr HR.out hC0.out) hn).mono ?_; rintro e w1 ⟨rfl, hB1⟩; rw [Q1.out]; dsimp only [askV]; have hC1 := Lib.hid (bal (blw hC0.out hB1) (.cells #[.int .i64 ps, .float .f64 pt, .string pm] 27)); obtain ⟨e0, e1, e2⟩ := pcs (HR.out.below hC1.out) hlt HP.out; have hb1 := (HR.out.below hC1.out).lt)
              go_quiet (fail)
              go_wp2_with (go_at_call 28; refine (pseq_any _ _ _ L _ (slr HR.out (below_drewN hC1.out _)) hn).mono ?_; rintro e w2 ⟨rfl, hB2⟩; rw [Q2.out]; dsimp only [askV, ptZero]; have hC2 := Lib.hid (bal (blw (below_drewN hC1.out _) hB2) (.cells #[.int .i64 0, .float .f64 0, .string ⟨#[]⟩] 27)); obtain ⟨d0, d1, d2⟩ := pcs (HR.out.below hC2.out) hlt HP.out; have hb2 := (HR.out.below hC2.out).lt)
              go_quiet (fail)
              go_wp2
              exact ⟨⟨k + 1, by omega, by go_num, Lib.hid (below_drewN hC2.out _)⟩, by simp [intOf]; omega⟩
        · have t1 : decide ((k : Int) < (L.length : Int)) = false := by simp; omega
          have t1' : decide (k < L.length) = false := by simp; omega
          go_wp2
          go_ret
          exact ⟨rfl, hC0.out⟩
  · go_enter Try.func8, Try.ntmps8
    go_wp2_with (first
      | (go_at_call 18; refine (awake18 _).mono ?_; rintro e w1 ⟨rfl, hB1⟩))
    go_ret
    exact ⟨rfl, hB1⟩
end Go.Proofs.Ytddnhjpclglclaa
