/- What the document's Keep answers, and SamePoints of a row and itself. -/
import Derived.Test.YtddnhjpclglclaaAwake19
namespace Go.Proofs.Ytddnhjpclglclaa
open Go.RowKit Fl
theorem own_heap {w w' : World} {base : Nat} {e : TypeId} {size : Nat} {v : Value} {n : Nat} {xs : List Value} (h : w.ownsRow base e size v n xs) (hh : w'.heap = w.heap) : w'.ownsRow base e size v n xs := by
  refine ⟨h.1, ?_⟩
  rw [hh]
  exact h.2
theorem heap_eq2 {W W' : World} (h : W'.heap = W.heap) {k : Nat} {o : Option Obj} (g : W.heap[k]? = o) : W'.heap[k]? = o := by rw [h]; exact g
set_option maxRecDepth 100000 in
set_option maxHeartbeats 2000000 in
theorem rsame_any (a : Option Addr) (ca : Nat) (a' : Option Addr) (ca' : Nat) (K : List Pt) (w : World) (hI : SlP w (.slice a K.length ca) K) (hJ : SlP w (.slice a' K.length ca') K) (hn : K.length < 9223372036854775807) :
    Calls Try.prog 41 #[.slice a K.length ca, .slice a' K.length ca'] w fun e w' => e = .returned (.bool true) ∧ Below w.heap.size w w' := by
  have hbits : ∀ b w, (callFunc 59 #[.float .f64 b]).run Try.prog w = .ok (.value (.int .u64 b)) w := ext_bits
  go_enter Try.func41, Try.ntmps41
  go_wp2
  go_loopw [5] (fun i wr => ∃ k : Nat, k ≤ K.length ∧ i = .int .i64 (k : Int) ∧ Hid (Below w.heap.size w wr)) (fun i _ => K.length - (intOf i).toNat)
  case atStart => exact ⟨0, by omega, rfl, Lib.hid (Below.refl _ _)⟩
  case round =>
    obtain ⟨k, hk, rfl, HC⟩ := hrel
    by_cases hlt : k < K.length
    · obtain ⟨b, o, rfl, hr⟩ : ∃ b off, a = some ⟨b, off, none⟩ ∧ RdP w b off K := by
        rcases hI with ⟨a', cap', e, rfl⟩ | ⟨b, off, cap', e, hr⟩
        · simp at hlt
        · exact ⟨b, off, (Value.slice.inj e).1, hr⟩
      obtain ⟨b', o', rfl, hr'⟩ : ∃ b off, a' = some ⟨b, off, none⟩ ∧ RdP w b off K := by
        rcases hJ with ⟨a', cap', e, rfl⟩ | ⟨b, off, cap', e, hr⟩
        · simp at hlt
        · exact ⟨b, off, (Value.slice.inj e).1, hr⟩
      generalize hP : K.getD k default = p
      obtain ⟨ps, pt, pm⟩ := p
      obtain ⟨c0, c1, c2⟩ := pcs (hr.below HC.out) hlt hP
      obtain ⟨d0, d1, d2⟩ := pcs (hr'.below HC.out) hlt hP
      have hl1 := (hr.below HC.out).lt
      have hl2 := (hr'.below HC.out).lt
      have hkl : (k : Int) < (K.length : Int) := by omega
      have hnx : IntKind.i64.wrap ((k : Int) + 1) = (k : Int) + 1 := IntWalk.i64_in _ (by omega)
      clear hP hr hr' hI hJ
      go_wp2
      go_quiet (fail)
      go_wp2
      exact ⟨⟨k + 1, by omega, by go_num, Lib.hid (below_drewN HC.out _)⟩, by simp [intOf]; omega⟩
    · have hlt' : decide ((k : Int) < (K.length : Int)) = false := decide_eq_false (by omega)
      go_wp2
      go_ret
      exact ⟨rfl, HC.out⟩
set_option maxRecDepth 100000 in
set_option maxHeartbeats 2000000 in
theorem rkeep_bad (a : Option Addr) (ca : Nat) (T : List Tr) (now : Nat) (s : Option Addr) (cap : Nat) (L : List Pt) (w : World) (hT : SlT w (.slice a T.length ca) T) (hI : SlP w (.slice s L.length cap) L) (hn : L.length ≤ 1000000) (hnow : now < 18446744073709551616)
    (hbad : polB T = false ∨ polB T = true ∧ (tmay now = false ∨ tmay now = true ∧ mayB L = false)) :
    Calls Try.prog 40 #[.slice a T.length ca, .float .f64 now, .slice s L.length cap] w fun e w' => ∃ v, e = .returned (.tuple #[v, .int .i64 (keepR T now L).2]) ∧ SlP w' v (keepR T now L).1 ∧ (∃ a cap, v = .slice a (keepR T now L).1.length cap ∧ (keepR T now L).1.length ≤ cap) ∧ Below w.heap.size w w' := by
  rcases hbad with h1 | ⟨h1, h2 | ⟨h2, h3⟩⟩
  · have HR := Lib.hid (show keepR T now L = ([], 16) by simp [keepR, h1])
    have H1 := Lib.hid h1
    clear h1
    go_enter Try.func40, Try.ntmps40
    go_wp2_with (first
      | (go_at_call 43; refine (rpol_any _ _ T _ hT).mono ?_; rintro e w1 ⟨rfl, hB1⟩; rw [H1.out]))
    go_ret2
    exact ⟨_, by rw [HR.out]; rfl, by rw [HR.out]; exact .inl ⟨_, _, rfl, rfl⟩, by rw [HR.out]; exact ⟨_, _, rfl, Nat.zero_le _⟩, hB1⟩
  · have HR := Lib.hid (show keepR T now L = ([], 1) by simp [keepR, h1, h2])
    have H1 := Lib.hid h1
    have H2 := Lib.hid h2
    clear h1 h2
    go_enter Try.func40, Try.ntmps40
    go_wp2_with (first
      | (go_at_call 43; refine (rpol_any _ _ T _ hT).mono ?_; rintro e w1 ⟨rfl, hB1⟩; rw [H1.out])
      | (go_at_call 46; refine (rmay_any _ hnow _).mono ?_; rintro e w' ⟨rfl, rfl⟩; rw [H2.out]))
    go_ret2
    exact ⟨_, by rw [HR.out]; rfl, by rw [HR.out]; exact .inl ⟨_, _, rfl, rfl⟩, by rw [HR.out]; exact ⟨_, _, rfl, Nat.zero_le _⟩, hB1⟩
  · have HR := Lib.hid (show keepR T now L = ([], 1) by simp [keepR, h1, h2, h3])
    have H1 := Lib.hid h1
    have H2 := Lib.hid h2
    have H3 := Lib.hid h3
    clear h1 h2 h3
    go_enter Try.func40, Try.ntmps40
    go_wp2_with (first
      | (go_at_call 43; refine (rpol_any _ _ T _ hT).mono ?_; rintro e w1 ⟨rfl, hB1⟩; rw [H1.out])
      | (go_at_call 46; refine (rmay_any _ hnow _).mono ?_; rintro e w' ⟨rfl, rfl⟩; rw [H2.out])
      | (go_at_call 19; refine (rpmay_sl _ _ L _ (hI.below hB1) (by omega)).mono ?_; rintro e w2 ⟨rfl, hB2⟩; rw [H3.out]))
    go_ret2
    exact ⟨_, by rw [HR.out]; rfl, by rw [HR.out]; exact .inl ⟨_, _, rfl, rfl⟩, by rw [HR.out]; exact ⟨_, _, rfl, Nat.zero_le _⟩, blw hB1 hB2⟩
set_option maxRecDepth 100000 in
set_option maxHeartbeats 8000000 in
theorem rkeep_good (a : Option Addr) (ca : Nat) (T : List Tr) (now : Nat) (s : Option Addr) (cap : Nat) (L : List Pt) (w : World) (hT : SlT w (.slice a T.length ca) T) (hI : SlP w (.slice s L.length cap) L) (hTn : T.length < 9223372036854775807) (hn : L.length ≤ 1000000) (hnow : now < 18446744073709551616)
    (h1 : polB T = true) (h2 : tmay now = true) (h3 : mayB L = true) :
    Calls Try.prog 40 #[.slice a T.length ca, .float .f64 now, .slice s L.length cap] w fun e w' => ∃ v, e = .returned (.tuple #[v, .int .i64 (keepR T now L).2]) ∧ SlP w' v (keepR T now L).1 ∧ (∃ a cap, v = .slice a (keepR T now L).1.length cap ∧ (keepR T now L).1.length ≤ cap) ∧ Below w.heap.size w w' := by
  have HR := Lib.hid (show keepR T now L = (kept T now L L.length, 0) by simp [keepR, h1, h2, h3])
  have H1 := Lib.hid h1
  have H2 := Lib.hid h2
  have H3 := Lib.hid h3
  clear h1 h2 h3
  obtain ⟨i0, hi, hz0, hz1, hz2⟩ := info_parts info_pt
  have hl1 : IntKind.i64.wrap ((L.length : Int) - 1) = (L.length : Int) - 1 := IntWalk.i64_in _ (by omega)
  go_enter Try.func40, Try.ntmps40
  go_wp2_with (first
    | (go_at_call 43; refine (rpol_any _ _ T _ hT).mono ?_; rintro e w1 ⟨rfl, hB1⟩; rw [H1.out])
    | (go_at_call 46; refine (rmay_any _ hnow _).mono ?_; rintro e w' ⟨rfl, rfl⟩; rw [H2.out])
    | (go_at_call 19; refine (rpmay_sl _ _ L _ (hI.below hB1) (by omega)).mono ?_; rintro e w2 ⟨rfl, hB2⟩; rw [H3.out]; have hCs := Lib.hid (blw hB1 hB2)))
  go_loopw [8, 9] (fun v i wr => ∃ k : Nat, k ≤ L.length ∧ i = .int .i64 (k : Int) ∧ Hid (wr.ownsRow w.heap.size 27 3 v (kept T now L k).length (cellsP (kept T now L k))) ∧ Hid (Below w.heap.size w wr)) (fun _ i _ => L.length - (intOf i).toNat)
  case atStart => exact ⟨0, by omega, rfl, Lib.hid (World.ownsRow_nil _ _ _ _), hCs⟩
  case round =>
    obtain ⟨k, hk, rfl, HO, HC0⟩ := hrel
    obtain ⟨wo, rfl⟩ : ∃ x, x = wr := ⟨wr, rfl⟩
    clear hCs
    by_cases hlt : k < L.length
    · have hT0 := hT
      obtain ⟨b, o, rfl, hr⟩ : ∃ b off, s = some ⟨b, off, none⟩ ∧ RdP w b off L := by
        rcases hI with ⟨a', cap', e, rfl⟩ | ⟨b, off, cap', e, hr⟩
        · simp at hlt
        · exact ⟨b, off, (Value.slice.inj e).1, hr⟩
      have wpt := (hr.fit k hlt).f
      have okp := ((mayB_true.1 H3.out).ok1 hlt)
      generalize hP : L.getD k default = p at wpt okp
      obtain ⟨ps, pt, pm⟩ := p
      dsimp only at wpt okp
      have tpt := okp.2.1
      dsimp only at tpt
      obtain ⟨c0, c1, c2⟩ := pcs (hr.below HC0.out) hlt hP
      have hbl := (hr.below HC0.out).lt
      have HP := Lib.hid hP
      have HRd := Lib.hid hr
      have hkl : (k : Int) < (L.length : Int) := by omega
      have hnx : IntKind.i64.wrap ((k : Int) + 1) = (k : Int) + 1 := IntWalk.i64_in _ (by omega)
      generalize hti : tix T now ⟨ps, pt, pm⟩ = ti
      have HTI : Hid (ofI T (ageOf now pt) = ti) := Lib.hid hti
      clear hP hr hI okp
      rcases ofI_is T (ageOf now pt) with ⟨hm1, _⟩ | ⟨m0, hm0, hm1, _⟩
      · have hti1 : ti = -1 := hti.symm.trans hm1
        have HS := Lib.hid (stay_none (T := T) (now := now) HP.out (hti.trans hti1))
        subst hti1
        clear hm1 hti
        go_wp2_with (first
          | (go_at_call 45; refine (rtier_any _ _ T now _ _ (hT0.below HC0.out) hTn hnow wpt).mono ?_; rintro e w' ⟨rfl, nt, rfl⟩; rw [HTI.out]))
        go_loopw [11, 12] (fun la j w2 => la = .bool true ∧ (∃ j' : Int, j = .int .i64 j') ∧ Hid (Below w.heap.size w w2) ∧ Hid (w2.heap = wo.heap)) (fun _ _ _ => 0)
        case atStart => exact ⟨rfl, ⟨_, rfl⟩, Lib.hid (below_drewN HC0.out _), Lib.hid rfl⟩
        case round =>
          obtain ⟨rfl, ⟨j', rfl⟩, HC2, HH⟩ := hrel
          obtain ⟨wi, rfl⟩ : ∃ x, x = wr := ⟨wr, rfl⟩
          clear c0 c1 c2 hbl
          obtain ⟨c0, c1, c2⟩ := pcs (HRd.out.below HC2.out) hlt HP.out
          have hbl := (HRd.out.below HC2.out).lt
          go_wp2_with (first
            | (at_builtin; refine wpList_append_own _ rfl (.tmp 101) (.tmp 106) 22 rfl w.heap.size 27 i0 _ 3 32 Try.underlying22 hi hz0 hz1 hz2 rfl (by decide) _ _ _ rfl ((own_heap HO.out HH.out).alloc _) ⟨wi.heap.size, 0, none⟩ 1 1 [.int .i64 ps, .float .f64 pt, .string pm] rfl rfl (three_new _ _ _ _ _ _ rfl) (by intro u hu; simp at hu; rcases hu with rfl | rfl | rfl <;> rfl) (by have := kept_le T now L k; unfold maxLen; omega) (by have := kept_le T now L k; omega) (by have := HC2.out.size; simp; omega) ?_; intro v' w1 hown' hgrow hnil; clear hnil; have HO1 := Lib.hid (kept_rel HP.out HS.out hown'); have HC1 := Lib.hid (grown_below (B := w.heap.size) (bal HC2.out _) (by have := HC2.out.size; simp; omega) ((own_heap HO.out HH.out).alloc _) hgrow); clear hown' hgrow))
          exact ⟨⟨k + 1, by omega, by go_num, HO1, HC1⟩, by simp [intOf]; omega⟩
      have hti1 : ti = (m0 : Int) := hti.symm.trans hm1
      subst hti1
      have hpol := (polB_true.1 H1.out).2 m0 hm0
      obtain ⟨tb, to, rfl, htr⟩ := hT.rd (by omega)
      generalize hg : T.getD m0 default = tg at hpol
      obtain ⟨ga, gg⟩ := tg
      have gok : NN gg ∧ 0 < key gg := by rw [polOk, hg] at hpol; exact ⟨hpol.2.1, hpol.2.2.1⟩
      have HG := Lib.hid hg
      have HTr := Lib.hid htr
      have hm00 : (0 : Int) ≤ (m0 : Int) := by omega
      have hm0l : (m0 : Int) < (T.length : Int) := by omega
      have HCL : Hid (∀ q : Pt, Fl.T q.st → clash T now ⟨ps, pt, pm⟩ q = (decide (ofI T (ageOf now q.st) = (m0 : Int)) && (FloatKind.f64.format.order (bk q.st gg) (bk pt gg) == some .eq))) := Lib.hid fun q hq => by
        unfold clash; rw [hti]; unfold tix; simp only [Int.toNat_natCast, hg]
        have n1 := bk_nn hq gok.1 gok.2
        have n2 := bk_nn tpt gok.1 gok.2
        rw [f_eql n1 n2, fsame_nn n2 n1]
        congr 1
        exact decide_eq_decide.2 ⟨fun h => h.symm, fun h => h.symm⟩
      have HTI0 := Lib.hid hti
      clear hpol hg hm1 hti htr
      go_wp2_with (first
        | (go_at_call 45; refine (rtier_any _ _ T now _ _ (hT0.below HC0.out) hTn hnow wpt).mono ?_; rintro e w' ⟨rfl, nt, rfl⟩; rw [HTI.out]))
      go_loopw [11, 12] (fun la j w2 => ∃ (m : Nat) (lb : Bool), k + 1 ≤ m ∧ m ≤ L.length ∧ j = .int .i64 (m : Int) ∧ la = .bool lb ∧ Hid ((lb = true ∧ ∀ q, k + 1 ≤ q → q < m → clash T now ⟨ps, pt, pm⟩ (L.getD q default) = false) ∨ (lb = false ∧ ∃ q, k + 1 ≤ q ∧ q < m ∧ clash T now ⟨ps, pt, pm⟩ (L.getD q default) = true)) ∧ Hid (Below w.heap.size w w2) ∧ Hid (w2.heap = wo.heap)) (fun _ j _ => L.length - (intOf j).toNat)
      case atStart => exact ⟨k + 1, true, by omega, by omega, by go_num, rfl, Lib.hid (.inl ⟨rfl, fun q h1 h2 => absurd h2 (by omega)⟩), Lib.hid (below_drewN HC0.out _), Lib.hid rfl⟩
      case round =>
        obtain ⟨m, lb, hm1, hm2, rfl, rfl, HL, HC2, HH⟩ := hrel
        obtain ⟨wi, rfl⟩ : ∃ x, x = wr := ⟨wr, rfl⟩
        clear c0 c1 c2 hbl
        obtain ⟨c0, c1, c2⟩ := pcs (HRd.out.below HC2.out) hlt HP.out
        have hbl := (HRd.out.below HC2.out).lt
        obtain ⟨t0, t1⟩ := trs (HTr.out.below HC2.out) hm0 HG.out
        have htl := (HTr.out.below HC2.out).lt
        dsimp only at t0 t1
        by_cases hml : m < L.length
        · have hmi : (m : Int) < (L.length : Int) := by omega
          have hmn : IntKind.i64.wrap ((m : Int) + 1) = (m : Int) + 1 := IntWalk.i64_in _ (by omega)
          have wqt := (HRd.out.fit _ hml).f
          have tqt := ((mayB_true.1 H3.out).ok1 hml).2.1
          generalize hQ : L.getD m default = q at wqt tqt
          obtain ⟨qs, qt, qm⟩ := q
          dsimp only at wqt tqt
          obtain ⟨y0, y1, y2⟩ := pcs (HRd.out.below HC2.out) hml hQ
          generalize htq : ofI T (ageOf now qt) = tq
          have hcl := HCL.out ⟨qs, qt, qm⟩ tqt
          dsimp only at hcl
          rw [htq] at hcl
          have HTQ := Lib.hid htq
          have HQ := Lib.hid hQ
          have HT2 := Lib.hid (hT0.below HC2.out)
          clear htq hQ
          by_cases e5 : tq = (m0 : Int)
          · have e5b : (tq == (m0 : Int)) = true := by simp [e5]
            cases e6 : (FloatKind.f64.format.order (bk qt gg) (bk pt gg) == some .eq)
            · have HK := Lib.hid (show clash T now ⟨ps, pt, pm⟩ ⟨qs, qt, qm⟩ = false from hcl.trans (by rw [decide_eq_true e5, e6]; rfl))
              clear hcl e5
              go_wp2
              go_quiet ((first
                | (go_at_call 45; refine Calls.mono (rtier_any _ _ T now _ _ (HT2.out.below (below_drewN (Below.refl _ _) _)) hTn hnow wqt) (fun e w' h => (⟨by rw [h.1, HTQ.out], _, h.2.choose_spec.trans (two_drewN _ _ _)⟩ : e = .returned (.int .i64 tq) ∧ ∃ m, w' = wi.drewN m)))
                | (go_at_call 61; refine Calls.quiet_of_same ((rbucket_T _ _ (by assumption) gok.1 gok.2 _).mono fun _ _ h => ⟨h.1, h.2.symm⟩))))
              go_wp2
              exact ⟨⟨m + 1, lb, by omega, by omega, by go_num, rfl, Lib.hid (by
                rcases HL.out with ⟨h1, h2⟩ | ⟨h1, q, h2, h3, h4⟩
                · exact .inl ⟨h1, fun q h3 h4 => by
                    by_cases e : q = m
                    · subst e; rw [HQ.out]; exact HK.out
                    · exact h2 q h3 (by omega)⟩
                · exact .inr ⟨h1, q, h2, by omega, h4⟩), Lib.hid (below_drewN HC2.out _), HH⟩, by simp [intOf]; omega⟩
            · have HK := Lib.hid (show clash T now ⟨ps, pt, pm⟩ ⟨qs, qt, qm⟩ = true from hcl.trans (by rw [decide_eq_true e5, e6]; rfl))
              clear hcl e5
              go_wp2
              go_quiet ((first
                | (go_at_call 45; refine Calls.mono (rtier_any _ _ T now _ _ (HT2.out.below (below_drewN (Below.refl _ _) _)) hTn hnow wqt) (fun e w' h => (⟨by rw [h.1, HTQ.out], _, h.2.choose_spec.trans (two_drewN _ _ _)⟩ : e = .returned (.int .i64 tq) ∧ ∃ m, w' = wi.drewN m)))
                | (go_at_call 61; refine Calls.quiet_of_same ((rbucket_T _ _ (by assumption) gok.1 gok.2 _).mono fun _ _ h => ⟨h.1, h.2.symm⟩))))
              go_wp2
              exact ⟨⟨m + 1, false, by omega, by omega, by go_num, rfl, Lib.hid (.inr ⟨rfl, m, hm1, by omega, by rw [HQ.out]; exact HK.out⟩), Lib.hid (below_drewN HC2.out _), HH⟩, by simp [intOf]; omega⟩
          · have e5b : (tq == (m0 : Int)) = false := by simp [e5]
            have HK := Lib.hid (show clash T now ⟨ps, pt, pm⟩ ⟨qs, qt, qm⟩ = false from hcl.trans (by rw [decide_eq_false e5]; rfl))
            clear hcl e5
            go_wp2
            go_quiet ((go_at_call 45; refine Calls.mono (rtier_any _ _ T now _ _ (HT2.out.below (below_drewN (Below.refl _ _) _)) hTn hnow wqt) (fun e w' h => (⟨by rw [h.1, HTQ.out], _, h.2.choose_spec.trans (two_drewN _ _ _)⟩ : e = .returned (.int .i64 tq) ∧ ∃ m, w' = wi.drewN m))))
            go_wp2
            exact ⟨⟨m + 1, lb, by omega, by omega, by go_num, rfl, Lib.hid (by
              rcases HL.out with ⟨h1, h2⟩ | ⟨h1, q, h2, h3, h4⟩
              · exact .inl ⟨h1, fun q h3 h4 => by
                  by_cases e : q = m
                  · subst e; rw [HQ.out]; exact HK.out
                  · exact h2 q h3 (by omega)⟩
              · exact .inr ⟨h1, q, h2, by omega, h4⟩), Lib.hid (below_drewN HC2.out _), HH⟩, by simp [intOf]; omega⟩
        · have hmi : decide ((m : Int) < (L.length : Int)) = false := decide_eq_false (by omega)
          obtain rfl : m = L.length := by omega
          rcases HL.out with ⟨rfl, hq⟩ | ⟨rfl, q, hq1, hq2, hq3⟩
          · have HS := Lib.hid (stay_free (T := T) (now := now) (i := k) HP.out (fun j h1 h2 => hq j h1 h2))
            clear hq
            go_wp2_with (first
              | (at_builtin; refine wpList_append_own _ rfl (.tmp 101) (.tmp 106) 22 rfl w.heap.size 27 i0 _ 3 32 Try.underlying22 hi hz0 hz1 hz2 rfl (by decide) _ _ _ rfl ((own_heap HO.out HH.out).alloc _) ⟨wi.heap.size, 0, none⟩ 1 1 [.int .i64 ps, .float .f64 pt, .string pm] rfl rfl (three_new _ _ _ _ _ _ rfl) (by intro u hu; simp at hu; rcases hu with rfl | rfl | rfl <;> rfl) (by have := kept_le T now L k; unfold maxLen; omega) (by have := kept_le T now L k; omega) (by have := HC2.out.size; simp; omega) ?_; intro v' w1 hown' hgrow hnil; clear hnil; have HO1 := Lib.hid (kept_rel HP.out HS.out hown'); have HC1 := Lib.hid (grown_below (B := w.heap.size) (bal HC2.out _) (by have := HC2.out.size; simp; omega) ((own_heap HO.out HH.out).alloc _) hgrow); clear hown' hgrow))
            exact ⟨⟨k + 1, by omega, by go_num, HO1, HC1⟩, by simp [intOf]; omega⟩
          · have e1b : ((k : Int) == (L.length : Int) - 1) = false := by simp; omega
            cases e2 : pm.toList.isEmpty
            · have HS := Lib.hid (stay_mark (T := T) (now := now) HP.out e2)
              clear hq3
              go_wp2_with (first
                | (at_builtin; refine wpList_append_own _ rfl (.tmp 101) (.tmp 106) 22 rfl w.heap.size 27 i0 _ 3 32 Try.underlying22 hi hz0 hz1 hz2 rfl (by decide) _ _ _ rfl ((own_heap HO.out HH.out).alloc _) ⟨wi.heap.size, 0, none⟩ 1 1 [.int .i64 ps, .float .f64 pt, .string pm] rfl rfl (three_new _ _ _ _ _ _ rfl) (by intro u hu; simp at hu; rcases hu with rfl | rfl | rfl <;> rfl) (by have := kept_le T now L k; unfold maxLen; omega) (by have := kept_le T now L k; omega) (by have := HC2.out.size; simp; omega) ?_; intro v' w1 hown' hgrow hnil; clear hnil; have HO1 := Lib.hid (kept_rel HP.out HS.out hown'); have HC1 := Lib.hid (grown_below (B := w.heap.size) (bal HC2.out _) (by have := HC2.out.size; simp; omega) ((own_heap HO.out HH.out).alloc _) hgrow); clear hown' hgrow))
              exact ⟨⟨k + 1, by omega, by go_num, HO1, HC1⟩, by simp [intOf]; omega⟩
            · have HS := Lib.hid (stay_not (T := T) (now := now) HP.out (by omega) e2 (by rw [HTI0.out]; omega) hq1 hq2 hq3)
              clear hq3
              go_wp2
              exact ⟨⟨k + 1, by omega, by go_num, by rw [kept_no HS.out]; exact Lib.hid (own_heap HO.out HH.out), HC2⟩, by simp [intOf]; omega⟩
    · have hlt' : decide ((k : Int) < (L.length : Int)) = false := decide_eq_false (by omega)
      obtain rfl : k = L.length := by omega
      have fitL : ∀ k, k < L.length → PFit (L.getD k default) := by
        rcases hI with ⟨a', cap', e, rfl⟩ | ⟨b, off, cap', e, hr⟩
        · intro k hk; simp at hk
        · exact hr.fit
      obtain ⟨hs, hv⟩ := sl_own HO.out (kept_fit fitL _ (Nat.le_refl _))
      have HS := Lib.hid hs
      have HV := Lib.hid hv
      clear hs hv
      go_wp2
      go_ret2
      exact ⟨_, by rw [HR.out]; rfl, by rw [HR.out]; exact HS.out, by rw [HR.out]; exact HV.out, HC0.out⟩
theorem rkeep_any (a : Option Addr) (ca : Nat) (T : List Tr) (now : Nat) (s : Option Addr) (cap : Nat) (L : List Pt) (w : World) (hT : SlT w (.slice a T.length ca) T) (hI : SlP w (.slice s L.length cap) L) (hTn : T.length < 9223372036854775807) (hn : L.length ≤ 1000000) (hnow : now < 18446744073709551616) :
    Calls Try.prog 40 #[.slice a T.length ca, .float .f64 now, .slice s L.length cap] w fun e w' => ∃ v, e = .returned (.tuple #[v, .int .i64 (keepR T now L).2]) ∧ SlP w' v (keepR T now L).1 ∧ (∃ a cap, v = .slice a (keepR T now L).1.length cap ∧ (keepR T now L).1.length ≤ cap) ∧ Below w.heap.size w w' := by
  cases h1 : polB T
  · exact rkeep_bad a ca T now s cap L w hT hI hn hnow (.inl h1)
  · cases h2 : tmay now
    · exact rkeep_bad a ca T now s cap L w hT hI hn hnow (.inr ⟨h1, .inl h2⟩)
    · cases h3 : mayB L
      · exact rkeep_bad a ca T now s cap L w hT hI hn hnow (.inr ⟨h1, .inr ⟨h2, h3⟩⟩)
      · exact rkeep_good a ca T now s cap L w hT hI hTn hn hnow h1 h2 h3
end Go.Proofs.Ytddnhjpclglclaa
