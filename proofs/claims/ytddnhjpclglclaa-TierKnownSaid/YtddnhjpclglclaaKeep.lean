/- What tier.Keep answers: its contract. -/
import Derived.Test.YtddnhjpclglclaaKeepL
import Derived.Test.YtddnhjpclglclaaPSeq
import Derived.Deep.LoopGhost
namespace Go.Proofs.Ytddnhjpclglclaa
open Go.RowKit Fl
theorem grown_below {B : Nat} {w W w1 : World} {v : Value} {e : TypeId} {size n : Nat} {xs : List Value} (hB : Below B w W) (hBW : B ≤ W.heap.size) (hown : W.ownsRow B e size v n xs) (hg : W.grownBy w1 v.ownBlock) : Below B w w1 :=
  hB.grown hg hBW fun k hk => (hown.lt k hk).1
set_option maxRecDepth 100000 in
set_option maxHeartbeats 4000000 in
theorem keep_bad (a : Option Addr) (ca : Nat) (T : List Tr) (now : Nat) (s : Option Addr) (cap : Nat) (L : List Pt) (w : World) (hT : SlT w (.slice a T.length ca) T) (hI : SlP w (.slice s L.length cap) L) (hTn : T.length < 9223372036854775807) (hn : L.length ≤ 1000000) (hnow : now < 18446744073709551616)
    (hbad : polB T = false ∨ polB T = true ∧ (tmay now = false ∨ tmay now = true ∧ mayB L = false)) :
    Calls Try.prog 39 #[.slice a T.length ca, .float .f64 now, .slice s L.length cap] w fun e w' => ∃ v, e = .returned (.tuple #[v, .int .i64 (keepR T now L).2]) ∧ SlP w' v (keepR T now L).1 ∧ (∃ a cap, v = .slice a (keepR T now L).1.length cap ∧ (keepR T now L).1.length ≤ cap) ∧ Below w.heap.size w w' := by
  rcases hbad with h1 | ⟨h1, h2 | ⟨h2, h3⟩⟩
  · have HR := Lib.hid (show keepR T now L = ([], 16) by simp [keepR, h1])
    have H1 := Lib.hid h1
    clear h1
    go_enter Try.func39, Try.ntmps39
    go_wp2
    go_step3
    go_wp2_with (first
      | (go_at_call 42; refine (tiermay_any _ _ T _ hT hTn).mono ?_; rintro e w1 ⟨rfl, hB1⟩; rw [H1.out]))
    try rw [Exit.noGoto_ret]
    go_ret2
    exact ⟨_, by rw [HR.out]; rfl, by rw [HR.out]; exact .inl ⟨_, _, rfl, rfl⟩, by rw [HR.out]; exact ⟨_, _, rfl, Nat.zero_le _⟩, hB1⟩
  · have HR := Lib.hid (show keepR T now L = ([], 1) by simp [keepR, h1, h2])
    have H1 := Lib.hid h1
    have H2 := Lib.hid h2
    clear h1 h2
    go_enter Try.func39, Try.ntmps39
    go_wp2
    go_step3
    go_wp2_with (first
      | (go_at_call 42; refine (tiermay_any _ _ T _ hT hTn).mono ?_; rintro e w1 ⟨rfl, hB1⟩; rw [H1.out])
      | (go_at_call 30; refine (may_any _ hnow _).mono ?_; rintro e w' ⟨rfl, rfl⟩; rw [H2.out]))
    try rw [Exit.noGoto_ret]
    go_ret2
    exact ⟨_, by rw [HR.out]; rfl, by rw [HR.out]; exact .inl ⟨_, _, rfl, rfl⟩, by rw [HR.out]; exact ⟨_, _, rfl, Nat.zero_le _⟩, hB1⟩
  · have HR := Lib.hid (show keepR T now L = ([], 1) by simp [keepR, h1, h2, h3])
    have H1 := Lib.hid h1
    have H2 := Lib.hid h2
    have H3 := Lib.hid h3
    clear h1 h2 h3
    go_enter Try.func39, Try.ntmps39
    go_wp2
    go_step3
    go_wp2_with (first
      | (go_at_call 42; refine (tiermay_any _ _ T _ hT hTn).mono ?_; rintro e w1 ⟨rfl, hB1⟩; rw [H1.out])
      | (go_at_call 30; refine (may_any _ hnow _).mono ?_; rintro e w' ⟨rfl, rfl⟩; rw [H2.out])
      | (go_at_call 22; refine (pmay_sl _ _ L _ (hI.below hB1) (by omega)).mono ?_; rintro e w2 ⟨rfl, hB2⟩; rw [H3.out]))
    try rw [Exit.noGoto_ret]
    go_ret2
    exact ⟨_, by rw [HR.out]; rfl, by rw [HR.out]; exact .inl ⟨_, _, rfl, rfl⟩, by rw [HR.out]; exact ⟨_, _, rfl, Nat.zero_le _⟩, blw hB1 hB2⟩
set_option maxRecDepth 100000 in
set_option maxHeartbeats 8000000 in
theorem keep_good (a : Option Addr) (ca : Nat) (T : List Tr) (now : Nat) (s : Option Addr) (cap : Nat) (L : List Pt) (w : World) (hT : SlT w (.slice a T.length ca) T) (hI : SlP w (.slice s L.length cap) L) (hcap : L.length ≤ cap) (hTn : T.length < 9223372036854775807) (hn : L.length ≤ 1000000) (hnow : now < 18446744073709551616)
    (h1 : polB T = true) (h2 : tmay now = true) (h3 : mayB L = true) :
    Calls Try.prog 39 #[.slice a T.length ca, .float .f64 now, .slice s L.length cap] w fun e w' => ∃ v, e = .returned (.tuple #[v, .int .i64 (keepR T now L).2]) ∧ SlP w' v (keepR T now L).1 ∧ (∃ a cap, v = .slice a (keepR T now L).1.length cap ∧ (keepR T now L).1.length ≤ cap) ∧ Below w.heap.size w w' := by
  have HR := Lib.hid (show keepR T now L = (kept T now L L.length, 0) by simp [keepR, h1, h2, h3])
  have H1 := Lib.hid h1
  have H2 := Lib.hid h2
  have H3 := Lib.hid h3
  clear h1 h2 h3
  obtain ⟨i0, hi, hz0, hz1, hz2⟩ := info_parts info_pt
  have hl1 : IntKind.i64.wrap ((L.length : Int) - 1) = (L.length : Int) - 1 := IntWalk.i64_in _ (by omega)
  go_enter Try.func39, Try.ntmps39
  go_wp2
  go_step3
  go_wp2_with (first
    | (go_at_call 42; refine (tiermay_any _ _ T _ hT hTn).mono ?_; rintro e w1 ⟨rfl, hB1⟩; rw [H1.out])
    | (go_at_call 30; refine (may_any _ hnow _).mono ?_; rintro e w' ⟨rfl, rfl⟩; rw [H2.out])
    | (go_at_call 22; refine (pmay_sl _ _ L _ (hI.below hB1) (by omega)).mono ?_; rintro e w2 ⟨rfl, hB2⟩; rw [H3.out]; have hCs := Lib.hid (blw hB1 hB2)))
  go_step3
  go_wp2
  go_loopg [8, 30] L.length (fun g v i wr => ∃ k : Nat, k + g = L.length ∧ i = .int .i64 (k : Int) ∧ Hid (wr.ownsRow w.heap.size 27 3 v (kept T now L k).length (cellsP (kept T now L k))) ∧ Hid (Below w.heap.size w wr))
  case atStart => exact ⟨0, by omega, rfl, Lib.hid (World.ownsRow_nil _ _ _ _), hCs⟩
  case round =>
    obtain ⟨k, hk, rfl, HO, HC0⟩ := hrel
    obtain ⟨wo, rfl⟩ : ∃ x, x = wr := ⟨wr, rfl⟩
    clear hCs
    by_cases hlt : k < L.length
    · have hT0 := hT
      obtain ⟨b, o, rfl, hr⟩ : ∃ b off, s = some ⟨b, off, none⟩ ∧ RdP w b off L := by
        rcases hI with ⟨a', cap', e, rfl⟩ | ⟨b, off, cap', e, hr⟩
        · simp at hlt
        · exact ⟨b, off, (Value.slice.inj e).1, hr⟩
      have wpt := (hr.fit k hlt).f
      have okp := ((mayB_true.1 H3.out).ok1 hlt)
      generalize hP : L.getD k default = p at wpt okp
      obtain ⟨ps, pt, pm⟩ := p
      dsimp only at wpt okp
      have tpt := okp.2.1
      dsimp only at tpt
      obtain ⟨c0, c1, c2⟩ := pcs (hr.below HC0.out) hlt hP
      have hbl := (hr.below HC0.out).lt
      have HP := Lib.hid hP
      have HRd := Lib.hid hr
      have hkl : (k : Int) < (L.length : Int) := by omega
      have hnx : IntKind.i64.wrap ((k : Int) + 1) = (k : Int) + 1 := IntWalk.i64_in _ (by omega)
      generalize hti : tix T now ⟨ps, pt, pm⟩ = ti
      have HTI : Hid (ofI T (ageOf now pt) = ti) := Lib.hid hti
      clear hP hr hI okp
      by_cases e1 : k + 1 = L.length
      · have HS := Lib.hid (stay_last (T := T) (now := now) e1)
        have e1b : ((k : Int) == (L.length : Int) - 1) = true := by simp; omega
        clear e1 hti
        go_wp2_with (first
          | (go_at_call 44; refine (tierof_any _ _ T now _ _ (hT0.below (bal HC0.out (.cells #[.int .i64 ps, .float .f64 pt, .string pm] 27))) hTn hnow wpt).mono ?_; rintro e w' ⟨rfl, rfl⟩; rw [HTI.out])
          | (at_builtin; refine wpList_append_own _ rfl (.tmp 54) (.tmp 56) 22 rfl w.heap.size 27 i0 _ 3 32 Try.underlying22 hi hz0 hz1 hz2 rfl (by decide) _ _ _ rfl ((HO.out.alloc (.cells #[.int .i64 ps, .float .f64 pt, .string pm] 27)).alloc _) ⟨wo.heap.size + 1, 0, none⟩ 1 1 [.int .i64 ps, .float .f64 pt, .string pm] rfl rfl (three_new _ _ _ _ _ _ (by simp)) (by intro u hu; simp at hu; rcases hu with rfl | rfl | rfl <;> rfl) (by have := kept_le T now L k; unfold maxLen; omega) (by have := kept_le T now L k; omega) (by have := HC0.out.size; simp; omega) ?_; intro v' w1 hown' hgrow hnil; clear hnil; have HO1 := Lib.hid (kept_rel HP.out HS.out hown'); have HC1 := Lib.hid (grown_below (B := w.heap.size) (bal (bal HC0.out (.cells #[.int .i64 ps, .float .f64 pt, .string pm] 27)) _) (by have := HC0.out.size; simp; omega) ((HO.out.alloc (.cells #[.int .i64 ps, .float .f64 pt, .string pm] 27)).alloc _) hgrow); clear hown' hgrow))
        go_roundg (L.length - (k + 1))
        case measure => omega
        case rel => exact ⟨k + 1, by omega, by first | rfl | go_num, HO1, HC1⟩
      have e1b : ((k : Int) == (L.length : Int) - 1) = false := by simp; omega
      cases e2 : pm.toList.isEmpty
      · have HS := Lib.hid (stay_mark (T := T) (now := now) HP.out e2)
        clear hti
        go_wp2_with (first
          | (go_at_call 44; refine (tierof_any _ _ T now _ _ (hT0.below (bal HC0.out (.cells #[.int .i64 ps, .float .f64 pt, .string pm] 27))) hTn hnow wpt).mono ?_; rintro e w' ⟨rfl, rfl⟩; rw [HTI.out])
          | (at_builtin; refine wpList_append_own _ rfl (.tmp 54) (.tmp 56) 22 rfl w.heap.size 27 i0 _ 3 32 Try.underlying22 hi hz0 hz1 hz2 rfl (by decide) _ _ _ rfl ((HO.out.alloc (.cells #[.int .i64 ps, .float .f64 pt, .string pm] 27)).alloc _) ⟨wo.heap.size + 1, 0, none⟩ 1 1 [.int .i64 ps, .float .f64 pt, .string pm] rfl rfl (three_new _ _ _ _ _ _ (by simp)) (by intro u hu; simp at hu; rcases hu with rfl | rfl | rfl <;> rfl) (by have := kept_le T now L k; unfold maxLen; omega) (by have := kept_le T now L k; omega) (by have := HC0.out.size; simp; omega) ?_; intro v' w1 hown' hgrow hnil; clear hnil; have HO1 := Lib.hid (kept_rel HP.out HS.out hown'); have HC1 := Lib.hid (grown_below (B := w.heap.size) (bal (bal HC0.out (.cells #[.int .i64 ps, .float .f64 pt, .string pm] 27)) _) (by have := HC0.out.size; simp; omega) ((HO.out.alloc (.cells #[.int .i64 ps, .float .f64 pt, .string pm] 27)).alloc _) hgrow); clear hown' hgrow))
        go_roundg (L.length - (k + 1))
        case measure => omega
        case rel => exact ⟨k + 1, by omega, by first | rfl | go_num, HO1, HC1⟩
      rcases ofI_is T (ageOf now pt) with ⟨hm1, _⟩ | ⟨m0, hm0, hm1, _⟩
      · have hti1 : ti = -1 := hti.symm.trans hm1
        have HS := Lib.hid (stay_none (T := T) (now := now) HP.out (hti.trans hti1))
        subst hti1
        clear hm1 hti
        go_wp2_with (first
          | (go_at_call 44; refine (tierof_any _ _ T now _ _ (hT0.below (bal HC0.out (.cells #[.int .i64 ps, .float .f64 pt, .string pm] 27))) hTn hnow wpt).mono ?_; rintro e w' ⟨rfl, rfl⟩; rw [HTI.out])
          | (at_builtin; refine wpList_append_own _ rfl (.tmp 54) (.tmp 56) 22 rfl w.heap.size 27 i0 _ 3 32 Try.underlying22 hi hz0 hz1 hz2 rfl (by decide) _ _ _ rfl ((HO.out.alloc (.cells #[.int .i64 ps, .float .f64 pt, .string pm] 27)).alloc _) ⟨wo.heap.size + 1, 0, none⟩ 1 1 [.int .i64 ps, .float .f64 pt, .string pm] rfl rfl (three_new _ _ _ _ _ _ (by simp)) (by intro u hu; simp at hu; rcases hu with rfl | rfl | rfl <;> rfl) (by have := kept_le T now L k; unfold maxLen; omega) (by have := kept_le T now L k; omega) (by have := HC0.out.size; simp; omega) ?_; intro v' w1 hown' hgrow hnil; clear hnil; have HO1 := Lib.hid (kept_rel HP.out HS.out hown'); have HC1 := Lib.hid (grown_below (B := w.heap.size) (bal (bal HC0.out (.cells #[.int .i64 ps, .float .f64 pt, .string pm] 27)) _) (by have := HC0.out.size; simp; omega) ((HO.out.alloc (.cells #[.int .i64 ps, .float .f64 pt, .string pm] 27)).alloc _) hgrow); clear hown' hgrow))
        go_roundg (L.length - (k + 1))
        case measure => omega
        case rel => exact ⟨k + 1, by omega, by first | rfl | go_num, HO1, HC1⟩
      have hti1 : ti = (m0 : Int) := hti.symm.trans hm1
      subst hti1
      have hpol := (polB_true.1 H1.out).2 m0 hm0
      obtain ⟨tb, to, rfl, htr⟩ := hT.rd (by omega)
      generalize hg : T.getD m0 default = tg at hpol
      obtain ⟨ga, gg⟩ := tg
      obtain ⟨t0, t1⟩ := trs (htr.below (bal HC0.out (.cells #[.int .i64 ps, .float .f64 pt, .string pm] 27))) hm0 hg
      have htl := (htr.below (bal HC0.out (.cells #[.int .i64 ps, .float .f64 pt, .string pm] 27))).lt
      have gok : NN gg ∧ 0 < key gg := by rw [polOk, hg] at hpol; exact ⟨hpol.2.1, hpol.2.2.1⟩
      have e3b : ((m0 : Int) == -1) = false := by simp
      have hm00 : (0 : Int) ≤ (m0 : Int) := by omega
      have hm0l : (m0 : Int) < (T.length : Int) := by omega
      have hk1l : k + 1 < L.length := by omega
      have hk1i : (k : Int) + 1 < (L.length : Int) := by omega
      have hk1n : ((k : Int) + 1).toNat = k + 1 := by omega
      have hcne : ¬ cap = k + 1 := by omega
      have HCL : Hid (∀ q : Pt, clash T now ⟨ps, pt, pm⟩ q = (decide (ofI T (ageOf now q.st) = (m0 : Int)) && fsame (bk pt gg) (bk q.st gg))) := Lib.hid fun q => by
        unfold clash; rw [hti]; unfold tix; simp only [Int.toNat_natCast, hg]
      have HTI0 := Lib.hid hti
      clear hpol hg hm1 hti htr
      dsimp only at t0 t1
      go_wp2_with (first
        | (go_at_call 44; refine (tierof_any _ _ T now _ _ (hT0.below (bal HC0.out (.cells #[.int .i64 ps, .float .f64 pt, .string pm] 27))) hTn hnow wpt).mono ?_; rintro e w' ⟨rfl, rfl⟩; rw [HTI.out]))
      go_loopg [68] (L.length - (k + 1)) (fun g2 j w2 => ∃ m : Nat, m + g2 = L.length - (k + 1) ∧ j = .int .i64 (m : Int) ∧ Hid (∀ q, k + 1 ≤ q → q < k + 1 + m → clash T now ⟨ps, pt, pm⟩ (L.getD q default) = false) ∧ Hid (Below (wo.alloc (.cells #[.int .i64 ps, .float .f64 pt, .string pm] 27)).heap.size (wo.alloc (.cells #[.int .i64 ps, .float .f64 pt, .string pm] 27)) w2))
      case atStart => exact ⟨0, by omega, rfl, Lib.hid fun q h1 h2 => absurd h2 (by omega), Lib.hid (Below.refl _ _)⟩
      case round =>
        obtain ⟨m, hm, rfl, HN, HB2⟩ := hrel
        obtain ⟨wi, rfl⟩ : ∃ x, x = wr := ⟨wr, rfl⟩
        have HC2 := Lib.hid (show Below w.heap.size w wi from blw (bal HC0.out (.cells #[.int .i64 ps, .float .f64 pt, .string pm] 27)) HB2.out)
        clear t0 t1 htl c0 c1 c2 hbl
        obtain ⟨x0, x1, x2, _⟩ := three_cells (keepB (World.alloc_heap_new wo (.cells #[.int .i64 ps, .float .f64 pt, .string pm] 27)) HB2.out)
        have hxl : wo.heap.size < wi.heap.size := by have := HB2.out.size; simp at this; omega
        by_cases hml : m < L.length - (k + 1)
        · have hjl : k + 1 + m < L.length := by omega
          have wqt := (HRd.out.fit _ hjl).f
          have tqt := ((mayB_true.1 H3.out).ok1 hjl).2.1
          generalize hQ : L.getD (k + 1 + m) default = q at wqt tqt
          obtain ⟨qs, qt, qm⟩ := q
          dsimp only at wqt tqt
          obtain ⟨y0, y1, y2⟩ := pcs (HRd.out.below HC2.out) hjl hQ
          have hyl := (HRd.out.below HC2.out).lt
          have ea : o + (k + 1) * 3 + m * 3 = o + (k + 1 + m) * 3 := by omega
          rw [← ea] at y0 y1 y2
          generalize htq : ofI T (ageOf now qt) = tq
          have hcl := HCL.out ⟨qs, qt, qm⟩
          dsimp only at hcl
          rw [htq] at hcl
          have HTQ := Lib.hid htq
          have HQ := Lib.hid hQ
          have HT2 := Lib.hid (hT0.below (bal HC2.out (.cells #[.int .i64 qs, .float .f64 qt, .string qm] 27)))
          have hmi : (m : Int) < ((L.length - (k + 1) : Nat) : Int) := by omega
          have hmn : IntKind.i64.wrap ((m : Int) + 1) = (m : Int) + 1 := IntWalk.i64_in _ (by omega)
          clear htq hQ ea
          by_cases e5 : tq = (m0 : Int)
          · have e5b : (tq == (m0 : Int)) = true := by simp [e5]
            cases e6 : fsame (bk pt gg) (bk qt gg)
            · skip
              have HSM := Lib.hid e6
              have HK := Lib.hid (show clash T now ⟨ps, pt, pm⟩ ⟨qs, qt, qm⟩ = false from hcl.trans (by rw [decide_eq_true e5, e6]; rfl))
              clear hcl e5
              clear e6
              go_wp2
              go_quiet ((first
                | (go_at_call 44; refine Calls.quiet_of_same (v := .int .i64 tq) ((tierof_any _ _ T now _ _ (HT2.out.below (below_drewN (Below.refl _ _) _)) hTn hnow wqt).mono fun e w' h => ⟨by rw [h.1, HTQ.out], h.2.symm⟩))
                | (go_at_call 24; refine Calls.quiet_of_same ((bucket_T _ _ (by assumption) gok.1 gok.2 _).mono fun _ _ h => ⟨h.1, h.2.symm⟩))
                | (go_at_call 31; refine Calls.quiet_of_same (v := .bool false) ((same_any _ _ _).mono fun _ _ h => ⟨by rw [h.1, HSM.out], h.2.symm⟩))))
              go_wp2
              go_roundg (gk - 1)
              case measure => omega
              case rel => exact ⟨m + 1, by omega, by first | rfl | go_num, Lib.hid fun q h1 h2 => by
                by_cases e : q = k + 1 + m
                · subst e; rw [HQ.out]; exact HK.out
                · exact HN.out q h1 (by omega), Lib.hid (below_drewN (bal HB2.out (.cells #[.int .i64 qs, .float .f64 qt, .string qm] 27)) _)⟩
            · skip
              have HSM := Lib.hid e6
              have HK := Lib.hid (show clash T now ⟨ps, pt, pm⟩ ⟨qs, qt, qm⟩ = true from hcl.trans (by rw [decide_eq_true e5, e6]; rfl))
              clear hcl e5
              clear e6
              go_wp2
              go_quiet ((first
                | (go_at_call 44; refine Calls.quiet_of_same (v := .int .i64 tq) ((tierof_any _ _ T now _ _ (HT2.out.below (below_drewN (Below.refl _ _) _)) hTn hnow wqt).mono fun e w' h => ⟨by rw [h.1, HTQ.out], h.2.symm⟩))
                | (go_at_call 24; refine Calls.quiet_of_same ((bucket_T _ _ (by assumption) gok.1 gok.2 _).mono fun _ _ h => ⟨h.1, h.2.symm⟩))
                | (go_at_call 31; refine Calls.quiet_of_same (v := .bool true) ((same_any _ _ _).mono fun _ _ h => ⟨by rw [h.1, HSM.out], h.2.symm⟩))))
              go_wp2
              go_roundg (L.length - (k + 1))
              case measure => omega
              case rel => exact ⟨k + 1, by omega, by first | rfl | go_num, by rw [kept_no (stay_not HP.out e1 e2 (by rw [HTI0.out]; omega) (by omega) hjl (by rw [HQ.out]; exact HK.out))]; exact Lib.hid (own_below (own_below (HO.out.alloc (.cells #[.int .i64 ps, .float .f64 pt, .string pm] 27)) HB2.out) (below_drewN (bal (Below.refl _ wi) (.cells #[.int .i64 qs, .float .f64 qt, .string qm] 27)) _)), Lib.hid (below_drewN (bal HC2.out (.cells #[.int .i64 qs, .float .f64 qt, .string qm] 27)) _)⟩
          · have e5b : (tq == (m0 : Int)) = false := by simp [e5]
            have HK := Lib.hid (show clash T now ⟨ps, pt, pm⟩ ⟨qs, qt, qm⟩ = false from hcl.trans (by rw [decide_eq_false e5]; rfl))
            clear hcl e5
            go_wp2
            go_quiet ((first
              | (go_at_call 44; refine Calls.quiet_of_same (v := .int .i64 tq) ((tierof_any _ _ T now _ _ (HT2.out.below (below_drewN (Below.refl _ _) _)) hTn hnow wqt).mono fun e w' h => ⟨by rw [h.1, HTQ.out], h.2.symm⟩))))
            go_wp2
            go_roundg (gk - 1)
            case measure => omega
            case rel => exact ⟨m + 1, by omega, by first | rfl | go_num, Lib.hid fun q h1 h2 => by
              by_cases e : q = k + 1 + m
              · subst e; rw [HQ.out]; exact HK.out
              · exact HN.out q h1 (by omega), Lib.hid (below_drewN (bal HB2.out (.cells #[.int .i64 qs, .float .f64 qt, .string qm] 27)) _)⟩
        · have hmi : decide ((m : Int) < ((L.length - (k + 1) : Nat) : Int)) = false := decide_eq_false (by omega)
          have HS := Lib.hid (stay_free (T := T) (now := now) (i := k) HP.out (fun j h1 h2 => HN.out j h1 (by omega)))
          go_wp2_with (first
            | (at_builtin; refine wpList_append_own _ rfl (.tmp 91) (.tmp 93) 22 rfl w.heap.size 27 i0 _ 3 32 Try.underlying22 hi hz0 hz1 hz2 rfl (by decide) _ _ _ rfl ((own_below (HO.out.alloc (.cells #[.int .i64 ps, .float .f64 pt, .string pm] 27)) HB2.out).alloc _) ⟨wi.heap.size, 0, none⟩ 1 1 [.int .i64 ps, .float .f64 pt, .string pm] rfl rfl (three_new _ _ _ _ _ _ (by simp)) (by intro u hu; simp at hu; rcases hu with rfl | rfl | rfl <;> rfl) (by have := kept_le T now L k; unfold maxLen; omega) (by have := kept_le T now L k; omega) (by have := HC2.out.size; simp; omega) ?_; intro v' w1 hown' hgrow hnil; clear hnil; have HO1 := Lib.hid (kept_rel HP.out HS.out hown'); have HC1 := Lib.hid (grown_below (B := w.heap.size) (bal HC2.out _) (by have := HC2.out.size; simp; omega) ((own_below (HO.out.alloc (.cells #[.int .i64 ps, .float .f64 pt, .string pm] 27)) HB2.out).alloc _) hgrow); clear hown' hgrow))
          go_roundg (L.length - (k + 1))
          case measure => omega
          case rel => exact ⟨k + 1, by omega, by first | rfl | go_num, HO1, HC1⟩
    · have hlt' : decide ((k : Int) < (L.length : Int)) = false := decide_eq_false (by omega)
      obtain rfl : k = L.length := by omega
      have fitL : ∀ k, k < L.length → PFit (L.getD k default) := by
        rcases hI with ⟨a', cap', e, rfl⟩ | ⟨b, off, cap', e, hr⟩
        · intro k hk; simp at hk
        · exact hr.fit
      obtain ⟨hs, hv⟩ := sl_own HO.out (kept_fit fitL _ (Nat.le_refl _))
      have HS := Lib.hid hs
      have HV := Lib.hid hv
      clear hs hv
      go_wp2
      try rw [Exit.noGoto_ret]
      go_ret2
      exact ⟨_, by rw [HR.out]; rfl, by rw [HR.out]; exact HS.out, by rw [HR.out]; exact HV.out, HC0.out⟩
end Go.Proofs.Ytddnhjpclglclaa
