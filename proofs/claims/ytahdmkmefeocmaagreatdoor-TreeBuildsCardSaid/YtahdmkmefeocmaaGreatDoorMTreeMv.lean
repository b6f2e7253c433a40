/- Walk of TreeMoves. Printed by gen_moves.py. -/
import Derived.Test.YtahdmkmefeocmaaGreatDoorMDocN
import Derived.Test.YtahdmkmefeocmaaGreatDoorMTreeR
import Derived.Test.YtahdmkmefeocmaaGreatDoorMTreeK
namespace Go.Proofs.YtahdmkmefeocmaaGreatDoor
open Go.RowKit Go.Lib
open Go.ChangeMaps (setBlock)

theorem smallB_spec {L : List Dd} {most : Int} (h : smallB L most = true) : (L.length : Int) ≤ most ∧ ∀ d ∈ L, d.p.size ≤ 300 ∧ d.q.size ≤ 300 := by
  unfold smallB at h
  rw [Bool.and_eq_true, decide_eq_true_eq, List.all_eq_true] at h
  refine ⟨h.1, fun d hd => ?_⟩
  have := h.2 d hd
  rw [Bool.and_eq_true, decide_eq_true_eq, decide_eq_true_eq] at this
  exact this
theorem BP.new {w w1 : World} {tb mb : Nat} (hm : MLen w) (ht : TreeP w1 tb mb ⟨[], 1⟩) (h1 : w.heap.size ≤ tb) (h2 : w.heap.size ≤ mb) (hb : Below w.heap.size w w1) :
    BP (w1.alloc (.cells #[.slice none 0 0, .int .i64 1] 30)) tb mb w1.heap.size ⟨[], 1⟩ := by
  have hl := ht.lt
  have hg := hm.lt
  have hB : Below w1.heap.size w1 (w1.alloc (.cells #[.slice none 0 0, .int .i64 1] 30)) := (Below.refl _ _).alloc (Nat.le_refl _) _
  exact ⟨ht.below hB, DocP.mk2 (a := none) (c := 0) (heap_alloc_new w1 _) (Nat.le_refl _) (.inl rfl) (fun b o e => by cases e), TInv.new, (hm.below hb).below hB, hl.1, hl.2.1, by omega, by omega⟩
set_option maxRecDepth 100000 in
set_option maxHeartbeats 16000000 in
theorem treeMoves_walk (s0 : Option Addr) (c0 : Nat) (L : List Dd) (src dst : ByteArray) (w : World) (i0 : SlD w s0 L) (hc : L.length ≤ c0) (hcm : c0 ≤ maxLen) (_x1 : src.size ≤ maxLen) (_x2 : dst.size ≤ maxLen) (hm : MLen w) :
    Calls Tryz.prog 3 #[.slice s0 L.length c0, .string src, .string dst] w fun e w' => e = .returned (.bool true) ∧ Below w.heap.size w w' := by
  have HAw := Lib.hid (awake13 w hm)
  have HSm : Hid (∀ W, Below w.heap.size w W → Calls Tryz.prog 7 #[.slice s0 L.length c0, .int .i64 60] W fun e w' => e = .returned (.bool (smallB L 60)) ∧ w' = W) := fun W h => law13_small L s0 c0 60 W (i0.below h) hc (by unfold maxLen at hcm; omega) (by decide)
  have HS := Lib.hid i0
  have HM := Lib.hid hm
  have hgl := hm.lt
  cases hsm : smallB L 60
  · rw [hsm] at HSm
    clear i0 hm hsm
    go_enter Tryz.func3, Tryz.ntmps3
    go_wp2_with fail
    refine HAw.out.mono ?_
    rintro e w1 ⟨rfl, hB1⟩
    go_wp2_with fail
    with_reducible refine Calls.mono (HSm.out _ hB1) ?_
    rintro e w1 ⟨rfl, rfl⟩
    go_wp2
    go_ret
    exact ⟨rfl, hB1⟩
  · rw [hsm] at HSm
    obtain ⟨hL60, hsm2⟩ := smallB_spec hsm
    have HSz := Lib.hid hsm2
    clear i0 hm hsm hsm2
    by_cases hs1 : (src.size : Int) > 300
    · skip
      go_enter Tryz.func3, Tryz.ntmps3
      go_wp2_with fail
      refine HAw.out.mono ?_
      rintro e w1 ⟨rfl, hB1⟩
      go_wp2_with fail
      with_reducible refine Calls.mono (HSm.out _ hB1) ?_
      rintro e w1 ⟨rfl, rfl⟩
      go_wp2
      go_ret
      exact ⟨rfl, hB1⟩
    · by_cases hs2 : (dst.size : Int) > 300
      · skip
        go_enter Tryz.func3, Tryz.ntmps3
        go_wp2_with fail
        refine HAw.out.mono ?_
        rintro e w1 ⟨rfl, hB1⟩
        go_wp2_with fail
        with_reducible refine Calls.mono (HSm.out _ hB1) ?_
        rintro e w1 ⟨rfl, rfl⟩
        go_wp2
        go_ret
        exact ⟨rfl, hB1⟩
      · have hz1 : src.size ≤ 100000 := by omega
        have hz2 : dst.size ≤ 100000 := by omega
        have hz3 : src.size ≤ 300 := by omega
        have hz4 : dst.size ≤ 300 := by omega
        go_enter Tryz.func3, Tryz.ntmps3
        go_wp2_with fail
        refine HAw.out.mono ?_
        rintro e w1 ⟨rfl, hB1⟩
        go_wp2_with fail
        with_reducible refine Calls.mono (HSm.out _ hB1) ?_
        rintro e w1 ⟨rfl, rfl⟩
        have HNw := Lib.hid (tree_new w1)
        have HB1 := Lib.hid hB1
        clear hB1 HAw HSm
        go_wp2_with fail
        with_reducible refine Calls.mono HNw.out ?_
        rintro e w2 ⟨tb, mb, rfl, hT2, ht2, hm2, hB2⟩
        have hbp := BP.new (HM.out.below HB1.out) hT2 ht2 hm2 hB2
        have hB12 : Below w.heap.size w (w2.alloc (.cells #[.slice none 0 0, .int .i64 1] 30)) := (blw HB1.out hB2).alloc (blw HB1.out hB2).size _
        have HBp := Lib.hid hbp
        have HBw := Lib.hid hB12
        have hs12 := HB1.out.size
        have hs2' := hB2.size
        clear hbp hB12 hT2 hB2 HNw
        go_upto_region 6 with (fail)
        generalize w2.alloc (.cells #[.slice none 0 0, .int .i64 1] 30) = W at *
        generalize w2.heap.size = td at *
        go_wp2
        go_loopw [9] (fun i wr => ∃ (k : Nat) (T : TS), k ≤ L.length ∧ i = .int .i64 (k : Int) ∧ T.nx ≤ 1 + (k : Int) ∧ Hid (BP wr tb mb td T) ∧ Hid (Below w.heap.size w wr)) (fun i _ => L.length - (intOf i).toNat)
        case atStart => exact ⟨0, ⟨[], 1⟩, by omega, rfl, by decide, HBp, HBw⟩
        case round =>
          obtain ⟨k, T, hk, rfl, hnx, HBp, HBw⟩ := hrel
          by_cases hlt : k < L.length
          · obtain ⟨b, o, rfl, p0, p1, p2, p3⟩ := (HS.out.below HBw.out).at_ hlt
            have hki : (k : Int) < (L.length : Int) := by omega
            have hkc : (k : Int) < (c0 : Int) := by omega
            have hmem : L.getD k default ∈ L := by simp [List.getD, hlt]
            obtain ⟨hd1, hd2⟩ := HSz.out _ hmem
            have hdo := law13_do (L.getD k default) wr HBp.out hd1 hd2 (by omega)
            have hnx2 := deed_nx T (L.getD k default)
            have HDo := Lib.hid hdo
            generalize doS T (L.getD k default) = R at *
            obtain ⟨T', x, y⟩ := R
            generalize L.getD k default = d at *
            obtain ⟨da, dp, dq, dd⟩ := d
            dsimp only at p0 p1 p2 p3 hnx2 HDo
            clear hmem hdo hd1 hd2
            go_wp2_with fail
            with_reducible refine Calls.mono HDo.out ?_
            rintro e w3 ⟨rfl, hB3, hU3⟩
            have HB3 := Lib.hid hB3
            have HU3 := Lib.hid (hU3.below HBw.out (by intro x hx; simp at hx; omega))
            clear hB3 hU3
            go_wp2
            exact ⟨⟨k + 1, T', by omega, by go_num, by omega, HB3, HU3⟩, by simp [intOf]; omega⟩
          · obtain rfl : k = L.length := by omega
            have hlt' : decide ((L.length : Int) < (L.length : Int)) = false := by simp
            clear hlt
            go_upto_region 10 with (fail)
            have hren := tree_rename src dst wr hz1 hz2 HBp.out.t HBp.out.i HBp.out.m
            obtain ⟨x, hx⟩ : ∃ x, canRenS T.L src dst = x := ⟨_, rfl⟩
            by_cases hx0 : x = 0
            · subst hx0
              by_cases he : src = dst
              · subst he
                rw [ren_same hx rfl] at hren
                have hbq : (src.toList == src.toList) = true := by rw [beq_bytes]; simp
                have HRn := Lib.hid hren
                clear hren hx
                go_wp2_with fail
                with_reducible refine Calls.mono HRn.out ?_
                rintro e w3 ⟨rfl, _, hU3⟩
                have HF := Lib.hid (hU3.below HBw.out (by intro x hx; simp at hx; omega))
                clear hU3
                go_wp2
                go_ret
                exact ⟨rfl, HF.out⟩
              · have hgo := ren_go hx he
                have hbq : (src.toList == dst.toList) = false := by rw [beq_bytes]; exact decide_eq_false he
                cases hf : fnd dst T.L with
                | some m =>
                  have hm1 := HBp.out.i.ids m (fnd_some hf).1
                  have hgn : goneS T.L dst = m.id := by unfold goneS; rw [hf]
                  rw [hgo, hgn] at hren
                  have hge : m.id ≥ 0 := by omega
                  have HRn := Lib.hid hren
                  generalize m.id = mi at *
                  clear hren hx hgo hf hgn he hm1
                  go_wp2_with fail
                  with_reducible refine Calls.mono HRn.out ?_
                  rintro e w3 ⟨rfl, _, hU3⟩
                  have HF := Lib.hid (hU3.below HBw.out (by intro x hx; simp at hx; omega))
                  clear hU3
                  go_wp2
                  go_ret
                  exact ⟨rfl, HF.out⟩
                | none =>
                  have hgn : goneS T.L dst = -1 := by unfold goneS; rw [hf]
                  obtain ⟨hb1, hb2⟩ := there_back HBp.out.i hx he hf
                  have hI1 := HBp.out.i.ren src dst
                  rw [hgn] at hgo
                  have hr2 : (renS T src dst).2 = (-1, 0) := by rw [hgo]
                  obtain ⟨R, hR⟩ : ∃ R, renS T src dst = R := ⟨_, rfl⟩
                  rw [hR] at hren hb1 hb2 hI1 hr2
                  obtain ⟨T1, x1, y1⟩ := R
                  obtain ⟨rfl, rfl⟩ := Prod.mk.inj hr2
                  dsimp only at hren hb1 hb2 hI1
                  obtain ⟨R2, hR2⟩ : ∃ R2, renS T1 dst src = R2 := ⟨_, rfl⟩
                  have HR2 : Hid (∀ W, TreeP W tb mb T1 → MLen W → Calls Tryz.prog 10 #[.pointer (some ⟨tb, 0, none⟩), .string dst, .string src] W fun e w' => e = .returned (.tuple #[.int .i64 (renS T1 dst src).2.1, .int .i64 (renS T1 dst src).2.2]) ∧ TreeP w' tb mb (renS T1 dst src).1 ∧ Turn [tb, mb] W w') := fun W h1 h2 => tree_rename dst src W hz2 hz1 h1 hI1 h2
                  rw [hR2] at hb1 hb2 HR2
                  obtain ⟨T2, x2, y2⟩ := R2
                  dsimp only at hb1 hb2 HR2
                  subst hb1
                  subst hb2
                  have HRn := Lib.hid hren
                  have hg1 := HBp.out.g1
                  have hg2 := HBp.out.g2
                  clear hren hx hgo hf hgn he hI1 hR2 hr2 hR
                  go_wp2_with fail
                  with_reducible refine Calls.mono HRn.out ?_
                  rintro e w3 ⟨rfl, hT3, hU3⟩
                  have HM3 := Lib.hid (HBp.out.m.turn hU3 (by simp; omega))
                  have HT3 := Lib.hid hT3
                  have HU3 := Lib.hid hU3
                  clear hT3 hU3
                  go_wp2_with fail
                  with_reducible refine Calls.mono (HR2.out _ HT3.out HM3.out) ?_
                  rintro e w4 ⟨rfl, hT4, hU4⟩
                  have HU4 := Lib.hid (HU3.out.trans hU4)
                  have HB4 := Lib.hid (HBp.out.step hT4 HU4.out (HBp.out.doc HU4.out) (Turn.refl _ _) HBp.out.i)
                  have HF := Lib.hid (HU4.out.below HBw.out (by intro x hx; simp at hx; omega))
                  clear hT4 hU4 HU3 HT3 HM3
                  go_wp2_with fail
                  with_reducible refine Calls.mono (law13_same _ HB4.out) ?_
                  rintro e w5 ⟨rfl, hB5⟩
                  have HF5 := Lib.hid (blw HF.out hB5)
                  clear hB5
                  go_wp2
                  go_ret
                  exact ⟨rfl, HF5.out⟩
            · rw [ren_no hx hx0] at hren
              have hx1 : (x == 0) = false := by rw [beq_eq_false_iff_ne]; exact hx0
              have HRn := Lib.hid hren
              clear hren hx hx0
              go_wp2_with fail
              with_reducible refine Calls.mono HRn.out ?_
              rintro e w3 ⟨rfl, hT3, hU3⟩
              have HB4 := Lib.hid (HBp.out.step hT3 hU3 (HBp.out.doc hU3) (Turn.refl _ _) HBp.out.i)
              have HF := Lib.hid (hU3.below HBw.out (by intro x hx; simp at hx; omega))
              clear hT3 hU3
              go_wp2_with fail
              with_reducible refine Calls.mono (law13_same _ HB4.out) ?_
              rintro e w5 ⟨rfl, hB5⟩
              have HF5 := Lib.hid (blw HF.out hB5)
              clear hB5
              go_wp2
              go_ret
              exact ⟨rfl, HF5.out⟩
end Go.Proofs.YtahdmkmefeocmaaGreatDoor
