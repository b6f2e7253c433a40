/- Trees in plain Lean: what Rename's loop leaves in the map. -/
import Derived.Test.YtiegadfhgccliaaGreatDoorMDocM
import Derived.Test.YtiegadfhgccliaaGreatDoorMDocD
import Derived.Deep.RegionLaw
import Derived.Deep.CutRange
import Derived.Maps.AppendAt
import Derived.Test.YtiegadfhgccliaaGreatDoorMTreeR
import Derived.Test.YtiegadfhgccliaaGreatDoorMTreeW2
namespace Go.Proofs.YtiegadfhgccliaaGreatDoor
open Go.RowKit Go.Lib
open Go.ChangeMaps (setBlock)

set_option maxRecDepth 100000 in
set_option maxHeartbeats 16000000 in
theorem doc_ren_loop (src dst : ByteArray) (w : World) (hs : src.size ≤ 100000) (hd : dst.size ≤ 100000) {td : Nat} {dx : DX} {T : TS} (hT : DocP dx w td T) (hI : TInv T) {X Y : List ByteArray} (hX : psplit src = some X) (hY : psplit dst = some Y) {n0 : Nd} (h0 : fnd src T.L = some n0) (hl : lookS (fnd · T.L) src = (n0.id, n0.dir, 0)) (hXn : X ≠ []) (hu : punder dst src = false) (ha : aheadS (fnd · T.L) Y = 0) (he : src ≠ dst) (hth : (Y.isEmpty || thereS T.L dst n0.dir) = false) :
    Calls Tryz.prog 77 #[.pointer (some ⟨td, 0, none⟩), .string src, .string dst] w fun e w' => e = .returned (.tuple #[.int .i64 (renS T src dst).2.1, .int .i64 (renS T src dst).2.2]) ∧ DocP dx w' td (renS T src dst).1 ∧ Turn [td] w w' := by
  have hcan := canRen_eq hX hY hl ha
  rw [if_pos rfl, if_neg (by simpa using hXn), hu, if_neg (by decide), if_pos rfl, if_neg he, hth, if_neg (by decide)] at hcan
  obtain ⟨R, hR⟩ : ∃ R, renS T src dst = R := ⟨_, rfl⟩
  have HBad : Hid ((T.L.filter (movesN src)).any (badN src dst) = true → R = (T, 0, 3)) := fun h => by
    rw [h, if_pos rfl] at hcan
    rw [← hR]; exact ren_no hcan (by decide)
  have HGood : Hid ((T.L.filter (movesN src)).any (badN src dst) = false → R = (⟨(movedK T src dst T.L.length).foldl (fun R n => insN n R) (restK T src dst T.L.length), T.nx⟩, goneS T.L dst, 0)) := fun h => by
    rw [h, if_neg (by decide)] at hcan
    rw [← hR]; exact ren_go hcan he
  rw [hR]
  have HSs := Lib.hid (ref_split src w (by unfold maxLen; omega))
  have HSd : Hid (∀ W, Below w.heap.size w W → Calls Tryz.prog 73 #[.string dst] W (RSplitAns W dst)) := fun W _ => ref_split dst W (by unfold maxLen; omega)
  have HX := Lib.hid hX
  have HY := Lib.hid hY
  have hfew := hI.few
  have hX8 := (psplit_ok hX).1.few
  have hY8 := (psplit_ok hY).1.few
  have HPY := Lib.hid (psplit_ok hY).1
  have htd := hT.lt
  have HLk : Hid (∀ W, Below w.heap.size w W → Calls Tryz.prog 46 #[.pointer (some ⟨td, 0, none⟩), .string src] W fun e w' => e = .returned (.tuple #[.int .i64 n0.id, .bool n0.dir, .int .i64 0]) ∧ Below W.heap.size W w') := fun W h => doc_look src W (by unfold maxLen; omega) (hT.below h) (by omega) hl
  have HUn : Hid (∀ W, Below w.heap.size w W → Calls Tryz.prog 105 #[.string dst, .string src] W fun e w' => e = .returned (.bool false) ∧ Below W.heap.size W w') := fun W _ => by
    have h := ref_under dst src W (by unfold maxLen; omega) (by unfold maxLen; omega)
    rw [hu] at h
    exact h
  have HUn2 : Hid (∀ (p : ByteArray) (W : World), p.size ≤ 1000 → Calls Tryz.prog 105 #[.string p, .string src] W fun e w' => e = .returned (.bool (punder p src)) ∧ Below W.heap.size W w') := fun p W hp => ref_under p src W (by unfold maxLen; omega) (by unfold maxLen; omega)
  have HSp2 : Hid (∀ (p : ByteArray) (W : World), p.size ≤ 1000 → Calls Tryz.prog 73 #[.string p] W (RSplitAns W p)) := fun p W hp => ref_split p W (by unfold maxLen; omega)
  have HAh : Hid (∀ W, Below w.heap.size w W → Calls Tryz.prog 103 #[.pointer (some ⟨td, 0, none⟩), .string dst] W fun e w' => e = .returned (.int .i64 0) ∧ Below W.heap.size W w') := fun W h => doc_ahead dst W (by unfold maxLen; omega) (hT.below h) (by omega) hY ha
  have HAt : Hid (∀ W, Below w.heap.size w W → Calls Tryz.prog 74 #[.pointer (some ⟨td, 0, none⟩), .string dst] W fun e w' => e = .returned (.int .i64 (atD T.L dst)) ∧ w' = W) := fun W h => doc_at dst W (hT.below h) (by omega)
  obtain ⟨at0, hat0⟩ : ∃ x, atD T.L dst = x := ⟨_, rfl⟩
  rw [hat0] at HAt
  have HAt0 := Lib.hid hat0
  have HPs := Lib.hid (path_size hI)
  have HMv : Hid (∀ n ∈ T.L, (decide (n.id = n0.id) || punder n.path src) = movesN src n) := fun n hn => doc_moves hI h0 hn
  have HSt : Hid (∀ n ∈ T.L, decide (n.id = goneS T.L dst) = decide (n.path = dst)) := fun n hn => doc_stays hI hn
  have HPa : Hid (∀ n ∈ T.L, ∃ Z, psplit n.path = some Z ∧ PathOk Z ∧ (movesN src n = true → X.length ≤ Z.length ∧ newPath src dst n.path = pjoin (Y ++ Z.drop X.length))) := fun n hn => by
    obtain ⟨Z, hZ, _, _⟩ := hI.path n hn
    exact ⟨Z, hZ, (psplit_ok hZ).1, fun hm => ⟨moves_long hX hZ rfl hm, newPath_eq hX hY hZ⟩⟩
  have HT := Lib.hid hT
  obtain ⟨i0, hi, hz0, hz1, hz2⟩ := info_parts info_rnd
  obtain ⟨i1, ki, kz0, kz1, kz2⟩ := info_parts info_str
  have hXl : ((X.length : Int) == 0) = false := by
    rw [beq_eq_false_iff_ne]
    have := List.length_pos_iff.2 hXn
    omega
  rw [Bool.or_eq_false_iff] at hth
  obtain ⟨hYe, hth⟩ := hth
  have hYl : ((Y.length : Int) == 0) = false := by
    rw [beq_eq_false_iff_ne]
    cases Y with
    | nil => cases hYe
    | cons a r => rw [List.length_cons]; omega
  have hroot : dst ≠ rootP := by
    intro e
    have := root_split hY
    rw [decide_eq_true e, hYe] at this
    cases this
  have hbq : (src.toList == dst.toList) = false := by rw [beq_bytes]; exact decide_eq_false he
  have HTh : Hid (∀ m, fnd dst T.L = some m → m.dir = false ∧ n0.dir = false) := fun m hm => by
    unfold thereS at hth
    rw [hm] at hth
    exact (Bool.or_eq_false_iff.1 hth)
  obtain ⟨sp, id0, sd⟩ := n0
  clear hT hl ha hI hX hY hXn hu he hth hYe h0 hcan hR hat0
  go_enter Tryz.func77, Tryz.ntmps77
  go_wp2_with fail
  refine HSs.out.mono ?_
  intro e w1 hr
  obtain ⟨a1, c1, rfl, hc1, hS1, hB1'⟩ := rsplitAns_some HX.out hr
  have HS1 := Lib.hid hS1
  clear hr hS1
  have hB1 := hB1'
  go_wp2_with fail
  with_reducible refine Calls.mono (HSd.out _ hB1) ?_
  intro e w2 hr
  obtain ⟨a2, c2, rfl, hc2, hS2, hB2'⟩ := rsplitAns_some HY.out hr
  have HS2 := Lib.hid hS2
  clear hr hS2
  have hB2 := blw hB1 hB2'
  go_wp2_with fail
  with_reducible refine Calls.mono (HLk.out _ hB2) ?_
  rintro e w3 ⟨rfl, hB3'⟩
  have hB3 := blw hB2 hB3'
  go_wp2_with fail
  with_reducible refine Calls.mono (HUn.out _ hB3) ?_
  rintro e w4 ⟨rfl, hB4'⟩
  have hB4 := blw hB3 hB4'
  go_wp2_with fail
  with_reducible refine Calls.mono (HAh.out _ hB4) ?_
  rintro e w5 ⟨rfl, hB5'⟩
  have hB5 := blw hB4 hB5'
  go_wp2_with fail
  refine (HAt.out _ hB5).mono ?_
  rintro e w5 ⟨rfl, rfl⟩
  have HB5 := Lib.hid hB5
  have HSX := Lib.hid (((((HS1.out.below hB2').below hB3').below hB4').below hB5'))
  have HSY := Lib.hid ((((HS2.out.below hB3').below hB4').below hB5'))
  have htd5 := Nat.lt_of_lt_of_le htd hB5.size
  clear HS1 HS2 hB1 hB1' hB2 hB2' hB3 hB3' hB4 hB4' hB5' hB5 HSs HSd HLk HUn HAh HAt
  go_upto_region 19 with (fail)
  go_cut [89] from 70 to 89 (fun bv wx => bv = .bool false ∧ Hid (Below w5.heap.size w5 wx))
  case first =>
    cases hf : fnd dst T.L with
    | none =>
      have hq9 : at0 = -1 := by rw [← HAt0.out]; exact atD_none hroot hf
      subst hq9
      clear hf hroot
      go_wp2
      go_meet
      case rel => exact ⟨rfl, Lib.hid (Below.refl _ _)⟩
    | some m =>
      obtain ⟨q, hq, hqa, hqd, _⟩ := atD_some hroot hf
      obtain ⟨hmd, hsd⟩ := HTh.out m hf
      have hq9 : at0 = (q : Int) := by rw [← HAt0.out]; exact hqa
      subst hq9
      obtain ⟨a0, c0, t1, t2, t3⟩ := (HT.out.below HB5.out).ex
      have ce : w5.cell? ⟨td, 0, none⟩ = some (.slice a0 T.L.length c0) := by unfold World.cell?; rw [t1]; rfl
      obtain ⟨b, o, rfl, _, _, p2, _⟩ := t3.at_ hq
      rw [hqd, hmd] at p2
      have hq1 : (q : Int) < (T.L.length : Int) := by omega
      have hq0 : (0 : Int) ≤ (q : Int) := Int.natCast_nonneg _
      have hqc : (q : Int) < (c0 : Int) := by omega
      have hsd : sd = false := hsd
      subst hsd
      clear t1 t3 hqa hqd hf hroot hmd
      go_wp2
      go_meet
      case rel => exact ⟨rfl, Lib.hid (Below.refl _ _)⟩
  case rest =>
    obtain ⟨rfl, HB6⟩ := hcut
    have HB56 := Lib.hid (blw HB5.out HB6.out)
    have hs56 := HB6.out.size
    generalize wc = w6 at *
    go_upto_if 91 with (fail)
    go_cut [15] from 92 to 99 (fun gv wx => gv = .int .i64 (goneS T.L dst) ∧ Hid (Below w5.heap.size w5 wx))
    case first =>
      cases hf : fnd dst T.L with
      | none =>
        have hgo : goneS T.L dst = -1 := by unfold goneS; rw [hf]
        have hq9 : at0 = -1 := by rw [← HAt0.out]; exact atD_none hroot hf
        subst hq9
        have HGo := Lib.hid hgo
        clear hf hroot hgo
        go_wp2
        go_meet
        case rel => exact ⟨by rw [HGo.out], HB6⟩
      | some m =>
        have hgo : goneS T.L dst = m.id := by unfold goneS; rw [hf]
        obtain ⟨q, hq, hqa, hqd, _⟩ := atD_some hroot hf
        have hq9 : at0 = (q : Int) := by rw [← HAt0.out]; exact hqa
        subst hq9
        obtain ⟨a0, c0, t1, t2, t3⟩ := (HT.out.below HB56.out).ex
        have ce : w6.cell? ⟨td, 0, none⟩ = some (.slice a0 T.L.length c0) := by unfold World.cell?; rw [t1]; rfl
        obtain ⟨b, o, rfl, _, p1, _⟩ := t3.at_ hq
        rw [hqd] at p1
        have hq1 : (q : Int) < (T.L.length : Int) := by omega
        have hq0 : (0 : Int) ≤ (q : Int) := Int.natCast_nonneg _
        have hqc : (q : Int) < (c0 : Int) := by omega
        have HGo := Lib.hid hgo
        obtain ⟨mp, mi, md⟩ := m
        dsimp only at p1
        clear t1 t3 hqa hqd hf hroot hgo
        go_wp2
        go_meet
        case rel => exact ⟨by rw [HGo.out], HB6⟩
    case rest =>
      obtain ⟨rfl, HB7⟩ := hcut
      have HB57 := Lib.hid (blw HB5.out HB7.out)
      have hs57 := HB7.out.size
      clear HB6 HB56 hs56 HTh hroot
      generalize wc = w7 at *
      generalize hgn : goneS T.L dst = gn at *
      go_wp2
      go_loopw [17, 18, 19] (fun mv rv i wr => ∃ (k : Nat) (mv0 rv0 : Value), k ≤ T.L.length ∧ mv = mv0 ∧ rv = rv0 ∧ i = .int .i64 (k : Int) ∧ Hid (wr.ownsRow w5.heap.size 114 3 mv0 (movedK T src dst k).length (cellsN (movedK T src dst k))) ∧ Hid (wr.ownsRow w5.heap.size 114 3 rv0 (restK T src dst k).length (cellsN (restK T src dst k))) ∧ Hid (∀ b, mv0.ownBlock = some b → rv0.ownBlock ≠ some b) ∧ Hid (Below w5.heap.size w5 wr) ∧ Hid (∀ j, j < k → movesN src (T.L.getD j default) = true → badN src dst (T.L.getD j default) = false)) (fun _ _ i _ => T.L.length - (intOf i).toNat)
      case atStart => exact ⟨0, _, _, by omega, rfl, rfl, rfl, Lib.hid (World.ownsRow_nil _ _ _ _), Lib.hid (World.ownsRow_nil _ _ _ _), Lib.hid (fun b h => by cases h), HB7, Lib.hid fun j hj => by omega⟩
      case round =>
        obtain ⟨k, mv0, rv0, hk, hmv, hrv, rfl, HOm, HOr, HNe, HB, HF⟩ := hrel
        have hmv' := hmv.symm
        subst hmv'
        have hrv' := hrv.symm
        subst hrv'
        have hml := movedK_len T src dst k
        have hrl := restK_len T src dst k
        have hsB := HB.out.size
        by_cases hlt : k < T.L.length
        · obtain ⟨a0, c0, t1, t2, t3⟩ := (HT.out.below (blw HB5.out HB.out)).ex
          have ce : wr.cell? ⟨td, 0, none⟩ = some (.slice a0 T.L.length c0) := by unfold World.cell?; rw [t1]; rfl
          obtain ⟨b, o, rfl, p0, p1, p2, hbl⟩ := t3.at_ hlt
          have hki : (k : Int) < (T.L.length : Int) := by omega
          have hkc : (k : Int) < (c0 : Int) := by omega
          have hmem : T.L.getD k default ∈ T.L := by simp [List.getD, hlt]
          have hpsz := HPs.out _ hmem
          have hmvk := HMv.out _ hmem
          have hstk := HSt.out _ hmem
          obtain ⟨Z, hZ, hZok, hZm⟩ := HPa.out _ hmem
          have HMs := Lib.hid (movedK_succ T src dst hlt)
          have HRs := Lib.hid (restK_succ T src dst hlt)
          generalize hnd : T.L.getD k default = n at *
          have HNd := Lib.hid hnd
          have HMem := Lib.hid hmem
          obtain ⟨np, ni, nd⟩ := n
          dsimp only at p0 p1 p2 hpsz hmvk hstk hZ hZm
          have HZ := Lib.hid hZ
          have HZm := Lib.hid hZm
          have HZok := Lib.hid hZok
          have hZ8 := hZok.few
          clear hmem hnd t1 t3 hZ hZm hZok
          generalize hmb : movesN src ⟨np, ni, nd⟩ = mb at *
          have HMb := Lib.hid hmb
          clear hmb
          go_upto_region 28 with (fail)
          go_cut [125] from 100 to 160 (fun bv wx => bv = .bool mb ∧ Hid (Below wr.heap.size wr wx) ∧ Hid (wx.heap[wr.heap.size]? = some (.cells #[.string np, .int .i64 ni, .bool nd] 114 (0, 0))))
          case first =>
            have hbx := heap_alloc_new wr (.cells #[.string np, .int .i64 ni, .bool nd] 114)
            have HBx := Lib.hid hbx
            clear hbx
            by_cases hq : ni = id0
            · have hmt : mb = true := by rw [← hmvk, decide_eq_true hq]; rfl
              have hq1 : (ni == id0) = true := by simpa using hq
              clear hmvk hq
              subst hmt
              go_wp2
              go_meet
              case rel => exact ⟨rfl, Lib.hid ((Below.refl _ _).alloc (Nat.le_refl _) _), HBx⟩
            · have hmt : punder np src = mb := by rw [← hmvk, decide_eq_false hq]; rfl
              have hq1 : (ni == id0) = false := by rw [beq_eq_false_iff_ne]; exact hq
              clear hmvk hq
              go_wp2_with fail
              with_reducible refine Calls.mono (HUn2.out np _ (by omega)) ?_
              rintro e w8 ⟨rfl, hB8⟩
              have HB8 : Hid (Below wr.heap.size wr w8) := Lib.hid (((Below.refl _ _).alloc (Nat.le_refl _) _).trans (hB8.mono (by simp)))
              have HBx8 := Lib.hid ((hB8.block wr.heap.size (by simp)).trans HBx.out)
              rw [hmt]
              clear hB8 HBx
              go_wp2
              go_meet
              case rel => exact ⟨rfl, HB8, HBx8⟩
          case rest =>
            obtain ⟨rfl, HB8, HBx⟩ := hcut
            generalize wc = W at *
            obtain ⟨n0, n1, n2, _⟩ := b3_cells HBx.out
            have HBW := Lib.hid (HB.out.trans (HB8.out.mono HB.out.size))
            have hsW := HBW.out.size
            have hsW8 := HB8.out.size
            have hbxW : wr.heap.size < W.heap.size := (Array.getElem?_eq_some_iff.1 HBx.out).1
            have HOmW := Lib.hid (own_below_any HOm.out HB8.out)
            have HOrW := Lib.hid (own_below_any HOr.out HB8.out)
            have HKp : Hid (keptN src dst ⟨np, ni, nd⟩ = (!mb && !(decide (np = dst)))) := by unfold keptN; rw [HMb.out]; exact Lib.hid rfl
            clear ce p0 p1 p2 hmvk
            cases mb
            · have HMs2 : Hid (movedK T src dst (k + 1) = movedK T src dst k) := Lib.hid (by rw [HMs.out]; simp)
              have HF2 : Hid (∀ j, j < k + 1 → movesN src (T.L.getD j default) = true → badN src dst (T.L.getD j default) = false) := fun j hj hm => by
                by_cases e : j = k
                · subst e; rw [HNd.out, HMb.out] at hm; cases hm
                · exact HF.out j (by omega) hm
              by_cases hpd : np = dst
              · have hg1 : (ni != gn) = false := by
                  have : ni = gn := by simpa [hpd] using hstk
                  simpa using this
                have HRs2 : Hid (restK T src dst (k + 1) = restK T src dst k) := Lib.hid (by rw [HRs.out, HKp.out, decide_eq_true hpd]; simp)
                clear hstk hpd HF HMs HRs HKp
                go_wp2
                exact ⟨⟨k + 1, mv0, rv0, by omega, rfl, rfl, by go_num, by rw [HMs2.out]; exact HOmW, by rw [HRs2.out]; exact HOrW, HNe, HBW, HF2⟩, by simp [intOf]; omega⟩
              · have hg1 : (ni != gn) = true := by
                  have : ni ≠ gn := by simpa [hpd] using hstk
                  simpa using this
                have HRs2 : Hid (restK T src dst (k + 1) = restK T src dst k ++ [⟨np, ni, nd⟩]) := Lib.hid (by rw [HRs.out, HKp.out, decide_eq_false hpd]; simp)
                clear hstk hpd HF HMs HRs HKp
                go_wp2_with (at_builtin; refine wpList_append_own_at _ rfl (.tmp 157) (.tmp 159) 61 rfl w5.heap.size 114 i0 _ 3 32 Tryz.underlying61 hi hz0 hz1 hz2 rfl (by decide) _ _ _ rfl (HOrW.out.alloc _) ⟨W.heap.size, 0, none⟩ 1 1 [.string np, .int .i64 ni, .bool nd] rfl rfl (new3b _ _ _ _ _ _ rfl) (by intro u hu; simp at hu; rcases hu with rfl | rfl | rfl <;> rfl) (by unfold maxLen; omega) (by omega) (by simp; omega) ?_; intro v' w9 hown' hgrow hnil hat; clear hnil; have HO2 := Lib.hid hown'; have HG := Lib.hid hgrow; have HA := Lib.hid hat; clear hown' hgrow hat)
                have HNe9 : Hid (∀ b, mv0.ownBlock = some b → v'.ownBlock ≠ some b) := fun b hb hb2 => by
                  rcases HA.out with e | e
                  · exact HNe.out b hb (e.symm.trans hb2)
                  · have h1 := (HOmW.out.lt b hb).2
                    rw [e] at hb2
                    simp at hb2
                    omega
                exact ⟨⟨k + 1, mv0, v', by omega, rfl, rfl, by go_num, by rw [HMs2.out]; exact Lib.hid (own_other (HOmW.out.alloc _) HG.out HNe.out), by rw [HRs2.out, cellsN_snoc, List.length_append, List.length_singleton]; exact HO2, HNe9, Lib.hid (grown_below (HBW.out.alloc HBW.out.size _) (by simp; omega) (HOrW.out.alloc _) HG.out), HF2⟩, by simp [intOf]; omega⟩
            · have HRs2 : Hid (restK T src dst (k + 1) = restK T src dst k) := Lib.hid (by rw [HRs.out, HKp.out]; simp)
              obtain ⟨hXZ, hnew⟩ := HZm.out rfl
              have HNw := Lib.hid hnew
              have HNs := Lib.hid (new_small (X := X) HPY.out HZok.out)
              clear hnew HKp HRs hstk HZm
              obtain ⟨L4, hL4⟩ : ∃ L4, Y ++ Z.drop X.length = L4 := ⟨_, rfl⟩
              have HL4 := Lib.hid hL4
              rw [hL4] at HNw HNs
              clear hL4
              go_wp2_with fail
              with_reducible refine Calls.mono (HSp2.out np _ (by omega)) ?_
              intro e W9 hr
              obtain ⟨a3, c3, rfl, hc3, hS3, hB9⟩ := rsplitAns_some HZ.out hr
              have HS9 := Lib.hid hS3
              have HB9 := Lib.hid hB9
              clear hr hS3 hB9 n0 n1 n2
              have HBx9 := Lib.hid ((HB9.out.block wr.heap.size hbxW).trans HBx.out)
              have HSY9 := Lib.hid (HSY.out.below (HBW.out.trans (HB9.out.mono hsW)))
              obtain ⟨n0, n1, n2, nf⟩ := b3_cells HBx9.out
              have f0 := nf 0
              clear nf
              have hbx9 : wr.heap.size < W9.heap.size := Nat.lt_of_lt_of_le hbxW HB9.out.size
              have y0 : ((X.length : Nat) : Int) ≤ (Z.length : Int) := by omega
              have y1 : ((X.length : Nat) : Int) ≤ (c3 : Int) := by omega
              have y2 : (0 : Int) ≤ ((X.length : Nat) : Int) := Int.natCast_nonneg _
              have HLY : Hid ((Y.map Value.string).length = Y.length * 1) := Lib.hid (by simp)
              have HLZ : Hid (((Z.drop X.length).map Value.string).length = (Z.length - X.length) * 1) := Lib.hid (by simp)
              go_upto_region 30 with (fail)
              go_region_law (first | (refine step_append_any (by rfl) _ _ _ (by rfl) (W9.heap.size) 9 i1 _ 1 16 Tryz.underlying95 ki kz0 kz1 kz2 rfl (by omega) (.slice none 0 0) (0) ([]) (by rfl) (World.ownsRow_nil _ _ _ _) a2 (Y.length) (c2) (Y.map Value.string) (by rfl) (HLY.out) (by first | exact sls_news (w := W9) HSY9.out | exact sls_news (HSY9.out.below (below_drewN (Below.refl _ _) 1))) (ones_str _) (by unfold maxLen; omega) (by omega) (by first | exact Nat.le_refl _ | omega | (simp; done) | (simp; omega)) ?_; intro v1 w10 ho1 hg1 hat1; rw [Nat.zero_add, List.nil_append] at ho1; have HO1 := Lib.hid ho1; have HB10 : Hid (Below W9.heap.size W9 w10) := Lib.hid (grown_below (B := W9.heap.size) (w := W9) (by first | exact Below.refl _ _ | exact below_drewN' (Below.refl _ _) 1) (by first | exact Nat.le_refl _ | (simp; done)) (World.ownsRow_nil _ _ 9 1) hg1); have hs10 := HB10.out.size; clear ho1 hg1 hat1) | (refine step_append_any (by rfl) _ _ _ (by rfl) (W9.heap.size) 9 i1 _ 1 16 Tryz.underlying95 ki kz0 kz1 kz2 rfl (by omega) v1 (Y.length) (Y.map Value.string) (by rfl) (HO1.out) _ (Z.length - X.length) (c3 - X.length) ((Z.drop X.length).map Value.string) (by rfl) (HLZ.out) (by exact sls_drop_news (HS9.out.below HB10.out) hc3) (ones_str _) (by unfold maxLen; omega) (by omega) (by first | exact Nat.le_refl _ | omega | (simp; done) | (simp; omega)) ?_; intro v2 w11 ho2 hg2 hat2; have HB11 : Hid (Below W9.heap.size W9 w11) := Lib.hid (grown_below (B := W9.heap.size) (w := W9) HB10.out (by omega) HO1.out hg2); obtain ⟨a4, c4, rfl, hc4, hS4⟩ := SlS.own (L := L4) (by rw [← HL4.out, List.map_append, List.length_append, List.length_drop]; exact ho2); have HS4 := Lib.hid hS4; have HBx11 := Lib.hid ((HB11.out.block wr.heap.size hbx9).trans HBx9.out); have g0 : w11.cell? ⟨wr.heap.size, 0, none⟩ = some (.string np) := (b3_cells HBx11.out).1; have fg0 : w11.frozen? ⟨wr.heap.size, 0, none⟩ = false := (b3_cells HBx11.out).2.2.2 0; clear ho2 hg2 hat2 hS4) | (go_simp; go_at_call 75; with_reducible refine Calls.mono (ref_join L4 a4 c4 w11 HS4.out hc4 (by have := HNs.out.2.1; omega) (by have := HNs.out.1; omega)) ?_; rintro e w11 ⟨rfl, rfl⟩))
              have HBq : Hid (Below wr.heap.size wr (w11.setCell ⟨wr.heap.size, 0, none⟩ (.string (pjoin L4)))) := Lib.hid (((Turn.refl [wr.heap.size] w11).setCell (p := ⟨wr.heap.size, 0, none⟩) (.inl (by simp)) _).below (HB8.out.trans ((HB9.out.trans (HB11.out.mono HB9.out.size)).mono hsW8)) (by simp))
              have HBx12 : Hid ((w11.setCell ⟨wr.heap.size, 0, none⟩ (.string (pjoin L4))).heap[wr.heap.size]? = some (.cells #[.string (pjoin L4), .int .i64 ni, .bool nd] 114 (0, 0))) := Lib.hid (heap_setCell_at HBx11.out 0 _)
              clear HBx11 g0 fg0 n0 n1 n2 f0 HB11 HS4 HB10 HO1 hs10 HBx9 HBx HSY9 HS9 HB9 HB8 HBW HOmW HOrW hbx9 hbxW HLY HLZ y0 y1
              generalize w11.setCell ⟨wr.heap.size, 0, none⟩ (.string (pjoin L4)) = Wq at *
              generalize pjoin L4 = newp at *
              obtain ⟨n0, n1, n2, _⟩ := b3_cells HBx12.out
              have hnsz := HNs.out.2.2
              have hbxq : wr.heap.size < Wq.heap.size := (Array.getElem?_eq_some_iff.1 HBx12.out).1
              go_wp2_with fail
              all_goals
                with_reducible refine Calls.mono (HSp2.out newp _ (by omega)) ?_
                intro e W12 hr
                cases hsp : psplit newp with
                | none =>
                  obtain ⟨rfl, hB12⟩ := rsplitAns_none hsp hr
                  have hbad : (T.L.filter (movesN src)).any (badN src dst) = true := List.any_eq_true.2 ⟨⟨np, ni, nd⟩, List.mem_filter.2 ⟨HMem.out, HMb.out⟩, by unfold badN; rw [HNw.out, hsp]; rfl⟩
                  have HRb := Lib.hid (HBad.out hbad)
                  have HBf := Lib.hid (blw HB5.out (HB.out.trans ((HBq.out.trans (hB12.mono HBq.out.size)).mono hsB)))
                  clear hr hB12 hsp hbad HBx12 n0 n1 n2
                  go_wp2
                  go_ret2
                  have hR := HRb.out
                  subst hR
                  exact ⟨rfl, HT.out.below HBf.out, .of_below HBf.out⟩
                | some Q =>
                  obtain ⟨a6, c6, rfl, _, _, hB12⟩ := rsplitAns_some hsp hr
                  have HF2 : Hid (∀ j, j < k + 1 → movesN src (T.L.getD j default) = true → badN src dst (T.L.getD j default) = false) := fun j hj hm => by
                    by_cases e : j = k
                    · subst e; rw [HNd.out]; unfold badN; rw [HNw.out, hsp]; rfl
                    · exact HF.out j (by omega) hm
                  have HMs2 : Hid (movedK T src dst (k + 1) = movedK T src dst k ++ [⟨newp, ni, nd⟩]) := Lib.hid (by rw [HMs.out, ← HNw.out]; simp [moveN])
                  have HBr12 := Lib.hid (HBq.out.trans (hB12.mono HBq.out.size))
                  have hs12 := HBr12.out.size
                  have HOm12 := Lib.hid (own_below_any HOm.out HBr12.out)
                  have HOr12 := Lib.hid (own_below_any HOr.out HBr12.out)
                  have HB512 := Lib.hid (HB.out.trans (HBr12.out.mono hsB))
                  have HBx13 := Lib.hid ((hB12.block wr.heap.size hbxq).trans HBx12.out)
                  have hbx13 := Nat.lt_of_lt_of_le hbxq hB12.size
                  clear hr hB12 hsp HBx12 n0 n1 n2 HF HMs
                  obtain ⟨n0, n1, n2, _⟩ := b3_cells HBx13.out
                  go_wp2_with (at_builtin; refine wpList_append_own_at _ rfl (.tmp 149) (.tmp 151) 61 rfl w5.heap.size 114 i0 _ 3 32 Tryz.underlying61 hi hz0 hz1 hz2 rfl (by decide) _ _ _ rfl (HOm12.out.alloc _) ⟨W12.heap.size, 0, none⟩ 1 1 [.string newp, .int .i64 ni, .bool nd] rfl rfl (new3b _ _ _ _ _ _ rfl) (by intro u hu; simp at hu; rcases hu with rfl | rfl | rfl <;> rfl) (by unfold maxLen; omega) (by omega) (by simp; omega) ?_; intro v' w9 hown' hgrow hnil hat; clear hnil; have HO2 := Lib.hid hown'; have HG := Lib.hid hgrow; have HA := Lib.hid hat; clear hown' hgrow hat)
                  have HNe9 : Hid (∀ b, v'.ownBlock = some b → rv0.ownBlock ≠ some b) := fun b hb hb2 => by
                    rcases HA.out with e | e
                    · exact HNe.out b (e.symm.trans hb) hb2
                    · have h1 := (HOr12.out.lt b hb2).2
                      rw [e] at hb
                      simp at hb
                      omega
                  exact ⟨⟨k + 1, v', rv0, by omega, rfl, rfl, by go_num, by rw [HMs2.out, cellsN_snoc, List.length_append, List.length_singleton]; exact HO2, by rw [HRs2.out]; exact Lib.hid (own_other (HOr12.out.alloc _) HG.out fun b hb hb2 => HNe.out b hb2 hb), HNe9, Lib.hid (grown_below (HB512.out.alloc HB512.out.size _) (by simp; omega) (HOm12.out.alloc _) HG.out), HF2⟩, by simp [intOf]; omega⟩
        · obtain rfl : k = T.L.length := by omega
          have hany : (T.L.filter (movesN src)).any (badN src dst) = false := by
            rw [List.any_eq_false]
            intro n hn
            obtain ⟨h1, h2⟩ := List.mem_filter.1 hn
            obtain ⟨j, hj, rfl⟩ := List.getElem_of_mem h1
            have e : T.L[j] = T.L.getD j default := by simp [List.getD, hj]
            rw [e] at h2 ⊢
            rw [HF.out j hj h2]; decide
          have HRg := Lib.hid (HGood.out hany)
          obtain ⟨M, hM⟩ : ∃ M, movedK T src dst T.L.length = M := ⟨_, rfl⟩
          obtain ⟨L0, hL0⟩ : ∃ L0, restK T src dst T.L.length = L0 := ⟨_, rfl⟩
          rw [hM] at HOm HRg hml
          rw [hL0] at HOr HRg hrl
          have hor := HOr.out
          have hom := HOm.out
          obtain ⟨ar, cr, rfl, hcr, hSr⟩ := SlN.own hor
          obtain ⟨am, cm, rfl, hcm, hSm⟩ := SlN.own hom
          have HbR : Hid (∀ b o, ar = some ⟨b, o, none⟩ → w5.heap.size ≤ b) := fun b o e => own_base hor b o e
          have HbM : Hid (∀ b o, am = some ⟨b, o, none⟩ → w5.heap.size ≤ b) := fun b o e => own_base hom b o e
          obtain ⟨a0, c0, t1, t2, t3⟩ := (HT.out.below (blw HB5.out HB.out)).ex
          have ce : wr.cell? ⟨td, 0, none⟩ = some (.slice a0 T.L.length c0) := by unfold World.cell?; rw [t1]; rfl
          have f0 : wr.frozen? ⟨td, 0, none⟩ = false := by unfold World.frozen?; rw [t1]; simp
          have hlt' : decide ((T.L.length : Int) < (T.L.length : Int)) = false := by simp
          have HD0 : Hid (DocP dx (wr.setCell ⟨td, 0, none⟩ (.slice ar L0.length cr)) td ⟨L0, T.nx⟩) := Lib.hid (DocP.mk2 (dc_set0 t1 _) hcr (sln_set hSr (fun b o e => HbR.out b o e) htd5))
          have HSm : Hid (SlN (wr.setCell ⟨td, 0, none⟩ (.slice ar L0.length cr)) am M) := Lib.hid (sln_set hSm (fun b o e => HbM.out b o e) htd5)
          have HTu : Hid (Turn [td] w (wr.setCell ⟨td, 0, none⟩ (.slice ar L0.length cr))) := Lib.hid ((Turn.of_below (blw HB5.out HB.out)).setCell (p := ⟨td, 0, none⟩) (.inl (by simp)) _)
          clear hlt hor hom hSr hSm t1 t3 HOr HOm HF hany HNe
          go_upto_region 38 with (fail)
          generalize wr.setCell ⟨td, 0, none⟩ (.slice ar L0.length cr) = W1 at *
          go_wp2
          go_loopw [25] (fun i w2 => ∃ k : Nat, k ≤ M.length ∧ i = .int .i64 (k : Int) ∧ Hid (DocP dx w2 td ⟨(M.take k).foldl (fun R n => insN n R) L0, T.nx⟩) ∧ Hid (Turn [td] W1 w2)) (fun i _ => M.length - (intOf i).toNat)
          case atStart => exact ⟨0, by omega, rfl, HD0, Lib.hid (Turn.refl _ _)⟩
          case round =>
            obtain ⟨k, hk, rfl, HD, HTw⟩ := hrel
            by_cases hlt : k < M.length
            · obtain ⟨b, o, e1, hr⟩ : ∃ b o, am = some ⟨b, o, none⟩ ∧ RdN wr b o M := by
                rcases HSm.out with h | ⟨b, o, e1, hr⟩
                · rw [h] at hlt; cases hlt
                · have := HbM.out b o e1
                  exact ⟨b, o, e1, hr.turn HTw.out (by simp; omega)⟩
              subst e1
              obtain ⟨p0, p1, p2⟩ := hr.at_ k hlt
              have hki : (k : Int) < (M.length : Int) := by omega
              have hkc : (k : Int) < (cm : Int) := by omega
              have hpl : ((M.take k).foldl (fun R n => insN n R) L0).length ≤ 1000 := by rw [insAll_len, List.length_take]; omega
              have hput := doc_put (M.getD k default) wr HD.out hpl
              have hstep : (M.take (k + 1)).foldl (fun R n => insN n R) L0 = insN (M.getD k default) ((M.take k).foldl (fun R n => insN n R) L0) := by
                rw [List.take_succ_eq_append_getElem hlt, List.foldl_append]
                simp [List.getD, hlt]
              have HPut := Lib.hid hput
              have HStep := Lib.hid hstep
              generalize M.getD k default = n at *
              obtain ⟨np, ni, nd⟩ := n
              dsimp only at p0 p1 p2
              clear hput hstep hr
              go_wp2_with fail
              with_reducible refine Calls.mono HPut.out ?_
              rintro e w3 ⟨rfl, hD3, hT3⟩
              have HD3 := Lib.hid hD3
              have HT3 := Lib.hid (HTw.out.trans hT3)
              clear hD3 hT3
              go_wp2
              exact ⟨⟨k + 1, by omega, by go_num, by rw [HStep.out]; exact HD3, HT3⟩, by simp [intOf]; omega⟩
            · obtain rfl : k = M.length := by omega
              have hlt'' : decide ((M.length : Int) < (M.length : Int)) = false := by simp
              have hD := HD.out
              rw [List.take_length] at hD
              have HDf := Lib.hid hD
              clear hlt hD HD
              go_wp2
              go_ret2
              have hR := HRg.out
              subst hR
              exact ⟨rfl, HDf.out, HTu.out.trans HTw.out⟩
end Go.Proofs.YtiegadfhgccliaaGreatDoor
namespace Go.Proofs.YtiegadfhgccliaaGreatDoor
open Go.Lib
set_option linter.unusedVariables false

/-- 't.l[n.Path] = n'. -/
def putN (n : Nd) (K : List Nd) : List Nd := if K.any (fun m => decide (m.path = n.path)) then K.map (fun m => if m.path = n.path then n else m) else K ++ [n]
theorem mput_ents (n : Nd) (K : List Nd) : mput n.path (ndV n) (ents K) = ents (putN n K) := by
  unfold mput putN ents
  rw [List.any_map]
  show (if K.any (fun m => decide (m.path = n.path)) = true then _ else _) = _
  split
  · rw [List.map_map, List.map_map]
    refine List.map_congr_left fun m _ => ?_
    show (if m.path = n.path then (n.path, ndV n) else (m.path, ndV m)) = entN (if m.path = n.path then n else m)
    split <;> rfl
  · rw [List.map_append]; rfl
def delN (s : ByteArray) (K : List Nd) : List Nd := K.filter fun m => !decide (m.path = s)
theorem mdel_ents (s : ByteArray) (K : List Nd) : mdel s (ents K) = ents (delN s K) := by
  unfold mdel ents delN
  rw [List.filter_map]
  congr 1
  refine List.filter_congr fun m _ => ?_
  show decide (m.path ≠ s) = !decide (m.path = s)
  simp
theorem mem_delN {s : ByteArray} {K : List Nd} {m : Nd} : m ∈ delN s K ↔ m ∈ K ∧ m.path ≠ s := by unfold delN; rw [List.mem_filter]; simp
theorem mem_putN {n : Nd} {K : List Nd} {m : Nd} : m ∈ putN n K ↔ m = n ∨ (m ∈ K ∧ m.path ≠ n.path) := by
  unfold putN
  split
  · rename_i h
    rw [List.mem_map]
    obtain ⟨x, hx, hp⟩ := List.any_eq_true.1 h
    have hp : x.path = n.path := by simpa using hp
    constructor
    · rintro ⟨a, ha, rfl⟩
      by_cases e : a.path = n.path
      · rw [if_pos e]; exact .inl rfl
      · rw [if_neg e]; exact .inr ⟨ha, e⟩
    · rintro (rfl | ⟨h1, h2⟩)
      · exact ⟨x, hx, by rw [if_pos hp]⟩
      · exact ⟨m, h1, by rw [if_neg h2]⟩
  · rename_i h
    have h : ∀ x ∈ K, x.path ≠ n.path := by simpa using h
    rw [List.mem_append, List.mem_singleton]
    constructor
    · rintro (h1 | h1)
      · exact .inr ⟨h1, h m h1⟩
      · exact .inl h1
    · rintro (h1 | h1)
      · exact .inr h1
      · exact .inl h1.1
theorem apart_putN {n : Nd} {K : List Nd} (h : Apart K) : Apart (putN n K) := by
  unfold putN
  split
  · refine List.pairwise_map.2 (h.imp fun {a b} hab => ?_)
    by_cases e1 : a.path = n.path
    · rw [if_pos e1]
      by_cases e2 : b.path = n.path
      · exact absurd (e1.trans e2.symm) hab
      · rw [if_neg e2]; exact fun e => e2 e.symm
    · rw [if_neg e1]
      by_cases e2 : b.path = n.path
      · rw [if_pos e2]; exact e1
      · rw [if_neg e2]; exact hab
  · rename_i hno
    have hno : ∀ x ∈ K, x.path ≠ n.path := by simpa using hno
    refine List.pairwise_append.2 ⟨h, List.pairwise_singleton _ _, fun a ha b hb => ?_⟩
    rw [List.mem_singleton.1 hb]; exact hno a ha
theorem Apart.nodup {K : List Nd} (h : Apart K) : K.Nodup := h.imp fun {a b} hab e => hab (by rw [e])
theorem apart_perm {K M : List Nd} (h1 : Apart K) (h2 : Apart M) (h : ∀ a, a ∈ K ↔ a ∈ M) : K.Perm M := (List.perm_ext_iff_of_nodup h1.nodup h2.nodup).2 h

/-- A round. -/
def mvd (src dst : ByteArray) (n : Nd) : Nd := ⟨movedRaw src dst n.path, n.id, n.dir⟩
def stepR (src dst : ByteArray) (K : List Nd) (n : Nd) : List Nd := putN (mvd src dst n) (delN n.path K)
theorem apart_step {src dst : ByteArray} {K : List Nd} (h : Apart K) (n : Nd) : Apart (stepR src dst K n) := apart_putN (List.Pairwise.filter _ h)
theorem apart_steps {src dst : ByteArray} (V : List Nd) : ∀ {K : List Nd}, Apart K → Apart (V.foldl (stepR src dst) K) := by
  induction V with
  | nil => exact fun h => h
  | cons n V ih => exact fun h => ih (apart_step h n)
theorem mem_steps {src dst : ByteArray} (V : List Nd) : ∀ {K : List Nd}, (∀ a ∈ V, ∀ b ∈ V, (mvd src dst a).path ≠ b.path) → V.Pairwise (fun a b => (mvd src dst a).path ≠ (mvd src dst b).path) →
    ∀ m, m ∈ V.foldl (stepR src dst) K ↔ (∃ a ∈ V, m = mvd src dst a) ∨ (m ∈ K ∧ ∀ a ∈ V, m.path ≠ a.path ∧ m.path ≠ (mvd src dst a).path) := by
  induction V with
  | nil => intro K _ _ m; simp
  | cons n V ih =>
    intro K h1 h2 m
    obtain ⟨h3, h4⟩ := List.pairwise_cons.1 h2
    rw [List.foldl_cons, ih (fun a ha b hb => h1 a (List.mem_cons_of_mem _ ha) b (List.mem_cons_of_mem _ hb)) h4 m]
    unfold stepR
    rw [mem_putN, mem_delN]
    constructor
    · rintro (⟨a, ha, rfl⟩ | ⟨rfl | ⟨⟨h5, h6⟩, h7⟩, h8⟩)
      · exact .inl ⟨a, List.mem_cons_of_mem _ ha, rfl⟩
      · exact .inl ⟨n, by simp, rfl⟩
      · refine .inr ⟨h5, fun a ha => ?_⟩
        rcases List.mem_cons.1 ha with rfl | ha
        · exact ⟨h6, h7⟩
        · exact h8 a ha
    · rintro (⟨a, ha, rfl⟩ | ⟨h5, h6⟩)
      · rcases List.mem_cons.1 ha with rfl | ha
        · exact .inr ⟨.inl rfl, fun b hb => ⟨h1 a (by simp) b (List.mem_cons_of_mem _ hb), h3 b hb⟩⟩
        · exact .inl ⟨a, ha, rfl⟩
      · exact .inr ⟨.inr ⟨⟨h5, (h6 n (by simp)).1⟩, (h6 n (by simp)).2⟩, fun a ha => h6 a (List.mem_cons_of_mem _ ha)⟩

section
variable {T : TS} {src dst : ByteArray} {X Y : List ByteArray}
theorem mvd_move (h : TInv T) (r : Ren T src dst X Y) {n : Nd} (hn : n ∈ T.L) (hm : movesN src n = true) : mvd src dst n = moveN src dst n := by
  obtain ⟨Z, hz, hne, hi⟩ := moves_parts h r hn
  unfold mvd moveN
  rw [movedRaw_eq r.s r.x r.d r.y hz (hi.1 hm)]
/-- What the loop leaves: what a rename leaves. -/
theorem steps_ren (h : TInv T) (r : Ren T src dst X Y) {V L : List Nd} (hV : V.Perm (T.L.filter (movesN src))) (hL : L.Perm T.L) :
    (V.foldl (stepR src dst) L).Perm (((T.L.filter (movesN src)).map (moveN src dst)).foldl (fun R n => insN n R) (restS T.L src dst)) := by
  have hmem : ∀ a, a ∈ V ↔ a ∈ T.L ∧ movesN src a = true := fun a => by rw [hV.mem_iff, List.mem_filter]
  have hin : ∀ a b, a ∈ V → b ∈ V → newPath src dst a.path = newPath src dst b.path → a = b := fun a b ha hb e =>
    new_inj h r ((hmem a).1 ha).1 ((hmem a).1 ha).2 ((hmem b).1 hb).1 ((hmem b).1 hb).2 e
  have hpath : ∀ a ∈ V, (mvd src dst a).path = newPath src dst a.path := fun a ha => by rw [mvd_move h r ((hmem a).1 ha).1 ((hmem a).1 ha).2]; rfl
  have h1 : ∀ a ∈ V, ∀ b ∈ V, (mvd src dst a).path ≠ b.path := fun a ha b hb e => by
    rw [hpath a ha] at e
    have := (new_apart h r ((hmem a).1 ha).1 ((hmem a).1 ha).2 ((hmem b).1 hb).1 e).2.1
    rw [((hmem b).1 hb).2] at this; cases this
  have hVn : V.Nodup := (hV.nodup_iff).2 (List.Pairwise.filter (movesN src) h.rises.apart |>.imp fun {a b} hab e => hab (by rw [e]))
  have h2 : V.Pairwise (fun a b => (mvd src dst a).path ≠ (mvd src dst b).path) := by
    refine (show V.Pairwise (· ≠ ·) from hVn).imp_of_mem fun {a b} ha hb hab e => hab ?_
    rw [hpath a ha, hpath b hb] at e
    exact hin a b ha hb e
  refine (apart_perm (apart_steps V (h.rises.apart.perm hL.symm)) (moved_apart h r) fun m => ?_).trans ren_perm.symm
  rw [mem_steps V h1 h2 m, List.mem_append, mem_rest, List.mem_map]
  obtain ⟨n0, hn0, hp0⟩ := r.node
  have hm0 : movesN src n0 = true := by unfold movesN; simp [hp0]
  constructor
  · rintro (⟨a, ha, rfl⟩ | ⟨h3, h4⟩)
    · refine .inr ⟨a, List.mem_filter.2 ((hmem a).1 ha), ?_⟩
      rw [mvd_move h r ((hmem a).1 ha).1 ((hmem a).1 ha).2]
    · have h3 := hL.mem_iff.1 h3
      refine .inl ⟨h3, ?_, fun e => ?_⟩
      · cases hmm : movesN src m
        · rfl
        · exact absurd rfl (h4 m ((hmem m).2 ⟨h3, hmm⟩)).1
      · have h5 := h4 n0 ((hmem n0).2 ⟨hn0, hm0⟩)
        apply h5.2
        rw [hpath n0 ((hmem n0).2 ⟨hn0, hm0⟩), hp0, newPath_self r.s r.d, e]
  · rintro (⟨h3, h4, h5⟩ | ⟨a, ha, rfl⟩)
    · refine .inr ⟨hL.mem_iff.2 h3, fun a ha => ⟨fun e => ?_, fun e => ?_⟩⟩
      · have := apart_uniq h.rises.apart h3 ((hmem a).1 ha).1 e
        subst this
        rw [((hmem m).1 ha).2] at h4; cases h4
      · rw [hpath a ha] at e
        exact h5 (e.trans (by rw [← e]; exact (new_apart h r ((hmem a).1 ha).1 ((hmem a).1 ha).2 h3 e.symm).1))
    · obtain ⟨h3, h4⟩ := List.mem_filter.1 ha
      exact .inl ⟨a, (hmem a).2 ⟨h3, h4⟩, (mvd_move h r h3 h4).symm⟩
/-- The rows that Rename goes over: what lies under, and the node. -/
theorem moves_perm (h : TInv T) (r : Ren T src dst X Y) {n0 : Nd} (hn : fnd src T.L = some n0) {U : List Nd} (hU : U.Perm (T.L.filter (preB src))) : (U ++ [n0]).Perm (T.L.filter (movesN src)) := by
  obtain ⟨h1, h2⟩ := fnd_some hn
  have hpre : ∀ n ∈ T.L, preB src n = punder n.path src := fun n hn => preB_under h r.s r.x hn
  have hself : punder src src = false := by rw [under_parts r.s r.s]; simp
  have hA : Apart (U ++ [n0]) := by
    refine List.pairwise_append.2 ⟨Apart.perm (List.Pairwise.filter _ h.rises.apart) hU.symm, List.pairwise_singleton _ _, fun a ha b hb e => ?_⟩
    rw [List.mem_singleton.1 hb, h2] at e
    obtain ⟨h3, h4⟩ := List.mem_filter.1 (hU.mem_iff.1 ha)
    rw [hpre a h3, e, hself] at h4; cases h4
  refine apart_perm hA (List.Pairwise.filter _ h.rises.apart) fun m => ?_
  rw [List.mem_append, List.mem_singleton, List.mem_filter, hU.mem_iff, List.mem_filter]
  unfold movesN
  rw [Bool.or_eq_true, decide_eq_true_eq]
  constructor
  · rintro (⟨h3, h4⟩ | rfl)
    · exact ⟨h3, .inr (by rw [← hpre m h3]; exact h4)⟩
    · exact ⟨h1, .inl h2⟩
  · rintro ⟨h3, h4 | h4⟩
    · exact .inr (apart_uniq h.rises.apart h3 h1 (h4.trans h2.symm))
    · exact .inl ⟨h3, by rw [hpre m h3]; exact h4⟩
end
end Go.Proofs.YtiegadfhgccliaaGreatDoor
