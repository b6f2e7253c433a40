/- Walk of TreeBuilds. Printed by gen_builds.py. -/
import Derived.Test.YtahdmkmefeocmaaGreatDoorMTreeMv
import Derived.Test.YtahdmkmefeocmaaGreatDoorMSameQ
import Derived.Test.YtahdmkmefeocmaaGreatDoorMBuildW
import Derived.Test.YtahdmkmefeocmaaGreatDoorMBuildM
import Derived.Deep.AppendLies
namespace Go.Proofs.YtahdmkmefeocmaaGreatDoor
open Go.RowKit Go.Lib
open Go.ChangeMaps (setBlock)

theorem build_rb (next : Int) (L : List Nd) : ∃ rb : Bool, (rb = true ↔ MayL next L ∧ next ≤ 4611686018427387904) := by
  by_cases h : MayL next L ∧ next ≤ 4611686018427387904
  · exact ⟨true, ⟨fun _ => h, fun _ => rfl⟩⟩
  · exact ⟨false, ⟨fun e => (by cases e), fun e => absurd e h⟩⟩
set_option maxRecDepth 100000 in
set_option maxHeartbeats 16000000 in
theorem treeBuilds_walk (next : Int) (s0 : Option Addr) (c0 : Nat) (L : List Nd) (s1 : Option Addr) (c1 : Nat) (D : List Dd) (w : World) (_n1 : -9223372036854775808 ≤ next) (_n2 : next ≤ 9223372036854775807) (i0 : SlN w s0 L) (hc : L.length ≤ c0) (_hcm : c0 ≤ maxLen) (i1 : SlD w s1 D) (hc1 : D.length ≤ c1) (hcm1 : c1 ≤ maxLen) (hm : MLen w) :
    Calls Tryz.prog 5 #[.int .i64 next, .slice s0 L.length c0, .slice s1 D.length c1] w fun e w' => e = .returned (.bool true) ∧ Below w.heap.size w w' := by
  have HAw := Lib.hid (awake13 w hm)
  have HSm : Hid (∀ W, Below w.heap.size w W → Calls Tryz.prog 7 #[.slice s1 D.length c1, .int .i64 60] W fun e w' => e = .returned (.bool (smallB D 60)) ∧ w' = W) := fun W h => law13_small D s1 c1 60 W (i1.below h) hc1 (by unfold maxLen at hcm1; omega) (by decide)
  have HS := Lib.hid i0
  have HD := Lib.hid i1
  have HM := Lib.hid hm
  have hgl := hm.lt
  obtain ⟨n0, hi, hz0, hz1, hz2⟩ := info_parts info_nd
  by_cases hL80 : (L.length : Int) > 80
  · clear i0 i1 hm
    go_enter Tryz.func5, Tryz.ntmps5
    go_wp2_with fail
    refine HAw.out.mono ?_
    rintro e w1 ⟨rfl, hB1⟩
    go_wp2
    go_ret
    exact ⟨rfl, hB1⟩
  have hL80' : L.length ≤ 80 := by omega
  cases hsm : smallB D 60
  · rw [hsm] at HSm
    clear i0 i1 hm hsm
    go_enter Tryz.func5, Tryz.ntmps5
    go_wp2_with fail
    refine HAw.out.mono ?_
    rintro e w1 ⟨rfl, hB1⟩
    go_wp2_with fail
    with_reducible refine Calls.mono (HSm.out _ hB1) ?_
    rintro e w1 ⟨rfl, rfl⟩
    go_wp2
    go_ret
    exact ⟨rfl, hB1⟩
  · rw [hsm] at HSm
    obtain ⟨hD60, hsm2⟩ := smallB_spec hsm
    have HSz := Lib.hid hsm2
    clear i0 i1 hm hsm hsm2
    go_enter Tryz.func5, Tryz.ntmps5
    go_wp2_with fail
    refine HAw.out.mono ?_
    rintro e w1 ⟨rfl, hB1⟩
    go_wp2_with fail
    with_reducible refine Calls.mono (HSm.out _ hB1) ?_
    rintro e w1 ⟨rfl, rfl⟩
    have HB1 := Lib.hid hB1
    clear hB1 HAw HSm
    have hs1 := HB1.out.size
    go_wp2
    go_loopw [7, 8] (fun v i wr => ∃ (k : Nat) (sv : Value), k ≤ L.length ∧ v = sv ∧ i = .int .i64 (k : Int) ∧ Hid (wr.ownsRow w1.heap.size 54 3 sv k (cellsN (L.take k))) ∧ Hid (Below w1.heap.size w1 wr) ∧ Hid (∀ j, j < k → (L.getD j default).path.size ≤ 300)) (fun _ i _ => L.length - (intOf i).toNat)
    case atStart => exact ⟨0, _, by omega, rfl, rfl, Lib.hid (World.ownsRow_nil _ _ _ _), Lib.hid (Below.refl _ _), Lib.hid fun j hj => by omega⟩
    case round =>
      obtain ⟨k, sv, hk, hsv, rfl, HO, HB, HF⟩ := hrel
      have hsv' := hsv.symm
      subst hsv'
      have HBr := Lib.hid (blw HB1.out HB.out)
      have hsB := HB.out.size
      by_cases hlt : k < L.length
      · obtain ⟨b, o, rfl, -⟩ := (HS.out.below HBr.out).at_ hlt
        have HRow : Hid (∀ W, Below w.heap.size w W → W.cell? ⟨b, o + k * 3, none⟩ = some (.string (L.getD k default).path) ∧ W.cell? ⟨b, o + k * 3 + 1, none⟩ = some (.int .i64 (L.getD k default).id) ∧ W.cell? ⟨b, o + k * 3 + 2, none⟩ = some (.bool (L.getD k default).dir)) := fun W h => by
          obtain ⟨b', o', e', q0, q1, q2, _⟩ := (HS.out.below h).at_ hlt
          cases e'
          exact ⟨q0, q1, q2⟩
        have hki : (k : Int) < (L.length : Int) := by omega
        have hkc : (k : Int) < (c0 : Int) := by omega
        have HTk : Hid (cellsN (L.take (k + 1)) = cellsN (L.take k) ++ cells3 (L.getD k default)) := Lib.hid (by
          have e : L.take (k + 1) = L.take k ++ [L.getD k default] := by
            rw [List.take_succ_eq_append_getElem hlt]
            congr 2
            simp [List.getD, hlt]
          rw [e, cellsN_append]
          simp [cellsN])
        obtain ⟨nn, hnn⟩ : ∃ nn, L.getD k default = nn := ⟨_, rfl⟩
        have HNn := Lib.hid hnn
        rw [hnn] at HRow HTk
        obtain ⟨np, ni, nd⟩ := nn
        dsimp only at HRow
        obtain ⟨p0, p1, p2⟩ := HRow.out _ HBr.out
        clear hnn
        by_cases hq3 : (np.size : Int) > 300
        · go_wp2
          go_ret
          exact ⟨rfl, HBr.out⟩
        · have HF2 : Hid (∀ j, j < k + 1 → (L.getD j default).path.size ≤ 300) := fun j hj => by
            by_cases e : j = k
            · subst e; rw [HNn.out]; show np.size ≤ 300; omega
            · exact HF.out j (by omega)
          have hp9 := HRow.out
          go_upto_region 11 with (fail)
          have HBd : Hid (Below w.heap.size w wr.drew) := Lib.hid (below_drewN' HBr.out 1)
          go_region_held3 (fun w' => w'.cell? ⟨b, o + k * 3, none⟩ = some (.string np) ∧ w'.cell? ⟨b, o + k * 3 + 1, none⟩ = some (.int .i64 ni) ∧ w'.cell? ⟨b, o + k * 3 + 2, none⟩ = some (.bool nd)) (first | exact HRow.out _ HBr.out | exact HRow.out _ HBd.out | exact HRow.out _ (HBd.out.alloc HBd.out.size _) | exact HRow.out _ HB9.out | go_keep) ((refine step_append_any (by rfl) _ _ _ (by rfl) (w1.heap.size) 54 n0 _ 3 32 Tryz.underlying51 hi hz0 hz1 hz2 rfl (by omega) sv (k) (cellsN (L.take k)) (by rfl) ((own_heap (w' := wr.drew) HO.out rfl).alloc _) (some ⟨wr.heap.size, 0, none⟩) 1 1 (cells3 ⟨np, ni, nd⟩) (by rfl) rfl (by exact news_some (World.news_of_block (cs := #[.string np, .int .i64 ni, .bool nd]) (t := 54) (fr := (0, 0)) (heap_alloc_new wr.drew _))) (one3 _) (by unfold maxLen; omega) (by omega) (by simp; omega) ?_; intro v' w9 ho9 hg9 hat9; have HO9 := Lib.hid ho9; have HB9' : Hid (Below w1.heap.size w1 w9) := Lib.hid (grown_below (B := w1.heap.size) (w := w1) ((below_drewN' HB.out 1).alloc (by exact hsB) _) (by simp; omega) ((own_heap (w' := wr.drew) HO.out rfl).alloc _) hg9); have HB9 := Lib.hid (blw HB1.out HB9'.out); clear ho9 hg9 hat9))
          all_goals
            go_wp2
            exact ⟨⟨k + 1, v', by omega, rfl, by go_num, by rw [HTk.out]; exact HO9, HB9', HF2⟩, by simp [intOf]; omega⟩
      · obtain rfl : k = L.length := by omega
        have hlt' : decide ((L.length : Int) < (L.length : Int)) = false := by simp
        have ho := HO.out
        rw [List.take_length] at ho
        obtain ⟨a2, c2, rfl, hc2, hS2⟩ := SlN.own ho
        have hps : ∀ n ∈ L, n.path.size ≤ 1000 := fun n hn => by
          obtain ⟨j, hj, rfl⟩ := List.getElem_of_mem hn
          have := HF.out j hj
          rw [getD_at hj] at this
          omega
        obtain ⟨rb, hrb⟩ := build_rb next L
        have HBd := Lib.hid (tree_build next L a2 c2 wr hS2 hc2 (by omega) hps (HM.out.below HBr.out) hrb)
        have HMy : Hid (∀ W, Below w.heap.size w W → Calls Tryz.prog 20 #[.int .i64 next, .slice s0 L.length c0] W fun e w' => e = .returned (.bool rb) ∧ Below W.heap.size W w') := fun W h => doc_buildmay next L s0 c0 W (HS.out.below h) hc (by omega) hps hrb
        have HPs := Lib.hid hps
        clear hlt ho hS2 HO HF hps hrb
        cases rb
        · go_wp2_with fail
          with_reducible refine Calls.mono HBd.out ?_
          intro e w3 hans
          obtain rfl := hans.2.1 rfl
          have HB3 := Lib.hid (blw HBr.out hans.2.2)
          clear hans HBd
          go_wp2_with fail
          with_reducible refine Calls.mono (HMy.out _ HB3.out) ?_
          rintro e w9 ⟨rfl, hB9⟩
          have HB9 := Lib.hid (blw HB3.out hB9)
          clear hB9 HMy
          go_upto_region 24 with (fail)
          have HNw := Lib.hid (tree_new w9)
          go_wp2_with fail
          with_reducible refine Calls.mono HNw.out ?_
          rintro e w2 ⟨tb, mb, rfl, hT2, ht2, hm2, hB2⟩
          have hbp := BP.new (HM.out.below HB9.out) hT2 ht2 hm2 hB2
          have hB12 : Below w.heap.size w (w2.alloc (.cells #[.slice none 0 0, .int .i64 1] 30)) := (blw HB9.out hB2).alloc (blw HB9.out hB2).size _
          have HBp := Lib.hid hbp
          have HBw := Lib.hid hB12
          have hs12 := HB9.out.size
          have hs2' := hB2.size
          clear hbp hB12 hT2 hB2 HNw
          go_upto_region 25 with (fail)
          generalize w2.alloc (.cells #[.slice none 0 0, .int .i64 1] 30) = W at *
          generalize w2.heap.size = td at *
          go_wp2
          go_loopw [17] (fun i wr => ∃ (k : Nat) (T : TS), k ≤ D.length ∧ i = .int .i64 (k : Int) ∧ T.nx ≤ 1 + (k : Int) ∧ Hid (BP wr tb mb td T) ∧ Hid (Below w.heap.size w wr)) (fun i _ => D.length - (intOf i).toNat)
          case atStart => exact ⟨0, ⟨[], 1⟩, by omega, rfl, by decide, HBp, HBw⟩
          case round =>
            obtain ⟨k, T, hk, rfl, hnx, HBp, HBw⟩ := hrel
            by_cases hlt : k < D.length
            · obtain ⟨b, o, rfl, p0, p1, p2, p3⟩ := (HD.out.below HBw.out).at_ hlt
              have hki : (k : Int) < (D.length : Int) := by omega
              have hkc : (k : Int) < (c1 : Int) := by omega
              have hmem : D.getD k default ∈ D := by simp [List.getD, hlt]
              obtain ⟨hd1, hd2⟩ := HSz.out _ hmem
              have hdo := law13_do (D.getD k default) wr HBp.out hd1 hd2 (by omega)
              have hnx2 := deed_nx T (D.getD k default)
              have HDo := Lib.hid hdo
              generalize doS T (D.getD k default) = R at *
              obtain ⟨T', x, y⟩ := R
              generalize D.getD k default = d at *
              obtain ⟨da, dp, dq, dd⟩ := d
              dsimp only at p0 p1 p2 p3 hnx2 HDo
              clear hmem hdo hd1 hd2
              go_wp2_with fail
              with_reducible refine Calls.mono HDo.out ?_
              rintro e w3 ⟨rfl, hB3, hU3⟩
              have HB3 := Lib.hid hB3
              have HU3 := Lib.hid (hU3.below HBw.out (by intro x hx; simp at hx; omega))
              clear hB3 hU3
              go_wp2
              exact ⟨⟨k + 1, T', by omega, by go_num, by omega, HB3, HU3⟩, by simp [intOf]; omega⟩
            · obtain rfl : k = D.length := by omega
              have hlt' : decide ((D.length : Int) < (D.length : Int)) = false := by simp
              have hfew := HBp.out.i.few
              have HPs := Lib.hid (path_size HBp.out.i)
              have hrb : true = true ↔ MayL T.nx T.L ∧ T.nx ≤ 4611686018427387904 := ⟨fun _ => ⟨MayL.of_inv HBp.out.i, by omega⟩, fun _ => rfl⟩
              have HBl : Hid (∀ W a c, SlN W a T.L → T.L.length ≤ c → MLen W → Calls Tryz.prog 19 #[.int .i64 T.nx, .slice a T.L.length c] W (BuildAns W true T.nx T.L)) := fun W a c h1 h2 h3 => tree_build T.nx T.L a c W h1 h2 (by omega) (fun n hn => by have := HPs.out n hn; omega) h3 hrb
              have HNx := Lib.hid (tree_next wr HBp.out.t)
              have HNo := Lib.hid (tree_nodes wr HBp.out.t HBp.out.i)
              clear hlt hrb
              go_wp2_with fail
              with_reducible refine Calls.mono HNx.out ?_
              rintro e wr ⟨rfl, rfl⟩
              go_wp2_with fail
              with_reducible refine Calls.mono HNo.out ?_
              rintro e w4 ⟨an, cn, rfl, hcn, hSn, hB4⟩
              have HBp4 := Lib.hid (HBp.out.below hB4)
              have HBw4 := Lib.hid (blw HBw.out hB4)
              have HBd := Lib.hid (HBl.out w4 an cn hSn hcn HBp4.out.m)
              clear hSn hB4 HNx HNo
              go_wp2_with fail
              with_reducible refine Calls.mono HBd.out ?_
              intro e w5 hans
              obtain ⟨yb, ym, O, rfl, hpm, hIO, hTO, _, _⟩ := hans.1 rfl
              have hB5 := hans.2.2
              have hOT : O = T.L := rises_uniq hIO.rises HBp4.out.i.rises hpm
              subst hOT
              have HBq : Hid (BQ w5 yb ym td T) := Lib.hid ⟨hTO, HBp4.out.d.below hB5, HBp4.out.i, HBp4.out.m.below hB5⟩
              have HBw5 := Lib.hid (blw HBw4.out hB5)
              clear hans hB5 hpm hIO hTO HBd
              go_wp2_with fail
              with_reducible refine Calls.mono (law13_sameq _ HBq.out) ?_
              rintro e w6 ⟨rfl, hB6⟩
              have HF := Lib.hid (blw HBw5.out hB6)
              clear hB6
              go_wp2
              go_ret
              exact ⟨rfl, HF.out⟩
        · go_wp2_with fail
          with_reducible refine Calls.mono HBd.out ?_
          intro e w3 hans
          obtain ⟨zb, zm, O, rfl, hpm, hIO, hTO, _, _⟩ := hans.1 rfl
          have HB3 := Lib.hid (blw HBr.out hans.2.2)
          have HIO := Lib.hid hIO
          have HTO := Lib.hid hTO
          have HPm := Lib.hid hpm
          have HLe : Hid (∀ W, Below w3.heap.size w3 W → Calls Tryz.prog 21 #[.pointer (some ⟨zb, 0, none⟩)] W fun e w' => e = .returned (.int .i64 (L.length : Nat)) ∧ w' = W) := fun W h => by rw [← hpm.length_eq]; exact tree_len W (hTO.below h)
          have HNx : Hid (∀ W, Below w3.heap.size w3 W → Calls Tryz.prog 22 #[.pointer (some ⟨zb, 0, none⟩)] W fun e w' => e = .returned (.int .i64 next) ∧ w' = W) := fun W h => tree_next W (hTO.below h)
          clear hans HBd hpm hIO hTO
          go_wp2_with fail
          with_reducible refine Calls.mono (HMy.out _ HB3.out) ?_
          rintro e w8 ⟨rfl, hB8⟩
          have HB8 := Lib.hid hB8
          clear hB8 HMy
          go_wp2_with fail
          with_reducible refine Calls.mono (HLe.out _ HB8.out) ?_
          rintro e w8 ⟨rfl, rfl⟩
          go_wp2_with fail
          with_reducible refine Calls.mono (HNx.out _ HB8.out) ?_
          rintro e w8 ⟨rfl, rfl⟩
          clear HLe HNx
          go_wp2
          go_loopw [11] (fun i wr => ∃ k : Nat, k ≤ L.length ∧ i = .int .i64 (k : Int) ∧ Hid (Below w3.heap.size w3 wr)) (fun i _ => L.length - (intOf i).toNat)
          case atStart => exact ⟨0, by omega, rfl, HB8⟩
          case round =>
            obtain ⟨k, hk, rfl, HBk⟩ := hrel
            by_cases hlt : k < L.length
            · have HBwk := Lib.hid (blw HB3.out HBk.out)
              have hmem : L.getD k default ∈ L := by simp [List.getD, hlt]
              have hmemO := HPm.out.mem_iff.2 hmem
              have hlk := HIO.out.look hmemO
              have hpsz := HPs.out _ hmem
              obtain ⟨b, o, rfl, -⟩ := (HS.out.below HBwk.out).at_ hlt
              have HRow : Hid (∀ W, Below w.heap.size w W → W.cell? ⟨b, o + k * 3, none⟩ = some (.string (L.getD k default).path) ∧ W.cell? ⟨b, o + k * 3 + 1, none⟩ = some (.int .i64 (L.getD k default).id) ∧ W.cell? ⟨b, o + k * 3 + 2, none⟩ = some (.bool (L.getD k default).dir)) := fun W h => by
                obtain ⟨b', o', e', q0, q1, q2, _⟩ := (HS.out.below h).at_ hlt
                cases e'
                exact ⟨q0, q1, q2⟩
              have HLk := Lib.hid (tree_look (L.getD k default).path wr (by unfold maxLen; omega) (HTO.out.below HBk.out) HIO.out.rises.apart (HM.out.below HBwk.out) hlk)
              have hki : (k : Int) < (L.length : Int) := by omega
              have hkc : (k : Int) < (c0 : Int) := by omega
              generalize L.getD k default = nn at *
              obtain ⟨np, ni, nd⟩ := nn
              dsimp only at HRow HLk
              obtain ⟨p0, p1, p2⟩ := HRow.out _ HBwk.out
              clear hmem hmemO hlk hpsz
              go_wp2_with fail
              with_reducible refine Calls.mono HLk.out ?_
              rintro e w7 ⟨rfl, hB7⟩
              have HB7 := Lib.hid (blw HBk.out hB7)
              obtain ⟨q0, q1, q2⟩ := HRow.out _ (blw HBwk.out hB7)
              clear hB7 p0 p1 p2
              go_wp2
              exact ⟨⟨k + 1, by omega, by go_num, HB7⟩, by simp [intOf]; omega⟩
            · obtain rfl : k = L.length := by omega
              have hlt'' : decide ((L.length : Int) < (L.length : Int)) = false := by simp
              have HB9 := Lib.hid (blw HB3.out HBk.out)
              clear hlt
              go_upto_region 24 with (fail)
              generalize wr = w9 at *
              have HNw := Lib.hid (tree_new w9)
              go_wp2_with fail
              with_reducible refine Calls.mono HNw.out ?_
              rintro e w2 ⟨tb, mb, rfl, hT2, ht2, hm2, hB2⟩
              have hbp := BP.new (HM.out.below HB9.out) hT2 ht2 hm2 hB2
              have hB12 : Below w.heap.size w (w2.alloc (.cells #[.slice none 0 0, .int .i64 1] 30)) := (blw HB9.out hB2).alloc (blw HB9.out hB2).size _
              have HBp := Lib.hid hbp
              have HBw := Lib.hid hB12
              have hs12 := HB9.out.size
              have hs2' := hB2.size
              clear hbp hB12 hT2 hB2 HNw
              go_upto_region 25 with (fail)
              generalize w2.alloc (.cells #[.slice none 0 0, .int .i64 1] 30) = W at *
              generalize w2.heap.size = td at *
              go_wp2
              go_loopw [17] (fun i wr => ∃ (k : Nat) (T : TS), k ≤ D.length ∧ i = .int .i64 (k : Int) ∧ T.nx ≤ 1 + (k : Int) ∧ Hid (BP wr tb mb td T) ∧ Hid (Below w.heap.size w wr)) (fun i _ => D.length - (intOf i).toNat)
              case atStart => exact ⟨0, ⟨[], 1⟩, by omega, rfl, by decide, HBp, HBw⟩
              case round =>
                obtain ⟨k, T, hk, rfl, hnx, HBp, HBw⟩ := hrel
                by_cases hlt : k < D.length
                · obtain ⟨b, o, rfl, p0, p1, p2, p3⟩ := (HD.out.below HBw.out).at_ hlt
                  have hki : (k : Int) < (D.length : Int) := by omega
                  have hkc : (k : Int) < (c1 : Int) := by omega
                  have hmem : D.getD k default ∈ D := by simp [List.getD, hlt]
                  obtain ⟨hd1, hd2⟩ := HSz.out _ hmem
                  have hdo := law13_do (D.getD k default) wr HBp.out hd1 hd2 (by omega)
                  have hnx2 := deed_nx T (D.getD k default)
                  have HDo := Lib.hid hdo
                  generalize doS T (D.getD k default) = R at *
                  obtain ⟨T', x, y⟩ := R
                  generalize D.getD k default = d at *
                  obtain ⟨da, dp, dq, dd⟩ := d
                  dsimp only at p0 p1 p2 p3 hnx2 HDo
                  clear hmem hdo hd1 hd2
                  go_wp2_with fail
                  with_reducible refine Calls.mono HDo.out ?_
                  rintro e w3 ⟨rfl, hB3, hU3⟩
                  have HB3 := Lib.hid hB3
                  have HU3 := Lib.hid (hU3.below HBw.out (by intro x hx; simp at hx; omega))
                  clear hB3 hU3
                  go_wp2
                  exact ⟨⟨k + 1, T', by omega, by go_num, by omega, HB3, HU3⟩, by simp [intOf]; omega⟩
                · obtain rfl : k = D.length := by omega
                  have hlt' : decide ((D.length : Int) < (D.length : Int)) = false := by simp
                  have hfew := HBp.out.i.few
                  have HPs := Lib.hid (path_size HBp.out.i)
                  have hrb : true = true ↔ MayL T.nx T.L ∧ T.nx ≤ 4611686018427387904 := ⟨fun _ => ⟨MayL.of_inv HBp.out.i, by omega⟩, fun _ => rfl⟩
                  have HBl : Hid (∀ W a c, SlN W a T.L → T.L.length ≤ c → MLen W → Calls Tryz.prog 19 #[.int .i64 T.nx, .slice a T.L.length c] W (BuildAns W true T.nx T.L)) := fun W a c h1 h2 h3 => tree_build T.nx T.L a c W h1 h2 (by omega) (fun n hn => by have := HPs.out n hn; omega) h3 hrb
                  have HNx := Lib.hid (tree_next wr HBp.out.t)
                  have HNo := Lib.hid (tree_nodes wr HBp.out.t HBp.out.i)
                  clear hlt hrb
                  go_wp2_with fail
                  with_reducible refine Calls.mono HNx.out ?_
                  rintro e wr ⟨rfl, rfl⟩
                  go_wp2_with fail
                  with_reducible refine Calls.mono HNo.out ?_
                  rintro e w4 ⟨an, cn, rfl, hcn, hSn, hB4⟩
                  have HBp4 := Lib.hid (HBp.out.below hB4)
                  have HBw4 := Lib.hid (blw HBw.out hB4)
                  have HBd := Lib.hid (HBl.out w4 an cn hSn hcn HBp4.out.m)
                  clear hSn hB4 HNx HNo
                  go_wp2_with fail
                  with_reducible refine Calls.mono HBd.out ?_
                  intro e w5 hans
                  obtain ⟨yb, ym, O, rfl, hpm, hIO, hTO, _, _⟩ := hans.1 rfl
                  have hB5 := hans.2.2
                  have hOT : O = T.L := rises_uniq hIO.rises HBp4.out.i.rises hpm
                  subst hOT
                  have HBq : Hid (BQ w5 yb ym td T) := Lib.hid ⟨hTO, HBp4.out.d.below hB5, HBp4.out.i, HBp4.out.m.below hB5⟩
                  have HBw5 := Lib.hid (blw HBw4.out hB5)
                  clear hans hB5 hpm hIO hTO HBd
                  go_wp2_with fail
                  with_reducible refine Calls.mono (law13_sameq _ HBq.out) ?_
                  rintro e w6 ⟨rfl, hB6⟩
                  have HF := Lib.hid (blw HBw5.out hB6)
                  clear hB6
                  go_wp2
                  go_ret
                  exact ⟨rfl, HF.out⟩
end Go.Proofs.YtahdmkmefeocmaaGreatDoor
