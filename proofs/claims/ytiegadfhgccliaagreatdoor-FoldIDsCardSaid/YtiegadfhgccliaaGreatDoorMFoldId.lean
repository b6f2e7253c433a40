/- Walk of FoldIDs. UNDER WAY: does not build yet. -/
import Derived.Test.YtiegadfhgccliaaGreatDoorMFoldUs
import Derived.Test.YtiegadfhgccliaaGreatDoorMIdsP
import Derived.Test.YtiegadfhgccliaaGreatDoorMTreeT
import Derived.BigQuiet
namespace Go.Proofs.YtiegadfhgccliaaGreatDoor
open Go.RowKit Go.Lib
open Go.ChangeMaps (setBlock)

theorem own_turn {bs : List Nat} {w w' : World} {base : Nat} {e : TypeId} {size : Nat} {v : Value} {n : Nat} {xs : List Value} (h : w.ownsRow base e size v n xs) (ht : Turn bs w w') (hb : ∀ b ∈ bs, b < base) : w'.ownsRow base e size v n xs := by
  refine ⟨h.1, ?_⟩
  rcases h.2 with h0 | ⟨g, cap, cur, e1, hg, hc, r⟩
  · exact .inl h0
  · refine .inr ⟨g, cap, cur, e1, hg, (ht.block g (Array.getElem?_eq_some_iff.1 hc).1 fun hm => ?_).trans hc, r⟩
    have := hb g hm
    omega
theorem Turn.of_grown {w w' : World} {o : Option Nat} (h : w.grownBy w' o) : Turn o.toList w w' :=
  ⟨h.os, h.tape, h.output, h.size, fun k hk hn => h.block k hk fun e => hn (by rw [← e]; simp)⟩
/-- What else may turn. -/
theorem FK.turnX {bs : List Nat} {w0 w w' : World} {sb tb mb lb : Nat} {S : FS} {N : Nat} (h : FK w0 w sb tb mb lb S N) (ht : Turn bs w w') (h1 : ∀ b ∈ bs, b ≠ sb ∧ b ≠ tb ∧ b ≠ mb ∧ b ≠ lb ∧ w0.heap.size ≤ b) (h2 : ∀ b ∈ bs, NoPt w b) : FK w0 w' sb tb mb lb S N := by
  refine ⟨h.p.turn ht (fun e => (h1 _ e).1 rfl) (fun e => (h1 _ e).2.1 rfl) (fun e => (h1 _ e).2.2.1 rfl) (fun e => (h1 _ e).2.2.2.1 rfl) h2, h.i, h.m.turn ht fun e => ?_, h.few, h.m0, ht.below h.below fun b hb => (h1 b hb).2.2.2.2, h.h1, h.h2, h.h3, h.h4⟩
  have := (h1 _ e).2.2.2.2
  have := h.m0.lt
  omega
theorem FK.own {w0 w w' : World} {sb tb mb lb base n size : Nat} {S : FS} {N : Nat} {e : TypeId} {v : Value} {xs : List Value} (h : FK w0 w sb tb mb lb S N) (ho : w.ownsRow base e size v n xs) (hg : w.grownBy w' v.ownBlock) (hb : sb < base ∧ tb < base ∧ mb < base ∧ lb < base ∧ w0.heap.size ≤ base) (h1 : e ≠ 40) (h2 : e ≠ 87) : FK w0 w' sb tb mb lb S N := by
  have hk := ho.lt
  refine h.turnX (.of_grown hg) (fun b hbm => ?_) fun b hbm => ?_
  · have := hk b (by simpa using hbm)
    omega
  · rcases ho.2 with ⟨rfl, _⟩ | ⟨g, cap, cur, rfl, _, hgg, _⟩
    · simp [Value.ownBlock] at hbm
    · simp [Value.ownBlock] at hbm
      subst hbm
      exact .of_cells hgg h1 h2
theorem info_int : (Tryz.prog.info? 3).map (fun i => (i.zero, i.size, i.bytes)) = some (some (.int .i64 0), 1, 8) := by kernel_rfl
set_option maxRecDepth 100000 in
set_option maxHeartbeats 16000000 in
theorem foldIDs_walk (s0 : Option Addr) (c0 : Nat) (L : List DeedM) (w : World) (i0 : SlDd w s0 L) (hc : L.length ≤ c0) (hcm : c0 ≤ maxLen) (hm : MLen w) :
    Calls Tryz.prog 4 #[.slice s0 L.length c0] w fun e w' => e = .returned (.bool true) ∧ Below w.heap.size w w' := by
  have HAw := Lib.hid (awake15 w hm)
  have hcm2 : c0 ≤ 9223372036854775807 := by unfold maxLen at hcm; omega
  obtain ⟨i0_, hi, hz0, hz1, hz2⟩ := info_parts info_int
  have HSm : Hid (∀ W, Below w.heap.size w W → Calls Tryz.prog 8 #[.slice s0 L.length c0, .int .i64 80] W fun e w' => e = .returned (.bool (smallD L 80)) ∧ w' = W) := fun W h => law15_small L s0 c0 80 W (i0.below h) hc (by omega) (by decide)
  have HS := Lib.hid i0
  have HM := Lib.hid hm
  have hgl := hm.lt
  cases hsm : smallD L 80
  · rw [hsm] at HSm
    clear i0 hm hsm
    go_enter Tryz.func4, Tryz.ntmps4
    go_wp2_with fail
    refine HAw.out.mono ?_
    rintro e w1 ⟨rfl, hB1⟩
    go_wp2_with fail
    with_reducible refine Calls.mono (HSm.out _ hB1) ?_
    rintro e w1 ⟨rfl, rfl⟩
    go_wp2
    go_ret
    exact ⟨rfl, hB1⟩
  · rw [hsm] at HSm
    obtain ⟨hL80, hsm2⟩ := smallD_spec hsm
    have HSz := Lib.hid hsm2
    clear i0 hm hsm hsm2
    go_enter Tryz.func4, Tryz.ntmps4
    go_wp2_with fail
    refine HAw.out.mono ?_
    rintro e w1 ⟨rfl, hB1⟩
    go_wp2_with fail
    with_reducible refine Calls.mono (HSm.out _ hB1) ?_
    rintro e w1 ⟨rfl, rfl⟩
    have HNw := Lib.hid (kf_new w1 (HM.out.below hB1))
    have HB1 := Lib.hid hB1
    clear hB1 HAw HSm
    go_wp2_with fail
    with_reducible refine Calls.mono HNw.out ?_
    rintro e wN ⟨sb, tb, mb, lb, rfl, hk2⟩
    have hN1 := hk2.below.size
    have HK2 := Lib.hid hk2
    clear hk2 HNw
    have hlt2 := HK2.out.lt
    go_wp2
    go_loopw [4, 5] (fun v i wr => ∃ (k : Nat) (S : FS) (U : List Int), k ≤ L.length ∧ i = .int .i64 (k : Int) ∧ S.t.nx ≤ 1 + (k : Int) ∧ Hid (FK w1 wr sb tb mb lb S (61 * k)) ∧ Hid (wr.ownsRow wN.heap.size 3 1 v U.length (encI.cells U)) ∧ U.length ≤ k ∧ Hid (StepsI U) ∧ Hid (U ≠ [] → U.getD (U.length - 1) 0 = S.t.nx) ∧ wN.heap.size ≤ wr.heap.size ∧ Hid (∀ x ∈ U, 1 ≤ x ∧ x ≤ 1000)) (fun _ i _ => L.length - (intOf i).toNat)
    case atStart => exact ⟨0, ⟨⟨[], 1⟩, []⟩, [], by omega, rfl, by decide, HK2, Lib.hid (World.ownsRow_nil _ _ _ _), by simp, Lib.hid (fun i hi => by simp at hi), Lib.hid (fun h => absurd rfl h), Nat.le_refl _, Lib.hid (fun x hx => by cases hx)⟩
    case round =>
      obtain ⟨k, S, U, hk, rfl, hnx, HK, HO, hUk, HSt, HLa, hNr, HUb⟩ := hrel
      by_cases hlt : k < L.length
      · obtain ⟨b, o, rfl, hd0, hbw⟩ := HS.out.at_ hlt
        have hki : (k : Int) < (L.length : Int) := by omega
        have hkc : (k : Int) < (c0 : Int) := by omega
        have hmem : L.getD k default ∈ L := by simp [List.getD, hlt]
        obtain ⟨z1, z2, z3, z4⟩ := HSz.out _ hmem
        have HCp := Lib.hid (fold_copy wr HK.out.p)
        go_wp2_with fail
        with_reducible refine Calls.mono HCp.out ?_
        rintro e wc ⟨s2, t2, m2, l2, rfl, hP2, r1, r2, r3, r4, hBc⟩
        have HKc := Lib.hid (HK.out.bel hBc)
        have hszc := hBc.size
        have HP2 := Lib.hid hP2
        have HOc := Lib.hid (own_turn HO.out (.of_below (bs := []) hBc) (by simp))
        have hd := hd0.below (blw HB1.out HKc.out.below)
        have hlts := HK.out.lt
        have hB1s := HB1.out.size
        have hbn : b ∉ [tb, mb, lb] := by have := HK.out.h2; have := HK.out.h3; have := HK.out.h4; simp; omega
        clear hP2 hBc HCp
        have hnx1 := (apply_nx S (L.getD k default).e (L.getD k default).l).1
        have hnx2 := (apply_nx S (L.getD k default).e (L.getD k default).l).2
        obtain ⟨S', x, hap⟩ : ∃ S' x, applyS S (L.getD k default).e (L.getD k default).l = (S', x) := ⟨_, _, rfl⟩
        rw [hap] at hnx1 hnx2
        have HPt : Hid (∀ X, Below wc.heap.size wc X → Calls Tryz.prog 11 #[.slice (L.getD k default).la (L.getD k default).l.length (L.getD k default).lc] X fun e w' => ∃ a2 c2, e = .returned (.slice a2 (L.getD k default).l.length c2) ∧ (L.getD k default).l.length ≤ c2 ∧ SlPt w' a2 (L.getD k default).l ∧ Below X.heap.size X w') :=
          Lib.hid fun X h => law12_parts (L.getD k default).l (L.getD k default).la (L.getD k default).lc X (hd.l.below h) hd.lc (by omega)
        have HAp : Hid (∀ X a2 c2, Below wc.heap.size wc X → SlPt X a2 (L.getD k default).l → (L.getD k default).l.length ≤ c2 → Calls Tryz.prog 10 #[.pointer (some ⟨sb, 0, none⟩), evV (L.getD k default).e (L.getD k default).da (L.getD k default).dc, .slice a2 (L.getD k default).l.length c2] X fun e w' => e = .returned (.int .i64 x) ∧ FK w1 w' sb tb mb lb S' (61 * (k + 1)) ∧ Turn [tb, mb, lb] X w') :=
          Lib.hid fun X a2 c2 h hS2 hc2 => (kf_apply (L.getD k default).e (L.getD k default).l (L.getD k default).da a2 (L.getD k default).dc c2 (HKc.out.bel h) (by omega) (by omega) (by omega) (by omega) (by omega) hS2 hc2 (by omega) hap).mono fun e w' h => ⟨h.1, h.2.1.mono (by omega), h.2.2⟩
        have HNo := Lib.hid (fun hx0 : x ≠ 0 => apply_no hap hx0)
        have HAp0 := Lib.hid hap
        have HDc : Hid (∀ X, Turn [tb, mb, lb] wc X → _) := Lib.hid fun X h => hd.cells_of fun j u hu => (h.cell (p := ⟨b, o + k * 7 + j, none⟩) (hd.lt 0 _ rfl) hbn).trans (hd.c j u hu)
        clear hap hmem hd hd0 z1 z2 z3 z4
        generalize L.getD k default = d at *
        obtain ⟨⟨op, dp, dq, off, size, data⟩, da, dc, l, la, lc⟩ := d
        dsimp only [evV] at HDc HPt HAp
        generalize data.length = dn at *
        generalize l.length = ln at *
        obtain ⟨q0, q1, q2, q3, q4, q5, q6⟩ := HDc.out wc (.of_below (Below.refl _ _))
        go_upto_region 11 with (fail)
        go_region_held3 (fun w' => w'.cell? ⟨b, o + k * 7, none⟩ = some (.int .i64 op) ∧ w'.cell? ⟨b, o + k * 7 + 1, none⟩ = some (.string dp) ∧ w'.cell? ⟨b, o + k * 7 + 2, none⟩ = some (.string dq) ∧ w'.cell? ⟨b, o + k * 7 + 3, none⟩ = some (.int .i64 off) ∧ w'.cell? ⟨b, o + k * 7 + 4, none⟩ = some (.int .i64 size) ∧ w'.cell? ⟨b, o + k * 7 + 5, none⟩ = some (.slice da dn dc) ∧ w'.cell? ⟨b, o + k * 7 + 6, none⟩ = some (.slice la ln lc)) (first | go_keep | exact HDc.out _ (.of_below (Below.refl _ _)) | exact HDc.out _ (.of_below (below_drewN' (Below.refl _ _) 1)) | exact HDc.out _ (.of_below HB2.out) | exact HDc.out _ HT3.out) (first | (go_at_call 11; refine (HPt.out _ (by first | exact Below.refl _ _ | exact below_drewN' (Below.refl _ _) 1)).mono ?_; rintro e w2 ⟨a2, c2, rfl, hc2, hS2, hB2⟩; have HB2 := Lib.hid (show Below wc.heap.size wc w2 from blw (by first | exact Below.refl _ _ | exact below_drewN' (Below.refl _ _) 1) hB2); have HS2 := Lib.hid hS2; clear hB2 hS2) | (go_at_call 10; refine (HAp.out _ _ _ HB2.out HS2.out hc2).mono ?_; rintro e w3 ⟨rfl, hk3, ht3⟩; have HK3 := Lib.hid hk3; have HT3 := Lib.hid ((Turn.of_below (bs := [tb, mb, lb]) HB2.out).trans ht3); clear hk3 ht3))
        all_goals
          have HO3 := Lib.hid (own_turn HOc.out HT3.out (by simp; omega))
          have hsz3 := HT3.out.size
          by_cases hx0 : x = 0
          · subst hx0
            have HTr := Lib.hid (fold_tree w3 HK3.out.p)
            clear HNo
            go_wp2_with fail
            with_reducible refine Calls.mono HTr.out ?_
            rintro e w4 ⟨cb, cm, rfl, hT4, _, _, hB4⟩
            have HNd := Lib.hid (tree_nodes w4 hT4 HK3.out.i.t)
            have HB4 := Lib.hid hB4
            clear hT4 hB4 HTr
            go_wp2_with fail
            with_reducible refine Calls.mono HNd.out ?_
            rintro e w5 ⟨an, cn, rfl, hcn, hSn, hB5⟩
            have HB5 := Lib.hid (blw HB4.out hB5)
            have HSn := Lib.hid hSn
            clear hSn hB5 HB4 HNd
            go_wp2
            go_loopw [8] (fun i wr => ∃ m : Nat, m ≤ S'.t.L.length ∧ i = .int .i64 (m : Int) ∧ Hid (Below w3.heap.size w3 wr) ∧ Hid (SlN wr an S'.t.L)) (fun i _ => S'.t.L.length - (intOf i).toNat)
            case atStart => exact ⟨0, by omega, rfl, HB5, HSn⟩
            case round =>
              obtain ⟨m, hm, rfl, HBr, HSr⟩ := hrel
              have hfew' := HK3.out.i.t.few
              by_cases hmlt : m < S'.t.L.length
              · obtain ⟨nb, no, rfl, n0, n1, n2, nlt⟩ := HSr.out.at_ hmlt
                have hmi : (m : Int) < (S'.t.L.length : Int) := by omega
                have hmc : (m : Int) < (cn : Int) := by omega
                have hmn : S'.t.L.getD m default ∈ S'.t.L := by simp [List.getD, hmlt]
                have hPw := HP2.out.turn HT3.out (by simp; omega) (by simp; omega) (by simp; omega) (by simp; omega) HKc.out.p.nopt3
                have hI := HK.out.i
                have hI' := HK3.out.i
                have hsome := hI'.isSome hmn
                have HKp := Lib.hid (apply_kept HAp0.out make_id)
                have hwas : (S'.t.L.getD m default).id < S.t.nx → (S'.t.L.getD m default).dir = false → (bodyOf S.fs (S'.t.L.getD m default).id).isSome = true := fun h1 h2 => kept_was hI HKp.out hmn h1 h2
                have hsame : (bodyOf S.fs (S'.t.L.getD m default).id).isSome = true → op ≠ 3 → op ≠ 4 → bodyA S' (S'.t.L.getD m default).id = bodyA S (S'.t.L.getD m default).id := fun h1 h3 h4 => by unfold bodyA; rw [kept_same hI hI' HKp.out h3 h4 hmn h1]
                have HC1 : Hid (∀ W, Below wr.heap.size wr W → Calls Tryz.prog 16 #[.pointer (some ⟨s2, 0, none⟩), .int .i64 (S'.t.L.getD m default).id] W _) := Lib.hid fun W h => fold_body (S'.t.L.getD m default).id W (hPw.below (blw HBr.out h)) hI.once HK.out.few (by omega)
                have HC2 : Hid (∀ W, Below wr.heap.size wr W → Calls Tryz.prog 16 #[.pointer (some ⟨sb, 0, none⟩), .int .i64 (S'.t.L.getD m default).id] W _) := Lib.hid fun W h => fold_body (S'.t.L.getD m default).id W (HK3.out.p.below (blw HBr.out h)) hI'.once HK3.out.few (by omega)
                have HC3 : Hid (∀ W, Below wr.heap.size wr W → Calls Tryz.prog 14 #[.pointer (some ⟨s2, 0, none⟩)] W _) := Lib.hid fun W h => fold_tree W (hPw.below (blw HBr.out h))
                have HRn : Hid (∀ W, Below wr.heap.size wr W → W.cell? ⟨nb, no + m * 3 + 1, none⟩ = some (.int .i64 (S'.t.L.getD m default).id) ∧ W.cell? ⟨nb, no + m * 3 + 2, none⟩ = some (.bool (S'.t.L.getD m default).dir) ∧ W.cell? ⟨b, o + k * 7, none⟩ = some (.int .i64 op)) := Lib.hid fun W h => by
                  obtain ⟨b', o', e', _, p1, p2, _⟩ := (HSr.out.below h).at_ hmlt
                  cases e'
                  exact ⟨p1, p2, (HDc.out W (HT3.out.trans (.of_below (blw HBr.out h)))).1⟩
                have hq0 := (HRn.out wr (Below.refl _ _)).1
                have hwf : Hid (∀ z, bodyA S (S'.t.L.getD m default).id = z → True) := Lib.hid fun _ _ => trivial
                generalize bodyA S' (S'.t.L.getD m default).id = B' at *
                generalize bodyA S (S'.t.L.getD m default).id = B at *
                generalize (bodyOf S'.fs (S'.t.L.getD m default).id).isSome = iz at *
                generalize (bodyOf S.fs (S'.t.L.getD m default).id).isSome = wz at *
                generalize S'.t.L.getD m default = n at *
                obtain ⟨np, ni, nd⟩ := n
                dsimp only at hsome hwas hsame HC1 HC2 HC3 HRn hq0
                have hizt : nd = true → iz = false := fun h => by rw [hsome, h]; rfl
                have hizf : nd = false → iz = true := fun h => by rw [hsome, h]; rfl
                clear hsome
                have hszr := HBr.out.size
                clear hPw hI hI' hmn hwf
                go_wp2_with fail
                with_reducible refine Calls.mono (HC1.out wr (Below.refl _ _)) ?_
                rintro e w6 ⟨a6, c6, rfl, hc6, _, hB6⟩
                have HB6 := Lib.hid (bal hB6 (.cells #[.int .i64 B.size, .slice a6 B.parts.length c6] 47))
                clear hB6 hq0
                go_upto_region 17 with (fail)
                generalize w6.alloc (.cells #[.int .i64 B.size, .slice a6 B.parts.length c6] 47) = v6 at *
                have hq1 := (HRn.out v6 HB6.out).1
                go_wp2_with fail
                with_reducible refine Calls.mono (HC2.out v6 HB6.out) ?_
                rintro e w7 ⟨a7, c7, rfl, hc7, _, hB7⟩
                have hB7' := blw HB6.out hB7
                have HB7 := Lib.hid (bal hB7' (.cells #[.int .i64 B'.size, .slice a7 B'.parts.length c7] 47))
                have hp7 := heap_alloc_new w7 (.cells #[.int .i64 B'.size, .slice a7 B'.parts.length c7] 47)
                have hs7 : (w7.alloc (.cells #[.int .i64 B'.size, .slice a7 B'.parts.length c7] 47)).heap.size = w7.heap.size + 1 := by simp
                clear hB7 hB7' hq1
                go_upto_region 18 with (fail)
                generalize w7.alloc (.cells #[.int .i64 B'.size, .slice a7 B'.parts.length c7] 47) = v7 at *
                generalize w7.heap.size = p7 at *
                have hq2 := (HRn.out v7 HB7.out).1
                go_wp2_with fail
                with_reducible refine Calls.mono (HC1.out v7 HB7.out) ?_
                rintro e w8 ⟨a8, c8, rfl, hc8, _, hB8⟩
                have hB8' := blw HB7.out hB8
                have hz8 := hB8.size
                have HB8 := Lib.hid (bal hB8' (.cells #[.int .i64 B.size, .slice a8 B.parts.length c8] 47))
                have hp8 := heap_alloc_new w8 (.cells #[.int .i64 B.size, .slice a8 B.parts.length c8] 47)
                have hs8 : (w8.alloc (.cells #[.int .i64 B.size, .slice a8 B.parts.length c8] 47)).heap.size = w8.heap.size + 1 := by simp
                have hp78 := ((bal hB8 (.cells #[.int .i64 B.size, .slice a8 B.parts.length c8] 47)).block p7 (by omega)).trans hp7
                clear hB8 hB8' hq2 hp7
                go_upto_region 19 with (fail)
                generalize w8.alloc (.cells #[.int .i64 B.size, .slice a8 B.parts.length c8] 47) = v8 at *
                generalize w8.heap.size = p8 at *
                have hr8 := (HRn.out v8 HB8.out).1
                go_region_held3 (fun w' => w'.cell? ⟨nb, no + m * 3 + 1, none⟩ = some (.int .i64 ni)) (first | go_keep | exact (HRn.out _ HB8.out).1 | exact (HRn.out _ (below_drewN' HB8.out 1)).1 | exact (HRn.out _ HB9.out).1) (first | (go_at_call 17; refine HN9.out.mono ?_; rintro e w9 ⟨rfl, rfl⟩) | (go_at_call 14; refine (HC3.out _ (by first | exact HB8.out | exact below_drewN' HB8.out 1)).mono ?_; rintro e w9 ⟨cb, cm, rfl, hT9, _, _, hB9⟩; have HB9 := Lib.hid (blw (show Below wr.heap.size wr _ from by first | exact HB8.out | exact below_drewN' HB8.out 1) hB9); have HV9 : Hid (Below v8.heap.size v8 w9) := Lib.hid (blw (show Below v8.heap.size v8 _ from by first | exact Below.refl _ _ | exact below_drewN' (Below.refl _ _) 1) hB9); have HN9 := Lib.hid (tree_next w9 hT9); clear hT9 hB9))
                all_goals
                  have g7 := (HV9.out.block p7 (by omega)).trans hp78
                  have g8 := (HV9.out.block p8 (by omega)).trans hp8
                  obtain ⟨-, hr9, hop9⟩ := HRn.out _ HB9.out
                  obtain ⟨x0, x1⟩ := b2_facts g7
                  obtain ⟨y0, y1⟩ := b2_facts g8
                  clear g7 g8 hp78 hp8 hr8 HV9 HN9 HC1 HC2 HC3 HRn
                  have HBn := Lib.hid (blw HBr.out HB9.out)
                  have HSn9 := Lib.hid (HSr.out.below HB9.out)
                  clear HB9
                  have hobt : decide (ni < S.t.nx) = true → ni < S.t.nx := fun h => by simpa using h
                  generalize decide (ni < S.t.nx) = ob at *
                  go_upto_region 20 with (fail)
                  go_cut [114] from 93 to 114 (fun bv wx => bv = .bool false ∧ w9 = wx)
                  case first =>
                    clear hsame
                    cases nd with
                    | false =>
                      have hz := hizf rfl
                      subst hz
                      cases ob with
                      | false =>
                        clear hwas
                        go_wp2
                        go_meet
                        exact ⟨rfl, rfl⟩
                      | true =>
                        have hw : wz = true := hwas (hobt rfl) rfl
                        subst hw
                        clear hwas
                        go_wp2
                        go_meet
                        exact ⟨rfl, rfl⟩
                    | true =>
                      have hz := hizt rfl
                      subst hz
                      clear hwas
                      cases ob with
                      | false =>
                        go_wp2
                        go_meet
                        exact ⟨rfl, rfl⟩
                      | true =>
                        go_wp2
                        go_meet
                        exact ⟨rfl, rfl⟩
                  case rest =>
                    obtain ⟨rfl, rfl⟩ := hcut
                    go_upto_region 22 with (fail)
                    go_cut [149] from 115 to 149 (fun bv wx => bv = .bool false ∧ w9 = wx)
                    case first =>
                      clear hwas hizt hizf hobt
                      cases wz with
                      | false =>
                        clear hsame
                        go_wp2
                        go_meet
                        exact ⟨rfl, rfl⟩
                      | true =>
                        by_cases h3 : op = 3
                        · subst h3
                          clear hsame
                          go_wp2
                          go_meet
                          exact ⟨rfl, rfl⟩
                        · by_cases h4 : op = 4
                          · subst h4
                            clear hsame
                            go_wp2
                            go_meet
                            exact ⟨rfl, rfl⟩
                          · have hs := hsame rfl h3 h4
                            subst hs
                            have h3' : (op != 3) = true := by simpa using h3
                            have h4' : (op != 4) = true := by simpa using h4
                            clear hsame h3 h4
                            go_wp2
                            go_meet
                            exact ⟨rfl, rfl⟩
                    case rest =>
                      obtain ⟨rfl, rfl⟩ := hcut
                      clear hwas hsame hizt hizf hobt
                      go_wp2
                      exact ⟨⟨m + 1, by omega, by go_num, HBn, HSn9⟩, by simp [intOf]; omega⟩
              · obtain rfl : m = S'.t.L.length := by omega
                have hltm : decide ((S'.t.L.length : Int) < (S'.t.L.length : Int)) = false := by simp
                have HTr2 := Lib.hid (fold_tree wr (HK3.out.p.below HBr.out))
                have HOr := Lib.hid (own_turn HO3.out (.of_below (bs := []) HBr.out) (by simp))
                have HKr := Lib.hid (HK3.out.bel HBr.out)
                clear hmlt HT3 HP2 HKc HOc HK HSr HSn HB5
                go_wp2_with fail
                with_reducible refine Calls.mono HTr2.out ?_
                rintro e w6 ⟨cb2, cm2, rfl, hT6, _, _, hB6⟩
                have HNx := Lib.hid (tree_next w6 hT6)
                have HO6 := Lib.hid (own_turn HOr.out (.of_below (bs := []) hB6) (by simp))
                have HK6 := Lib.hid (HKr.out.bel hB6)
                have hs6 := hB6.size
                have HBr' := HBr
                have hI' := Lib.hid HK3.out.i.t.nx1
                clear hT6 hB6 HTr2 HOr HKr HO3 HK3 HBr
                go_wp2_with fail
                with_reducible refine Calls.mono HNx.out ?_
                rintro e w6 ⟨rfl, rfl⟩
                have hszr := HBr'.out.size
                have hnx0 := hI'.out
                have HKa := Lib.hid (HK6.out.bel (bal (Below.refl _ _) (.cells #[.int .i64 S'.t.nx] 3)))
                have hbig : wN.heap.size ≤ w6.heap.size := by omega
                go_wp2_with (at_builtin; refine wpList_append_own _ rfl (.tmp 150) (.tmp 154) 37 rfl wN.heap.size 3 i0_ _ 1 8 Tryz.underlying37 hi hz0 hz1 hz2 rfl (by decide) _ _ _ rfl (HO6.out.alloc _) ⟨w6.heap.size, 0, none⟩ 1 1 [.int .i64 S'.t.nx] rfl rfl (one_new _ _ _) (by intro u hu; simp at hu; subst hu; rfl) (by unfold maxLen; omega) (by omega) (by simp; omega) ?_; intro v' w7 hown' hgrow hnil; clear hnil; have HO7 := Lib.hid hown'; have HG7 := Lib.hid hgrow; clear hown' hgrow)
                have hg7 := HG7.out.size
                have e6 : (w6.alloc (.cells #[.int .i64 S'.t.nx] 3)).heap.size = w6.heap.size + 1 := by simp
                refine ⟨⟨k + 1, S', U ++ [S'.t.nx], by omega, by go_num, by omega, Lib.hid (HKa.out.own (HO6.out.alloc _) HG7.out ⟨hlt2.1, hlt2.2.1, hlt2.2.2.1, hlt2.2.2.2, hN1⟩ (by decide) (by decide)), ?_, by simp; omega, Lib.hid (HSt.out.snoc fun h => ?_), Lib.hid fun _ => by simp [List.getD], by omega, Lib.hid fun x hx => ?_⟩, by simp [intOf]; omega⟩
                · have := HO7.out
                  rw [cellsK_snoc, List.length_append, List.length_singleton]
                  exact Lib.hid this
                · rw [HLa.out h]; exact ⟨hnx1, hnx2⟩
                · rcases List.mem_append.1 hx with hx | hx
                  · exact HUb.out x hx
                  · simp only [List.mem_singleton] at hx
                    subst hx
                    omega
          · have hxb : (x == 0) = false := by simpa using hx0
            have hSS : S' = S := HNo.out hx0
            subst hSS
            clear hx0
            go_wp2
            exact ⟨⟨k + 1, S', U, by omega, by go_num, by omega, HK3, HO3, by omega, HSt, HLa, by omega, HUb⟩, by simp [intOf]; omega⟩
      · obtain rfl : k = L.length := by omega
        have hlt' : decide ((L.length : Int) < (L.length : Int)) = false := by simp
        obtain ⟨ua, uc, rfl, huc, hUS, _⟩ := SlK.own (E := encI) HO.out
        have HUS := Lib.hid hUS
        have HBl := Lib.hid (blw HB1.out HK.out.below)
        clear hlt HO HK hUS HK2 HSz HLa
        go_wp2
        go_loopw [16] (fun i wx => ∃ j : Nat, 1 ≤ j ∧ i = .int .i64 (j : Int) ∧ Hid (Below wr.heap.size wr wx) ∧ j ≤ U.length + 1) (fun i _ => U.length + 1 - (intOf i).toNat)
        case atStart => exact ⟨1, by omega, rfl, Lib.hid (Below.refl _ _), by omega⟩
        case round =>
          obtain ⟨j, hj1, rfl, HBx, hju⟩ := hrel
          by_cases hjl : j < U.length
          · obtain ⟨jm, hj⟩ : ∃ jm, j = jm + 1 := ⟨j - 1, by omega⟩
            obtain ⟨b1, o1, rfl, hc1, _⟩ := SlI_at (HUS.out.below HBx.out) hjl
            obtain ⟨b2, o2, e2, hc2, _⟩ := SlI_at (HUS.out.below HBx.out) (show jm < U.length by omega)
            cases e2
            have hst := HSt.out jm (by omega)
            have hub : ∀ q, q < U.length → 1 ≤ U.getD q 0 ∧ U.getD q 0 ≤ 1000 := fun q hq => HUb.out _ (by simp [List.getD, hq])
            have hu1 := hub jm (by omega)
            have hu2 := hub j hjl
            rw [show (default : Int) = 0 from rfl] at hc1 hc2
            rw [← hj] at hst
            clear hub
            generalize U.getD j 0 = x at *
            generalize U.getD jm 0 = y at *
            have hji : (j : Int) < (U.length : Int) := by omega
            have hjc : (j : Int) < (uc : Int) := by omega
            have hmi : (jm : Int) < (U.length : Int) := by omega
            have hmc : (jm : Int) < (uc : Int) := by omega
            have hc3 : wr.cell? ⟨b1, o1 + (j - 1), none⟩ = some (.int .i64 y) := by rw [show j - 1 = jm by omega]; exact hc2
            have hj0 : (1 : Int) ≤ (j : Int) := by omega
            have hxy : decide (x < y) = false := by simp; omega
            have hwy : wrap64 (y + 1) = y + 1 := w64 (by omega) (by omega)
            have hxy2 : decide (x > y + 1) = false := by simp; omega
            clear hj1 hj hst hc2 hmi hmc
            go_wp2_with fail
            go_quiet (fail)
            have HBq := Lib.hid (below_drewN HBx.out nq)
            go_wp2
            exact ⟨⟨j + 1, by omega, by go_num, HBq, by omega⟩, by simp [intOf]; omega⟩
          · have hjl' : decide ((j : Int) < (U.length : Int)) = false := by simp; omega
            have HF := Lib.hid (blw HBl.out HBx.out)
            go_wp2
            go_ret
            exact ⟨rfl, HF.out⟩
end Go.Proofs.YtiegadfhgccliaaGreatDoor
