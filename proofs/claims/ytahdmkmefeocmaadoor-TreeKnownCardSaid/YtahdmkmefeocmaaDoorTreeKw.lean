/- TreeKnown: the walk. (Printed by gen_known13.py w.) -/
import Derived.Test.YtahdmkmefeocmaaDoorTreeKn
namespace Go.Proofs.YtahdmkmefeocmaaDoor
open Go.RowKit Go.Lib
open Go.ChangeMaps (setBlock)

def kcs : List Int := [3, 5, 4, 0, 0, 0, 7, 5, 4, 8, 10, 4, 7, 0, 5, 5, 5, 3, 8, 6, 7, 8, 4, 0, 0, 0]
def CK (w : World) (g : Nat) : Prop := g < w.heap.size ∧ ∀ k, k < 26 → w.cell? ⟨g, k, none⟩ = some (.int .i64 (kcs.getD k 0))
theorem CK.new (w : World) (t : TypeId) : CK (w.alloc (.cells #[.int .i64 3, .int .i64 5, .int .i64 4, .int .i64 0, .int .i64 0, .int .i64 0, .int .i64 7, .int .i64 5, .int .i64 4, .int .i64 8, .int .i64 10, .int .i64 4, .int .i64 7, .int .i64 0, .int .i64 5, .int .i64 5, .int .i64 5, .int .i64 3, .int .i64 8, .int .i64 6, .int .i64 7, .int .i64 8, .int .i64 4, .int .i64 0, .int .i64 0, .int .i64 0] t)) w.heap.size := by
  refine ⟨by simp, fun k hk => ?_⟩
  unfold World.cell?
  have h := heap_alloc_new w (.cells ((kcs.map (Value.int .i64)).toArray) t)
  have e : (kcs.map (Value.int .i64)).toArray = #[.int .i64 3, .int .i64 5, .int .i64 4, .int .i64 0, .int .i64 0, .int .i64 0, .int .i64 7, .int .i64 5, .int .i64 4, .int .i64 8, .int .i64 10, .int .i64 4, .int .i64 7, .int .i64 0, .int .i64 5, .int .i64 5, .int .i64 5, .int .i64 3, .int .i64 8, .int .i64 6, .int .i64 7, .int .i64 8, .int .i64 4, .int .i64 0, .int .i64 0, .int .i64 0] := rfl
  rw [e] at h
  rw [h]
  show (#[.int .i64 3, .int .i64 5, .int .i64 4, .int .i64 0, .int .i64 0, .int .i64 0, .int .i64 7, .int .i64 5, .int .i64 4, .int .i64 8, .int .i64 10, .int .i64 4, .int .i64 7, .int .i64 0, .int .i64 5, .int .i64 5, .int .i64 5, .int .i64 3, .int .i64 8, .int .i64 6, .int .i64 7, .int .i64 8, .int .i64 4, .int .i64 0, .int .i64 0, .int .i64 0] : Array Value)[k]? = _
  rw [← e, List.getElem?_toArray, List.getElem?_map, List.getD_eq_getElem?_getD, List.getElem?_eq_getElem (show k < kcs.length from hk)]
  rfl
theorem CK.bel {w w' : World} {g : Nat} (h : CK w g) (hb : Below w.heap.size w w') : CK w' g := ⟨Nat.lt_of_lt_of_le h.1 hb.size, fun k hk => (hb.cell (p := ⟨g, k, none⟩) h.1).trans (h.2 k hk)⟩
set_option maxRecDepth 100000 in
set_option maxHeartbeats 16000000 in
theorem treeKnown_walk (w : World) (hm : MLen w) : Calls Tryd.prog 3 #[] w fun e w' => e = .returned (.bool true) ∧ Below w.heap.size w w' := by
  have haw := awake13 w hm
  have HM := Lib.hid hm
  have hmf : ∀ (fn : Fn) (first cap : Array Value) (w : World), (Instr.makeFunc fn first cap).run Tryd.prog w = .ok (.func fn first cap) w := fun _ _ _ _ => rfl
  clear hm
  go_enter Tryd.func3, Tryd.ntmps3
  go_wp2_with fail
  refine haw.mono ?_
  rintro e v0 ⟨rfl, hb0⟩
  have hnew := k_new v0 (HM.out.below hb0)
  have HB0 := Lib.hid hb0
  clear hb0
  go_wp2_with fail
  refine hnew.mono ?_
  rintro e v1 ⟨tb, mb, rfl, hk⟩
  have hlt := hk.tree.lt
  have HK0 : Hid (TK v0 _ tb mb ks0) := Lib.hid (hk.bel ((Below.refl _ v1).alloc (Nat.le_refl _) (.cells #[.pointer (some ⟨tb, 0, none⟩)] 23)))
  have HV0 : Hid (TV (v1.alloc (.cells #[.pointer (some ⟨tb, 0, none⟩)] 23)) tb mb v1.heap.size) := ⟨by unfold World.cell?; rw [heap_alloc_new]; rfl, by simp; omega⟩
  have hcell := HV0.out.cell
  clear hk hlt
  go_upto_region 9 with (fail)
  generalize v1.alloc (.cells #[.pointer (some ⟨tb, 0, none⟩)] 23) = w0 at *
  generalize v1.heap.size = pb at *
  go_cut [5] from 23 to 75 (fun v wx => ∃ g, v = .slice (some ⟨g, 0, none⟩) 26 26 ∧ Hid (TK v0 wx tb mb ks26) ∧ Hid (TV wx tb mb pb) ∧ Hid (CK wx g))
  case first =>
    go_wp2_with fail
    with_reducible refine Calls.mono (kl_make ⟨#[97]⟩ false (T := ks0) (T' := ks1) (c := 3) HK0.out HV0.out (by decide) kx1 ke1 kc1) ?_
    rintro e w1 ⟨rfl, hk, hv, _⟩
    have HK1 := Lib.hid hk
    have HV1 := Lib.hid hv
    clear hk hv HK0 HV0
    go_wp2_with fail
    with_reducible refine Calls.mono (kl_make ⟨#[47]⟩ true (T := ks1) (T' := ks2) (c := 5) HK1.out HV1.out (by decide) kx2 ke2 kc2) ?_
    rintro e w2 ⟨rfl, hk, hv, _⟩
    have HK2 := Lib.hid hk
    have HV2 := Lib.hid hv
    clear hk hv HK1 HV1
    go_wp2_with fail
    with_reducible refine Calls.mono (kl_make ⟨#[47, 120, 47, 121]⟩ false (T := ks2) (T' := ks3) (c := 4) HK2.out HV2.out (by decide) kx3 ke3 kc3) ?_
    rintro e w3 ⟨rfl, hk, hv, _⟩
    have HK3 := Lib.hid hk
    have HV3 := Lib.hid hv
    clear hk hv HK2 HV2
    go_wp2_with fail
    with_reducible refine Calls.mono (kl_make ⟨#[47, 100]⟩ true (T := ks3) (T' := ks4) (c := 0) HK3.out HV3.out (by decide) kx4 ke4 kc4) ?_
    rintro e w4 ⟨rfl, hk, hv, _⟩
    have HK4 := Lib.hid hk
    have HV4 := Lib.hid hv
    clear hk hv HK3 HV3
    go_wp2_with fail
    with_reducible refine Calls.mono (kl_make ⟨#[47, 100, 47, 101]⟩ true (T := ks4) (T' := ks5) (c := 0) HK4.out HV4.out (by decide) kx5 ke5 kc5) ?_
    rintro e w5 ⟨rfl, hk, hv, _⟩
    have HK5 := Lib.hid hk
    have HV5 := Lib.hid hv
    clear hk hv HK4 HV4
    go_wp2_with fail
    with_reducible refine Calls.mono (kl_make ⟨#[47, 102]⟩ false (T := ks5) (T' := ks6) (c := 0) HK5.out HV5.out (by decide) kx6 ke6 kc6) ?_
    rintro e w6 ⟨rfl, hk, hv, _⟩
    have HK6 := Lib.hid hk
    have HV6 := Lib.hid hv
    clear hk hv HK5 HV5
    go_wp2_with fail
    with_reducible refine Calls.mono (kl_make ⟨#[47, 102, 47, 103]⟩ false (T := ks6) (T' := ks7) (c := 7) HK6.out HV6.out (by decide) kx7 ke7 kc7) ?_
    rintro e w7 ⟨rfl, hk, hv, _⟩
    have HK7 := Lib.hid hk
    have HV7 := Lib.hid hv
    clear hk hv HK6 HV6
    go_wp2_with fail
    with_reducible refine Calls.mono (kl_make ⟨#[47, 100]⟩ false (T := ks7) (T' := ks8) (c := 5) HK7.out HV7.out (by decide) kx8 ke8 kc8) ?_
    rintro e w8 ⟨rfl, hk, hv, _⟩
    have HK8 := Lib.hid hk
    have HV8 := Lib.hid hv
    clear hk hv HK7 HV7
    go_wp2_with fail
    with_reducible refine Calls.mono (kl_ren ⟨#[47, 113]⟩ ⟨#[47, 122]⟩ (T := ks8) (T' := ks9) (c := 4) HK8.out HV8.out (by decide) (by decide) ke9 kc9) ?_
    rintro e w9 ⟨rfl, hk, hv, _⟩
    have HK9 := Lib.hid hk
    have HV9 := Lib.hid hv
    clear hk hv HK8 HV8
    go_wp2_with fail
    with_reducible refine Calls.mono (kl_ren ⟨#[47]⟩ ⟨#[47, 122]⟩ (T := ks9) (T' := ks10) (c := 8) HK9.out HV9.out (by decide) (by decide) ke10 kc10) ?_
    rintro e w10 ⟨rfl, hk, hv, _⟩
    have HK10 := Lib.hid hk
    have HV10 := Lib.hid hv
    clear hk hv HK9 HV9
    go_wp2_with fail
    with_reducible refine Calls.mono (kl_ren ⟨#[47, 100]⟩ ⟨#[47, 100, 47, 101, 47, 102]⟩ (T := ks10) (T' := ks11) (c := 10) HK10.out HV10.out (by decide) (by decide) ke11 kc11) ?_
    rintro e w11 ⟨rfl, hk, hv, _⟩
    have HK11 := Lib.hid hk
    have HV11 := Lib.hid hv
    clear hk hv HK10 HV10
    go_wp2_with fail
    with_reducible refine Calls.mono (kl_ren ⟨#[47, 100]⟩ ⟨#[47, 120, 47, 121]⟩ (T := ks11) (T' := ks12) (c := 4) HK11.out HV11.out (by decide) (by decide) ke12 kc12) ?_
    rintro e w12 ⟨rfl, hk, hv, _⟩
    have HK12 := Lib.hid hk
    have HV12 := Lib.hid hv
    clear hk hv HK11 HV11
    go_wp2_with fail
    with_reducible refine Calls.mono (kl_ren ⟨#[47, 100]⟩ ⟨#[47, 102, 47, 121]⟩ (T := ks12) (T' := ks13) (c := 7) HK12.out HV12.out (by decide) (by decide) ke13 kc13) ?_
    rintro e w13 ⟨rfl, hk, hv, _⟩
    have HK13 := Lib.hid hk
    have HV13 := Lib.hid hv
    clear hk hv HK12 HV12
    go_wp2_with fail
    with_reducible refine Calls.mono (kl_ren ⟨#[47, 100]⟩ ⟨#[47, 100]⟩ (T := ks13) (T' := ks14) (c := 0) HK13.out HV13.out (by decide) (by decide) ke14 kc14) ?_
    rintro e w14 ⟨rfl, hk, hv, _⟩
    have HK14 := Lib.hid hk
    have HV14 := Lib.hid hv
    clear hk hv HK13 HV13
    go_wp2_with fail
    with_reducible refine Calls.mono (kl_ren ⟨#[47, 102]⟩ ⟨#[47, 100]⟩ (T := ks14) (T' := ks15) (c := 5) HK14.out HV14.out (by decide) (by decide) ke15 kc15) ?_
    rintro e w15 ⟨rfl, hk, hv, _⟩
    have HK15 := Lib.hid hk
    have HV15 := Lib.hid hv
    clear hk hv HK14 HV14
    go_wp2_with fail
    with_reducible refine Calls.mono (kl_ren ⟨#[47, 100]⟩ ⟨#[47, 102]⟩ (T := ks15) (T' := ks16) (c := 5) HK15.out HV15.out (by decide) (by decide) ke16 kc16) ?_
    rintro e w16 ⟨rfl, hk, hv, _⟩
    have HK16 := Lib.hid hk
    have HV16 := Lib.hid hv
    clear hk hv HK15 HV15
    go_wp2_with fail
    with_reducible refine Calls.mono (kl_ren ⟨#[47, 102]⟩ ⟨#[47]⟩ (T := ks16) (T' := ks17) (c := 5) HK16.out HV16.out (by decide) (by decide) ke17 kc17) ?_
    rintro e w17 ⟨rfl, hk, hv, _⟩
    have HK17 := Lib.hid hk
    have HV17 := Lib.hid hv
    clear hk hv HK16 HV16
    go_wp2_with fail
    with_reducible refine Calls.mono (kl_ren ⟨#[47, 102]⟩ ⟨#[113]⟩ (T := ks17) (T' := ks18) (c := 3) HK17.out HV17.out (by decide) (by decide) ke18 kc18) ?_
    rintro e w18 ⟨rfl, hk, hv, _⟩
    have HK18 := Lib.hid hk
    have HV18 := Lib.hid hv
    clear hk hv HK17 HV17
    go_wp2_with fail
    with_reducible refine Calls.mono (kl_drop ⟨#[47, 100]⟩ true (T := ks18) (T' := ks19) (c := 8) HK18.out HV18.out (by decide) ke19 kc19) ?_
    rintro e w19 ⟨rfl, hk, hv, _⟩
    have HK19 := Lib.hid hk
    have HV19 := Lib.hid hv
    clear hk hv HK18 HV18
    go_wp2_with fail
    with_reducible refine Calls.mono (kl_drop ⟨#[47, 100]⟩ false (T := ks19) (T' := ks20) (c := 6) HK19.out HV19.out (by decide) ke20 kc20) ?_
    rintro e w20 ⟨rfl, hk, hv, _⟩
    have HK20 := Lib.hid hk
    have HV20 := Lib.hid hv
    clear hk hv HK19 HV19
    go_wp2_with fail
    with_reducible refine Calls.mono (kl_drop ⟨#[47, 102]⟩ true (T := ks20) (T' := ks21) (c := 7) HK20.out HV20.out (by decide) ke21 kc21) ?_
    rintro e w21 ⟨rfl, hk, hv, _⟩
    have HK21 := Lib.hid hk
    have HV21 := Lib.hid hv
    clear hk hv HK20 HV20
    go_wp2_with fail
    with_reducible refine Calls.mono (kl_drop ⟨#[47]⟩ true (T := ks21) (T' := ks22) (c := 8) HK21.out HV21.out (by decide) ke22 kc22) ?_
    rintro e w22 ⟨rfl, hk, hv, _⟩
    have HK22 := Lib.hid hk
    have HV22 := Lib.hid hv
    clear hk hv HK21 HV21
    go_wp2_with fail
    with_reducible refine Calls.mono (kl_drop ⟨#[47, 113]⟩ true (T := ks22) (T' := ks23) (c := 4) HK22.out HV22.out (by decide) ke23 kc23) ?_
    rintro e w23 ⟨rfl, hk, hv, _⟩
    have HK23 := Lib.hid hk
    have HV23 := Lib.hid hv
    clear hk hv HK22 HV22
    go_wp2_with fail
    with_reducible refine Calls.mono (kl_ren ⟨#[47, 102]⟩ ⟨#[47, 100, 47, 101, 47, 104]⟩ (T := ks23) (T' := ks24) (c := 0) HK23.out HV23.out (by decide) (by decide) ke24 kc24) ?_
    rintro e w24 ⟨rfl, hk, hv, _⟩
    have HK24 := Lib.hid hk
    have HV24 := Lib.hid hv
    clear hk hv HK23 HV23
    go_wp2_with fail
    with_reducible refine Calls.mono (kl_drop ⟨#[47, 100, 47, 101, 47, 104]⟩ false (T := ks24) (T' := ks25) (c := 0) HK24.out HV24.out (by decide) ke25 kc25) ?_
    rintro e w25 ⟨rfl, hk, hv, _⟩
    have HK25 := Lib.hid hk
    have HV25 := Lib.hid hv
    clear hk hv HK24 HV24
    go_wp2_with fail
    with_reducible refine Calls.mono (kl_drop ⟨#[47, 100, 47, 101]⟩ true (T := ks25) (T' := ks26) (c := 0) HK25.out HV25.out (by decide) ke26 kc26) ?_
    rintro e w26 ⟨rfl, hk, hv, _⟩
    have HK26 := Lib.hid hk
    have HV26 := Lib.hid hv
    clear hk hv HK25 HV25
    have hb : Below w26.heap.size w26 (w26.alloc (.cells #[.int .i64 3, .int .i64 5, .int .i64 4, .int .i64 0, .int .i64 0, .int .i64 0, .int .i64 7, .int .i64 5, .int .i64 4, .int .i64 8, .int .i64 10, .int .i64 4, .int .i64 7, .int .i64 0, .int .i64 5, .int .i64 5, .int .i64 5, .int .i64 3, .int .i64 8, .int .i64 6, .int .i64 7, .int .i64 8, .int .i64 4, .int .i64 0, .int .i64 0, .int .i64 0] 3)) := (Below.refl _ w26).alloc (Nat.le_refl _) _
    go_wp2
    go_meet
    case rel => exact ⟨w26.heap.size, rfl, Lib.hid (HK26.out.bel hb), Lib.hid (HV26.out.below hb), Lib.hid (CK.new w26 _)⟩
  case rest =>
    obtain ⟨g, rfl, HK, HV, HG⟩ := hcut
    clear HK0 HV0 hcell
    have hb : Below wc.heap.size wc (wc.alloc (.cells #[.int .i64 3, .int .i64 5, .int .i64 4, .int .i64 0, .int .i64 0, .int .i64 0, .int .i64 7, .int .i64 5, .int .i64 4, .int .i64 8, .int .i64 10, .int .i64 4, .int .i64 7, .int .i64 0, .int .i64 5, .int .i64 5, .int .i64 5, .int .i64 3, .int .i64 8, .int .i64 6, .int .i64 7, .int .i64 8, .int .i64 4, .int .i64 0, .int .i64 0, .int .i64 0] 3)) := (Below.refl _ wc).alloc (Nat.le_refl _) _
    have HK2 := Lib.hid (HK.out.bel hb)
    have HV2 := Lib.hid (HV.out.below hb)
    have HG2 := Lib.hid (HG.out.bel hb)
    have HW2 := Lib.hid (CK.new wc 3)
    clear HK HV HG hb
    go_upto_region 11 with (fail)
    generalize wc.alloc (.cells #[.int .i64 3, .int .i64 5, .int .i64 4, .int .i64 0, .int .i64 0, .int .i64 0, .int .i64 7, .int .i64 5, .int .i64 4, .int .i64 8, .int .i64 10, .int .i64 4, .int .i64 7, .int .i64 0, .int .i64 5, .int .i64 5, .int .i64 5, .int .i64 3, .int .i64 8, .int .i64 6, .int .i64 7, .int .i64 8, .int .i64 4, .int .i64 0, .int .i64 0, .int .i64 0] 3) = wd at *
    generalize wc.heap.size = g2 at *
    go_wp2
    go_loopw [7] (fun i wr => ∃ k : Nat, k ≤ 26 ∧ i = .int .i64 (k : Int) ∧ Hid (TK v0 wr tb mb ks26) ∧ Hid (TV wr tb mb pb) ∧ Hid (CK wr g) ∧ Hid (CK wr g2)) (fun i _ => 26 - (intOf i).toNat)
    case atStart => exact ⟨0, by omega, rfl, HK2, HV2, HG2, HW2⟩
    case round =>
      obtain ⟨k, hk, rfl, HK, HV, HG, HW⟩ := hrel
      by_cases hlt : k < 26
      · have c1 := HG.out.2 k hlt
        have c2 := HW.out.2 k hlt
        generalize kcs.getD k 0 = v at *
        have hki : (k : Int) < 26 := by omega
        go_upto_region 14 with (fail)
        go_quiet (fail)
        go_wp2
        have hbd := below_drewN (Below.refl wr.heap.size wr) nq
        exact ⟨⟨k + 1, by omega, by go_num, Lib.hid (HK.out.bel hbd), Lib.hid (HV.out.below hbd), Lib.hid (HG.out.bel hbd), Lib.hid (HW.out.bel hbd)⟩, by simp [intOf]; omega⟩
      · obtain rfl : k = 26 := by omega
        clear hlt HG HW
        go_wp2_with fail
        with_reducible refine Calls.mono (kl_make ⟨#[47, 115]⟩ true (T := ks26) (T' := kd0) (c := 0) HK.out HV.out (by decide) kd0x kd0e kd0c) ?_
        rintro e x0 ⟨rfl, hk, hv, _⟩
        have HKd : Hid (TK v0 x0 tb mb (kd 0)) := Lib.hid hk
        have HVd := Lib.hid hv
        clear hk hv HK HV
        go_wp2
        go_loopw [8, 9, 10] (fun s e i wr => ∃ k : Nat, k ≤ 6 ∧ s = .string (dp k) ∧ e = .int .i64 0 ∧ i = .int .i64 (k : Int) ∧ Hid (TK v0 wr tb mb (kd k)) ∧ Hid (TV wr tb mb pb)) (fun _ _ i _ => 6 - (intOf i).toNat)
        case atStart => exact ⟨0, by omega, rfl, rfl, rfl, HKd, HVd⟩
        case round =>
          obtain ⟨k, hk, rfl, rfl, rfl, HK, HV⟩ := hrel
          by_cases hlt : k < 6
          · obtain ⟨hc, hx, hz, hz2⟩ := kd_ok k hlt
            have hki : (k : Int) < 6 := by omega
            have hcat : ¬ 9223372036854775807 < (dp k).size + 2 := by omega
            have HC := Lib.hid (show (makeS (kd k) (dp k ++ ⟨#[47, 115]⟩) true).2.2 = 0 from hc)
            have HX := Lib.hid hx
            have HZ := Lib.hid (show (dp k ++ ⟨#[47, 115]⟩ : ByteArray).size ≤ 100 from hz2)
            clear hc hx hz hz2
            go_wp2_with fail
            with_reducible refine Calls.mono (kl_make (dp k ++ ⟨#[47, 115]⟩) true (T := kd k) (T' := kd (k + 1)) (c := 0) HK.out HV.out (Nat.le_trans HZ.out (by decide)) HX.out (kde k) HC.out) ?_
            rintro e y ⟨rfl, hk', hv, _⟩
            have HK2 := Lib.hid hk'
            have HV2 := Lib.hid hv
            clear hk' hv
            go_wp2
            exact ⟨⟨k + 1, by omega, rfl, by go_num, by go_num, HK2, HV2⟩, by simp [intOf]; omega⟩
          · obtain rfl : k = 6 := by omega
            clear hlt HKd HVd
            go_wp2_with fail
            with_reducible refine Calls.mono (kl_ren ⟨#[47, 115]⟩ ⟨#[47, 100, 47, 115]⟩ (T := kd 6) (T' := kf) (c := 0) HK.out HV.out (by decide) (by decide) kfe kfc) ?_
            rintro e y1 ⟨rfl, hk, hv, _⟩
            have HK1 := Lib.hid hk
            have HV1 := Lib.hid hv
            clear hk hv HK HV
            go_wp2_with fail
            with_reducible refine Calls.mono (kl_ren ⟨#[47, 115]⟩ ⟨#[47, 100, 47, 115, 47, 116]⟩ (T := kf) (T' := kg) (c := 4) HK1.out HV1.out (by decide) (by decide) kge kgc) ?_
            rintro e y2 ⟨rfl, hk, hv, _⟩
            have HK2 := Lib.hid hk
            have HV2 := Lib.hid hv
            have hcl := HV2.out.cell
            clear hk hv HK1 HV1
            go_wp2_with fail
            with_reducible refine Calls.mono (k_list_no ⟨#[47, 113]⟩ HK2.out (by decide) kgl (by decide)) ?_
            rintro e y3 ⟨rfl, hk, hb⟩
            have HK3 := Lib.hid hk
            have HV3 := Lib.hid (HV2.out.below hb)
            have hcl3 := HV3.out.cell
            clear hk hb hcl HK2 HV2
            have hlen := tree_len y3 HK3.out.tree
            rw [kgn] at hlen
            go_wp2_with fail
            with_reducible refine Calls.mono hlen ?_
            rintro e y4 ⟨rfl, rfl⟩
            go_wp2_with fail
            with_reducible refine Calls.mono (kl_ren ⟨#[47, 100]⟩ ⟨#[47, 100, 50]⟩ (T := kg) (T' := kh) (c := 0) HK3.out HV3.out (by decide) (by decide) khe khc) ?_
            rintro e y5 ⟨rfl, hk, hv, _⟩
            have HK5 := Lib.hid hk
            have HV5 := Lib.hid hv
            clear hk hv HK3 HV3
            go_wp2_with fail
            with_reducible refine Calls.mono (kl_make ⟨#[47, 118]⟩ true (T := kh) (T' := ki) (c := 0) HK5.out HV5.out (by decide) kix kie kic) ?_
            rintro e y6 ⟨rfl, hk, hv, _⟩
            have HK6 := Lib.hid hk
            have HV6 := Lib.hid hv
            clear hk hv HK5 HV5
            go_wp2_with fail
            with_reducible refine Calls.mono (kl_ren ⟨#[47, 100, 50]⟩ ⟨#[47, 118, 47, 119]⟩ (T := ki) (T' := kj) (c := 3) HK6.out HV6.out (by decide) (by decide) kje kjc) ?_
            rintro e y7 ⟨rfl, hk, hv, _⟩
            have HK7 := Lib.hid hk
            clear hk hv HK6 HV6
            go_wp2
            go_ret
            exact ⟨rfl, blw HB0.out HK7.out.below⟩

end Go.Proofs.YtahdmkmefeocmaaDoor
