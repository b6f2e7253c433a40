/- Walk of FoldUses. -/
import Derived.Test.YtiegadfhgccliaaGreatDoorMFoldK
import Derived.Test.YtiegadfhgccliaaGreatDoorMUsesP
namespace Go.Proofs.YtiegadfhgccliaaGreatDoor
open Go.RowKit Go.Lib
open Go.ChangeMaps (setBlock)

theorem kf_uses {w0 w : World} {sb tb mb lb : Nat} {S : FS} {N : Nat} {U : List Int} {n : Nat} (h : FK w0 w sb tb mb lb S N) (hN : N ≤ 1000000000) (hU : usesS S.fs [] = U) (hn : U.length = n) :
    Calls Tryz.prog 12 #[.pointer (some ⟨sb, 0, none⟩)] w fun e w' => ∃ a c, e = .returned (.slice a n c) ∧ n ≤ c ∧ (SlI w' a U ∧ ∀ b o, a = some ⟨b, o, none⟩ → w.heap.size ≤ b) ∧ FK w0 w' sb tb mb lb S N ∧ Below w.heap.size w w' := by
  refine (fold_uses w h.p h.i h.few hN).mono ?_
  rw [hU, hn]
  rintro e w' ⟨a, c, rfl, hc, hS, hB⟩
  exact ⟨a, c, rfl, hc, hS, h.bel hB, hB⟩
theorem FInv.few {S : FS} (hI : FInv S) : S.fs.length ≤ 64 := by
  have h1 : (S.fs.map (·.1)).Nodup := once_map.1 hI.once
  have h2 : (S.fs.map (·.1)) ⊆ S.t.L.map (·.id) := fun x hx => by
    obtain ⟨f, hf, rfl⟩ := List.mem_map.1 hx
    obtain ⟨n, hn, e, _⟩ := hI.only f hf
    exact List.mem_map.2 ⟨n, hn, e⟩
  have h3 := nodup_len h1 h2
  rw [List.length_map, List.length_map] at h3
  exact Nat.le_trans h3 hI.t.few
theorem usesS_few {N : Nat} : ∀ (fs : List (Int × Bd)) (U : List Int), (∀ f ∈ fs, f.2.parts.length ≤ N) → (usesS fs U).length ≤ U.length + fs.length * N
  | [], U, _ => by simp [usesS]
  | f :: r, U, h => by
    have h1 := usesS_few r (usesB f.2.parts U) fun g hg => h g (by simp [hg])
    have h2 := usesB_len f.2.parts U
    have h3 := h f (by simp)
    have e : usesS (f :: r) U = usesS r (usesB f.2.parts U) := rfl
    rw [e, List.length_cons, Nat.add_mul]
    omega
theorem FK.usesLen {w0 w : World} {sb tb mb lb : Nat} {S : FS} {N : Nat} (h : FK w0 w sb tb mb lb S N) : (usesS S.fs []).length ≤ 64 * N := by
  have h1 := usesS_few S.fs [] h.few
  have h2 : S.fs.length * N ≤ 64 * N := Nat.mul_le_mul_right N h.i.few
  rw [List.length_nil] at h1
  omega
theorem uses_small {U : List Int} (hr : RiseI U) {n : Nat} (hn : U.length = n) (h : n = 0 ∨ ∃ m, n = m + 1 ∧ U.getD m default < 2305843009213693952) (x : Int) (hx : x ∈ U) : x < 2305843009213693952 := by
  subst hn
  rcases h with h | ⟨m, h1, h2⟩
  · rw [List.length_eq_zero_iff.1 h] at hx; cases hx
  · obtain ⟨j, hj, rfl⟩ := List.getElem_of_mem hx
    rw [List.getD_eq_getElem?_getD, List.getElem?_eq_getElem (by omega), Option.getD_some] at h2
    by_cases e : j = m
    · subst e; exact h2
    · have := List.pairwise_iff_getElem.1 hr j m hj (by omega) (by omega)
      omega
theorem slPt_new (w : World) (p : Bp) : SlPt (w.alloc (.cells #[.int .i64 p.off, .int .i64 p.ln, .int .i64 p.ch, .int .i64 p.at_] 40)) (some ⟨w.heap.size, 0, none⟩) [p] := .inr ⟨w.heap.size, 0, rfl, ⟨fun k hk j u hu => by
    obtain rfl : k = 0 := by simpa using hk
    have hbx := heap_alloc_new w (.cells #[.int .i64 p.off, .int .i64 p.ln, .int .i64 p.ch, .int .i64 p.at_] 40)
    unfold World.cell?
    rw [hbx]
    have e : 0 + 0 * encP.K + j = j := by omega
    rw [e]
    have : (encP.enc (([p] : List Bp).getD 0 default)) = [.int .i64 p.off, .int .i64 p.ln, .int .i64 p.ch, .int .i64 p.at_] := rfl
    rw [this] at hu
    simpa using hu, by simp⟩⟩
def ptP (nb : Int) : Bp := ⟨0, 1 + nb % 64, 2305843009213693952, 0⟩
def ptQ : Bp := ⟨0, 64, 2305843009213693953, 0⟩
/-- The cell of a row made since. -/
theorem sl_cell {w : World} {sb tb mb lb : Nat} {a : Option Addr} {U : List Int} {x : Int} {n m : Nat} (h : SlI w a (U ++ [x])) (hn : U.length = n) (hf : ∀ b o, a = some ⟨b, o, none⟩ → m ≤ b) (hk : sb < m ∧ tb < m ∧ mb < m ∧ lb < m) :
    ∃ b o, a = some ⟨b, o, none⟩ ∧ ∀ X, Turn [tb, mb, lb] w X → X.cell? ⟨b, o + n, none⟩ = some (.int .i64 x) := by
  obtain ⟨b, o, e, hc, hlt⟩ := SlI_at h (k := n) (by simp; omega)
  have e2 : (U ++ [x]).getD n default = x := by simp [List.getD, ← hn]
  rw [e2] at hc
  refine ⟨b, o, e, fun X ht => (ht.cell (p := ⟨b, o + n, none⟩) hlt ?_).trans hc⟩
  have := hf b o e
  simp
  omega
theorem FK.lt {w0 w : World} {sb tb mb lb : Nat} {S : FS} {N : Nat} (h : FK w0 w sb tb mb lb S N) : sb < w.heap.size ∧ tb < w.heap.size ∧ mb < w.heap.size ∧ lb < w.heap.size := h.p.lt
def pathZ : ByteArray := ⟨#[47, 122, 122, 122, 122]⟩
def evZ (op : Int) : Ev := ⟨op, pathZ, ⟨#[]⟩, 0, 0, []⟩
set_option maxRecDepth 100000 in
set_option maxHeartbeats 16000000 in
theorem foldUses_walk (s0 : Option Addr) (c0 : Nat) (L : List DeedM) (nb : Int) (w : World) (i0 : SlDd w s0 L) (hc : L.length ≤ c0) (hcm : c0 ≤ maxLen) (hb0 : 0 ≤ nb) (hb1 : nb ≤ 255) (hm : MLen w) :
    Calls Tryz.prog 3 #[.slice s0 L.length c0, .int .u8 nb] w fun e w' => e = .returned (.bool true) ∧ Below w.heap.size w w' := by
  have HAw := Lib.hid (awake15 w hm)
  have hcm2 : c0 ≤ 9223372036854775807 := by unfold maxLen at hcm; omega
  have HSm : Hid (∀ W, Below w.heap.size w W → Calls Tryz.prog 8 #[.slice s0 L.length c0, .int .i64 60] W fun e w' => e = .returned (.bool (smallD L 60)) ∧ w' = W) := fun W h => law15_small L s0 c0 60 W (i0.below h) hc (by omega) (by decide)
  have HS := Lib.hid i0
  have HM := Lib.hid hm
  have hgl := hm.lt
  cases hsm : smallD L 60
  · rw [hsm] at HSm
    clear i0 hm hsm
    go_enter Tryz.func3, Tryz.ntmps3
    go_wp2_with fail
    refine HAw.out.mono ?_
    rintro e w1 ⟨rfl, hB1⟩
    go_wp2_with fail
    with_reducible refine Calls.mono (HSm.out _ hB1) ?_
    rintro e w1 ⟨rfl, rfl⟩
    go_wp2
    go_ret
    exact ⟨rfl, hB1⟩
  · rw [hsm] at HSm
    obtain ⟨hL60, hsm2⟩ := smallD_spec hsm
    have HSz := Lib.hid hsm2
    clear i0 hm hsm hsm2
    go_enter Tryz.func3, Tryz.ntmps3
    go_wp2_with fail
    refine HAw.out.mono ?_
    rintro e w1 ⟨rfl, hB1⟩
    go_wp2_with fail
    with_reducible refine Calls.mono (HSm.out _ hB1) ?_
    rintro e w1 ⟨rfl, rfl⟩
    have HNw := Lib.hid (kf_new w1 (HM.out.below hB1))
    have HB1 := Lib.hid hB1
    clear hB1 HAw HSm
    go_wp2_with fail
    with_reducible refine Calls.mono HNw.out ?_
    rintro e w2 ⟨sb, tb, mb, lb, rfl, hk2⟩
    have HK2 := Lib.hid hk2
    clear hk2 HNw
    go_wp2
    go_loopw [6] (fun i wr => ∃ (k : Nat) (S : FS), k ≤ L.length ∧ i = .int .i64 (k : Int) ∧ S.t.nx ≤ 1 + (k : Int) ∧ Hid (FK w1 wr sb tb mb lb S (61 * k))) (fun i _ => L.length - (intOf i).toNat)
    case atStart => exact ⟨0, ⟨⟨[], 1⟩, []⟩, by omega, rfl, by decide, HK2⟩
    case round =>
      obtain ⟨k, S, hk, rfl, hnx, HK⟩ := hrel
      by_cases hlt : k < L.length
      · obtain ⟨b, o, rfl, hd0, hbw⟩ := HS.out.at_ hlt
        have hd := hd0.below (blw HB1.out HK.out.below)
        have hlts := HK.out.lt
        have hB1s := HB1.out.size
        have hbn : b ∉ [tb, mb, lb] := by have := HK.out.h2; have := HK.out.h3; have := HK.out.h4; simp; omega
        have hki : (k : Int) < (L.length : Int) := by omega
        have hkc : (k : Int) < (c0 : Int) := by omega
        have hmem : L.getD k default ∈ L := by simp [List.getD, hlt]
        obtain ⟨z1, z2, z3, z4⟩ := HSz.out _ hmem
        have hnx2 := (apply_nx S (L.getD k default).e (L.getD k default).l).2
        obtain ⟨S', x, hap⟩ : ∃ S' x, applyS S (L.getD k default).e (L.getD k default).l = (S', x) := ⟨_, _, rfl⟩
        rw [hap] at hnx2
        have HPt : Hid (∀ X, Below wr.heap.size wr X → Calls Tryz.prog 11 #[.slice (L.getD k default).la (L.getD k default).l.length (L.getD k default).lc] X fun e w' => ∃ a2 c2, e = .returned (.slice a2 (L.getD k default).l.length c2) ∧ (L.getD k default).l.length ≤ c2 ∧ SlPt w' a2 (L.getD k default).l ∧ Below X.heap.size X w') :=
          Lib.hid fun X h => law12_parts (L.getD k default).l (L.getD k default).la (L.getD k default).lc X (hd.l.below h) hd.lc (by omega)
        have HAp : Hid (∀ X a2 c2, Below wr.heap.size wr X → SlPt X a2 (L.getD k default).l → (L.getD k default).l.length ≤ c2 → Calls Tryz.prog 10 #[.pointer (some ⟨sb, 0, none⟩), evV (L.getD k default).e (L.getD k default).da (L.getD k default).dc, .slice a2 (L.getD k default).l.length c2] X fun e w' => e = .returned (.int .i64 x) ∧ FK w1 w' sb tb mb lb S' (61 * (k + 1)) ∧ Turn [tb, mb, lb] X w') :=
          Lib.hid fun X a2 c2 h hS2 hc2 => (kf_apply (L.getD k default).e (L.getD k default).l (L.getD k default).da a2 (L.getD k default).dc c2 (HK.out.bel h) (by omega) (by omega) (by omega) (by omega) (by omega) hS2 hc2 (by omega) hap).mono fun e w' h => ⟨h.1, h.2.1.mono (by omega), h.2.2⟩
        have HDc : Hid (∀ X, Turn [tb, mb, lb] wr X → _) := Lib.hid fun X h => hd.cells_of fun j u hu => (h.cell (p := ⟨b, o + k * 7 + j, none⟩) (hd.lt 0 _ rfl) hbn).trans (hd.c j u hu)
        clear hap hmem hd hd0 z1 z2 z3 z4
        generalize L.getD k default = d at *
        obtain ⟨⟨op, dp, dq, off, size, data⟩, da, dc, l, la, lc⟩ := d
        dsimp only [evV] at HDc HPt HAp
        generalize data.length = dn at *
        generalize l.length = ln at *
        obtain ⟨q0, q1, q2, q3, q4, q5, q6⟩ := HDc.out wr (.of_below (Below.refl _ _))
        go_upto_region 9 with (fail)
        go_region_held3 (fun w' => w'.cell? ⟨b, o + k * 7, none⟩ = some (.int .i64 op) ∧ w'.cell? ⟨b, o + k * 7 + 1, none⟩ = some (.string dp) ∧ w'.cell? ⟨b, o + k * 7 + 2, none⟩ = some (.string dq) ∧ w'.cell? ⟨b, o + k * 7 + 3, none⟩ = some (.int .i64 off) ∧ w'.cell? ⟨b, o + k * 7 + 4, none⟩ = some (.int .i64 size) ∧ w'.cell? ⟨b, o + k * 7 + 5, none⟩ = some (.slice da dn dc) ∧ w'.cell? ⟨b, o + k * 7 + 6, none⟩ = some (.slice la ln lc)) (first | go_keep | exact HDc.out _ (.of_below (Below.refl _ _)) | exact HDc.out _ (.of_below (below_drewN' (Below.refl _ _) 1)) | exact HDc.out _ (.of_below HB2.out) | exact HDc.out _ HT3.out) (first | (go_at_call 11; refine (HPt.out _ (by first | exact Below.refl _ _ | exact below_drewN' (Below.refl _ _) 1)).mono ?_; rintro e w2 ⟨a2, c2, rfl, hc2, hS2, hB2⟩; have HB2 := Lib.hid (show Below wr.heap.size wr w2 from blw (by first | exact Below.refl _ _ | exact below_drewN' (Below.refl _ _) 1) hB2); have HS2 := Lib.hid hS2; clear hB2 hS2) | (go_at_call 10; refine (HAp.out _ _ _ HB2.out HS2.out hc2).mono ?_; rintro e w3 ⟨rfl, hk3, ht3⟩; have HK3 := Lib.hid hk3; have HT3 := Lib.hid ((Turn.of_below (bs := [tb, mb, lb]) HB2.out).trans ht3); clear hk3 ht3))
        all_goals
          go_wp2
          exact ⟨⟨k + 1, S', by omega, by go_num, by omega, HK3⟩, by simp [intOf]; omega⟩
      · obtain rfl : k = L.length := by omega
        have hlt' : decide ((L.length : Int) < (L.length : Int)) = false := by simp
        have hN : 61 * L.length ≤ 3660 := by omega
        obtain ⟨U, hU⟩ : ∃ U, usesS S.fs [] = U := ⟨_, rfl⟩
        have hrise : RiseI U := by rw [← hU]; exact usesS_rise rise_nil
        have hUl : U.length ≤ 1000000 := by have := HK.out.usesLen; rw [hU] at this; omega
        obtain ⟨n, hn⟩ : ∃ n, U.length = n := ⟨_, rfl⟩
        rw [hn] at hUl
        have HUs := Lib.hid (kf_uses HK.out (by omega) hU hn)
        have HU := Lib.hid hU
        have HRi := Lib.hid hrise
        have HLn := Lib.hid hn
        clear hlt hU hrise HSz hn
        generalize hNN : 61 * L.length = N at *
        go_wp2_with fail
        with_reducible refine Calls.mono HUs.out ?_
        rintro e w4 ⟨a4, c4, rfl, hc4, ⟨hS4, hf4⟩, hk4, _⟩
        have HK4 := Lib.hid hk4
        have HS4 := Lib.hid hS4
        have HF4 := Lib.hid hf4
        have hlt4 := hk4.lt
        clear hk4 hS4 hf4 HUs HK
        have hcase : (n = 0 ∨ ∃ m y bb oo, n = m + 1 ∧ a4 = some ⟨bb, oo, none⟩ ∧ y < 2305843009213693952 ∧ U.getD m default = y ∧ w4.cell? ⟨bb, oo + m, none⟩ = some (.int .i64 y)) ∨ ∃ m y bb oo, n = m + 1 ∧ a4 = some ⟨bb, oo, none⟩ ∧ 2305843009213693952 ≤ y ∧ w4.cell? ⟨bb, oo + m, none⟩ = some (.int .i64 y) := by
          have hn := HLn.out
          cases n with
          | zero => exact .inl (.inl rfl)
          | succ m =>
            obtain ⟨bb, oo, e, hcell, _⟩ := SlI_at HS4.out (show m < U.length by omega)
            by_cases h2 : U.getD m default < 2305843009213693952
            · exact .inl (.inr ⟨m, _, bb, oo, rfl, e, h2, rfl, hcell⟩)
            · exact .inr ⟨m, _, bb, oo, rfl, e, by omega, hcell⟩
        rcases hcase with hcase | ⟨m, y, bb, oo, hnm, rfl, hy, hcell⟩
        · have HSml : Hid (∀ x ∈ U, x < 2305843009213693952) := Lib.hid fun x hx => uses_small HRi.out HLn.out (by
            rcases hcase with rfl | ⟨m, y, _, _, rfl, _, h1, h2, _⟩
            · exact .inl rfl
            · exact .inr ⟨m, rfl, by rw [h2]; exact h1⟩) x hx
          go_upto_region 11 with (fail)
          go_cut [56] from 45 to 56 (fun bv wx => bv = .bool false ∧ w4 = wx)
          case first =>
            clear HSml HLn HU HRi HS4 HF4 HK4 HK2
            rcases hcase with rfl | ⟨m, y, bb, oo, hnm, rfl, hy, hyU, hcell⟩
            · go_wp2
              go_meet
              exact ⟨rfl, rfl⟩
            · clear hyU
              have hbt : decide (0 < n) = true := by simp; omega
              have hk1 : (m : Int) < (n : Int) := by omega
              have hwm : wrap64 ((n : Int) - 1) = (m : Int) := (w64 (by omega) (by omega)).trans (by omega)
              have hyb : (2305843009213693952 ≤ y) = False := by simp; omega
              have hcell2 : w4.cell? ⟨bb, oo + (n - 1), none⟩ = some (.int .i64 y) := by rw [show n - 1 = m by omega]; exact hcell
              clear hnm hy hcell
              go_wp2
              go_meet
              exact ⟨rfl, rfl⟩
          case rest =>
            obtain ⟨rfl, rfl⟩ := hcut
            clear hcase
            go_upto_region 15 with (fail)
            have hrP := slPt_new w4 (ptP nb)
            have hrQ := slPt_new (w4.alloc (.cells #[.int .i64 0, .int .i64 (1 + nb % 64), .int .i64 2305843009213693952, .int .i64 0] 40)) ptQ
            obtain ⟨V, hV⟩ : ∃ V, (w4.alloc (.cells #[.int .i64 0, .int .i64 (1 + nb % 64), .int .i64 2305843009213693952, .int .i64 0] 40)).alloc (.cells #[.int .i64 0, .int .i64 64, .int .i64 2305843009213693953, .int .i64 0] 40) = V := ⟨_, rfl⟩
            have hB1V : Below w4.heap.size w4 (w4.alloc (.cells #[.int .i64 0, .int .i64 (1 + nb % 64), .int .i64 2305843009213693952, .int .i64 0] 40)) := (Below.refl _ _).alloc (Nat.le_refl _) _
            have hBV : Below w4.heap.size w4 V := by rw [← hV]; exact hB1V.alloc hB1V.size _
            have hPQ : SlPt V (some ⟨w4.heap.size, 0, none⟩) [ptP nb] ∧ SlPt V (some ⟨w4.heap.size + 1, 0, none⟩) [ptQ] := by
              rw [← hV]
              refine ⟨SlK.below hrP ((Below.refl _ _).alloc (Nat.le_refl _) _), ?_⟩
              have e : (w4.alloc (.cells #[.int .i64 0, .int .i64 (1 + nb % 64), .int .i64 2305843009213693952, .int .i64 0] 40)).heap.size = w4.heap.size + 1 := by simp
              rw [← e]
              exact hrQ
            have HPQ : Hid (∀ X, Turn [tb, mb, lb] V X → SlPt X (some ⟨w4.heap.size, 0, none⟩) [ptP nb] ∧ SlPt X (some ⟨w4.heap.size + 1, 0, none⟩) [ptQ]) := Lib.hid fun X h =>
              ⟨SlK.turn hPQ.1 h fun b o e hb => by injection e with e; injection e; simp at hb; omega, SlK.turn hPQ.2 h fun b o e hb => by injection e with e; injection e; simp at hb; omega⟩
            have hkV := HK4.out.bel hBV
            have hnx1 : S.t.nx ≤ 61 := by omega
            rw [hV]
            generalize w4.heap.size = pb at *
            obtain ⟨S1, x1, hap1⟩ : ∃ S1 x1, applyS S (evZ 1) [] = (S1, x1) := ⟨_, _, rfl⟩
            have HA1 := Lib.hid (show Calls Tryz.prog 10 #[.pointer (some ⟨sb, 0, none⟩), .agg #[.int .i64 1, .string ⟨#[47, 122, 122, 122, 122]⟩, .string ⟨#[]⟩, .int .i64 0, .int .i64 0, .slice none 0 0], .slice none 0 0] V _ from kf_apply (evZ 1) [] none none 0 0 hkV (by decide) (by decide) (by decide) (by omega) (by omega) (.inl rfl) (by decide) (by decide) hap1)
            have hn1 := (apply_nx S (evZ 1) []).2
            rw [hap1] at hn1
            dsimp only at hn1
            clear hrP hrQ hB1V hBV hPQ hkV hV
            go_wp2_with fail
            with_reducible refine Calls.mono HA1.out ?_
            rintro e w5 ⟨rfl, hk5, ht5⟩
            have HK5 := Lib.hid hk5
            have HT5 := Lib.hid ht5
            clear hk5 ht5 HA1
            by_cases hx1 : x1 = 0
            · subst hx1
              have hL1 := last_create HK4.out.i rfl hap1
              have hPf : 1 ≤ 1 + nb % 64 ∧ 1 + nb % 64 ≤ 64 := by omega
              obtain ⟨S2, hap2, hL2⟩ := hL1.write (e := evZ 3) (l := [ptP nb]) rfl rfl rfl rfl (write_new hPf.1 hPf.2 (by decide) (by decide))
              obtain ⟨S3, hap3, hL3⟩ := hL2.write (e := evZ 3) (l := [ptQ]) rfl rfl rfl rfl (write_over hPf.1 hPf.2 (by decide) (by decide) (by decide) (by decide))
              obtain ⟨S4, hap4, hL4⟩ := hL3.trunc (e := evZ 4) (l := []) rfl rfl rfl
              obtain ⟨S5, hap5, hfs5⟩ := hL4.unlink (e := evZ 6) (l := []) rfl rfl
              have hu2 : usesS S2.fs [] = U ++ [2305843009213693952] := by rw [hL2.fs, uses_one _ _ _ _ (by rw [HU.out]; exact fun x hx => HSml.out x hx), HU.out]; try rfl
              have hu3 : usesS S3.fs [] = U ++ [2305843009213693953] := by rw [hL3.fs]; exact (uses_one _ _ _ ptQ (by rw [HU.out]; exact fun x hx => Int.lt_trans (HSml.out x hx) (by decide))).trans (by rw [HU.out]; rfl)
              have ht4 : (truncS ⟨64, [ptQ]⟩ 0).1 = ⟨0, []⟩ := trunc_none (by decide) (by decide) (by decide) (by decide)
              have hu4 : usesS S4.fs [] = U := by rw [hL4.fs, uses_last, ← HU.out]; show usesB (truncS ⟨64, [ptQ]⟩ 0).1.parts _ = _; rw [ht4]; rfl
              have hu5 : usesS S5.fs [] = U := by rw [hfs5]; exact HU.out
              obtain ⟨n1, hn1'⟩ : ∃ n1, n1 = n + 1 := ⟨_, rfl⟩
              have hl2 : (U ++ [(2305843009213693952 : Int)]).length = n1 := by simp [HLn.out, hn1']
              have hl3 : (U ++ [(2305843009213693953 : Int)]).length = n1 := by simp [HLn.out, hn1']
              have hwn : wrap64 ((n : Int) + 1) = (n1 : Int) := (w64 (by omega) (by omega)).trans (by omega)
              have hkn : (n : Int) < (n1 : Int) := by omega
              have hne : ((n1 : Int) = (n : Int) + 1) = True := eq_true (by omega)
              have hne2 : ((n1 : Int) == (n : Int) + 1) = true := by rw [beq_iff_eq]; omega
              have hm2 := (apply_nx S1 (evZ 3) [ptP nb]).2
              rw [hap2] at hm2
              have hm3 := (apply_nx S2 (evZ 3) [ptQ]).2
              rw [hap3] at hm3
              have hm4 := (apply_nx S3 (evZ 4) []).2
              rw [hap4] at hm4
              dsimp only at hm2 hm3 hm4
              have Hap2' := Lib.hid hap2
              have Hap3' := Lib.hid hap3
              have Hap4' := Lib.hid hap4
              have Hap5' := Lib.hid hap5
              have Hu2' := Lib.hid hu2
              have Hu3' := Lib.hid hu3
              have Hu4' := Lib.hid hu4
              have Hu5' := Lib.hid hu5
              have Hl2' := Lib.hid hl2
              have Hl3' := Lib.hid hl3
              have HL := HLn
              clear hap1 hap2 hap3 hap4 hap5 hu2 hu3 hu4 hu5 hl2 hl3 hL1 hL2 hL3 hL4 ht4 hfs5 HU HSml HRi HS4 HF4 HLn hn1'
              have HA2 := Lib.hid (show Calls Tryz.prog 10 #[.pointer (some ⟨sb, 0, none⟩), .agg #[.int .i64 3, .string ⟨#[47, 122, 122, 122, 122]⟩, .string ⟨#[]⟩, .int .i64 0, .int .i64 0, .slice none 0 0], .slice (some ⟨pb, 0, none⟩) 1 1] w5 _ from kf_apply (evZ 3) [ptP nb] none (some ⟨pb, 0, none⟩) 0 1 HK5.out (by decide) (by decide) (by decide) (by omega) (by simp; omega) (HPQ.out _ HT5.out).1 (Nat.le_refl _) (by simp) Hap2'.out)
              go_wp2_with fail
              with_reducible refine Calls.mono HA2.out ?_
              rintro e w6 ⟨rfl, hk6, ht6⟩
              have HT6 := Lib.hid (HT5.out.trans ht6)
              have HK6 := Lib.hid hk6
              have hlt6 := hk6.lt
              have HU6 := Lib.hid (kf_uses hk6 (by simp; omega) Hu2'.out Hl2'.out)
              clear hk6 ht6 HA2 HK5
              go_wp2_with fail
              with_reducible refine Calls.mono HU6.out ?_
              rintro e w7 ⟨a7, c7, rfl, hc7, ⟨hS7, hf7⟩, hk7, hB7⟩
              have HK7 := Lib.hid hk7
              have HT7 := Lib.hid (HT6.out.trans (.of_below hB7))
              obtain ⟨b7, o7, rfl, hC7⟩ := sl_cell hS7 HL.out hf7 hlt6
              have HC7 := Lib.hid hC7
              have HA3 := Lib.hid (show Calls Tryz.prog 10 #[.pointer (some ⟨sb, 0, none⟩), .agg #[.int .i64 3, .string ⟨#[47, 122, 122, 122, 122]⟩, .string ⟨#[]⟩, .int .i64 0, .int .i64 0, .slice none 0 0], .slice (some ⟨pb + 1, 0, none⟩) 1 1] w7 _ from kf_apply (evZ 3) [ptQ] none (some ⟨pb + 1, 0, none⟩) 0 1 hk7 (by decide) (by decide) (by decide) (by omega) (by simp; omega) (HPQ.out _ HT7.out).2 (Nat.le_refl _) (by simp) Hap3'.out)
              clear hk7 hB7 hS7 hf7 hC7 HU6 HK6 HT6 HT5 hlt6
              go_wp2_with fail
              with_reducible refine Calls.mono HA3.out ?_
              rintro e w8 ⟨rfl, hk8, ht8⟩
              have HT8 := Lib.hid ht8
              have HK8 := Lib.hid hk8
              have hlt8 := hk8.lt
              have HU8 := Lib.hid (kf_uses hk8 (by simp; omega) Hu3'.out Hl3'.out)
              clear hk8 ht8 HA3 HK7 HT7 HPQ
              go_wp2_with fail
              with_reducible refine Calls.mono HU8.out ?_
              rintro e w9 ⟨a9, c9, rfl, hc9, ⟨hS9, hf9⟩, hk9, hB9⟩
              have HK9 := Lib.hid hk9
              have HT9 := Lib.hid (HT8.out.trans (.of_below hB9))
              obtain ⟨b9, o9, rfl, hC9⟩ := sl_cell hS9 HL.out hf9 hlt8
              have HC9 := Lib.hid hC9
              have HA4 := Lib.hid (show Calls Tryz.prog 10 #[.pointer (some ⟨sb, 0, none⟩), .agg #[.int .i64 4, .string ⟨#[47, 122, 122, 122, 122]⟩, .string ⟨#[]⟩, .int .i64 0, .int .i64 0, .slice none 0 0], .slice none 0 0] w9 _ from kf_apply (evZ 4) [] none none 0 0 hk9 (by decide) (by decide) (by decide) (by omega) (by simp; omega) (.inl rfl) (by decide) (by decide) Hap4'.out)
              clear hk9 hB9 hS9 hf9 hC9 HU8 HK8 HT8 hlt8
              go_wp2_with fail
              with_reducible refine Calls.mono HA4.out ?_
              rintro e w10 ⟨rfl, hk10, ht10⟩
              have HU10 := Lib.hid (kf_uses hk10 (by simp; omega) Hu4'.out HL.out)
              have HT10 := Lib.hid ht10
              clear hk10 ht10 HA4 HK9
              go_wp2_with fail
              with_reducible refine Calls.mono HU10.out ?_
              rintro e w11 ⟨a11, c11, rfl, hc11, _, hk11, hB11⟩
              have HT11 := Lib.hid (HT10.out.trans (.of_below hB11))
              have HA5 := Lib.hid (show Calls Tryz.prog 10 #[.pointer (some ⟨sb, 0, none⟩), .agg #[.int .i64 6, .string ⟨#[47, 122, 122, 122, 122]⟩, .string ⟨#[]⟩, .int .i64 0, .int .i64 0, .slice none 0 0], .slice none 0 0] w11 _ from kf_apply (evZ 6) [] none none 0 0 hk11 (by decide) (by decide) (by decide) (by omega) (by simp; omega) (.inl rfl) (by decide) (by decide) Hap5'.out)
              clear hk11 hB11 HU10 HT10
              go_wp2_with fail
              with_reducible refine Calls.mono HA5.out ?_
              rintro e w12 ⟨rfl, hk12, ht12⟩
              have hT12 := HT11.out.trans ht12
              have q9 := HC9.out _ hT12
              have q7 := HC7.out _ (HT9.out.trans hT12)
              have HU12 := Lib.hid (kf_uses hk12 (by simp; omega) Hu5'.out HL.out)
              clear hk12 ht12 hT12 HA5 HT11 HT9 HC7 HC9
              go_wp2_with fail
              with_reducible refine Calls.mono HU12.out ?_
              rintro e w13 ⟨a13, c13, rfl, hc13, _, hk13, _⟩
              have HBl := Lib.hid (blw HB1.out hk13.below)
              clear hk13 HU12
              go_wp2
              go_ret
              exact ⟨rfl, HBl.out⟩
            · have hx1' : (x1 == 0) = false := by simpa using hx1
              have HBl := Lib.hid (blw HB1.out HK5.out.below)
              clear hap1
              go_wp2
              go_ret
              exact ⟨rfl, HBl.out⟩
        · have HBl := Lib.hid (blw HB1.out HK4.out.below)
          clear HS4 HU HRi HF4 HK4 HK2 HLn
          have hbt : decide (0 < n) = true := by simp; omega
          have hk1 : (m : Int) < (n : Int) := by omega
          have hwm : wrap64 ((n : Int) - 1) = (m : Int) := (w64 (by omega) (by omega)).trans (by omega)
          have hyb : (2305843009213693952 ≤ y) = True := by simp [hy]
          have hcell2 : w4.cell? ⟨bb, oo + (n - 1), none⟩ = some (.int .i64 y) := by rw [show n - 1 = m by omega]; exact hcell
          clear hnm hy hcell
          go_wp2
          go_ret
          exact ⟨rfl, HBl.out⟩
end Go.Proofs.YtiegadfhgccliaaGreatDoor
