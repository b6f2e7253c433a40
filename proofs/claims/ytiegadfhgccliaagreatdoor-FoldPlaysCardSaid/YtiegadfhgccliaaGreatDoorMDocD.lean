/- Walks of the document: put. Printed by gen_put.py out of DocP.txt. -/
import Derived.Test.YtiegadfhgccliaaGreatDoorMPathR2
import Derived.Test.YtiegadfhgccliaaGreatDoorMTreeW2
import Derived.Test.YtiegadfhgccliaaGreatDoorMBase
import Derived.Deep.AppendLies
import Derived.Deep.RegionLaw
import Derived.Deep.CutRange
import Derived.Sort.Walk0
namespace Go.Proofs.YtiegadfhgccliaaGreatDoor
open Go.RowKit Go.Lib
open Go.ChangeMaps (setBlock)

theorem info_rnd : (Tryz.prog.info? 114).map (fun i => (i.zero, i.size, i.bytes)) = some (some (.agg #[.string ⟨#[]⟩, .int .i64 0, .bool false]), 3, 32) := by kernel_rfl
theorem own_below_any {w w' : World} {base : Nat} {e : TypeId} {size : Nat} {v : Value} {n : Nat} {xs : List Value} (h : w.ownsRow base e size v n xs) (hb : Below w.heap.size w w') : w'.ownsRow base e size v n xs := by
  refine ⟨h.1, ?_⟩
  rcases h.2 with h2 | ⟨g, cap, cur, e1, h1, hg, h3⟩
  · exact .inl h2
  · exact .inr ⟨g, cap, cur, e1, h1, (hb.block g (Array.getElem?_eq_some_iff.1 hg).1).trans hg, h3⟩
theorem own_base {w : World} {base : Nat} {e : TypeId} {a : Option Addr} {n c size : Nat} {xs : List Value} (h : w.ownsRow base e size (.slice a n c) n xs) : ∀ b o, a = some ⟨b, o, none⟩ → base ≤ b := by
  intro b o e1
  subst e1
  rcases h.2 with ⟨he, _⟩ | ⟨g', _, _, he, hb, _⟩
  · cases he
  · cases he; exact hb
theorem sln_set {w : World} {a : Option Addr} {L : List Nd} {t base : Nat} (h : SlN w a L) (hb : ∀ b o, a = some ⟨b, o, none⟩ → base ≤ b) (ht : t < base) {v : Value} : SlN (w.setCell ⟨t, 0, none⟩ v) a L := by
  rcases h with h | ⟨b, o, e, hr⟩
  · exact .inl h
  · have hn := hb b o e
    exact .inr ⟨b, o, e, hr.turn (bs := [t]) ((Turn.refl _ _).setCell (p := ⟨t, 0, none⟩) (.inl (by simp)) _) (by simp; omega)⟩
def keepB (s : ByteArray) (n : Nd) : Bool := !decide (n.path = s)
theorem take_keep {L : List Nd} {k : Nat} (hk : k < L.length) (p : Nd → Bool) : (L.take (k + 1)).filter p = (L.take k).filter p ++ (if p (L.getD k default) then [L.getD k default] else []) := by
  have e : L.take (k + 1) = L.take k ++ [L.getD k default] := by
    rw [List.take_succ_eq_append_getElem hk]
    congr 2
    simp [List.getD, hk]
  rw [e, List.filter_append, List.filter_cons, List.filter_nil]
set_option maxRecDepth 100000 in
set_option maxHeartbeats 8000000 in
theorem doc_drop_loop (s : ByteArray) (dir : Bool) (w : World) (hs : s.size ≤ 100000) {td : Nat} {dx : DX} {T : TS} (hT : DocP dx w td T) (hI : TInv T) {n0 : Nd} (h0 : fnd s T.L = some n0) (hl : lookS (fnd · T.L) s = (n0.id, n0.dir, 0)) (hd : n0.dir = dir) {X : List ByteArray} (hX : psplit s = some X)  (hXn : X ≠ []) :
    Calls Tryz.prog 79 #[.pointer (some ⟨td, 0, none⟩), .string s, .bool dir] w fun e w' => e = .returned (.tuple #[.int .i64 (dropS T s dir).2.1, .int .i64 (dropS T s dir).2.2]) ∧ DocP dx w' td (dropS T s dir).1 ∧ Turn [td] w w' := by
  have hdrop : dropS T s dir = if T.L.any (fun n => punder n.path s) then (T, 0, 8) else (⟨T.L.filter (keepB s), T.nx⟩, n0.id, 0) := by
    unfold dropS canDropS
    rw [hl]
    dsimp only
    rw [if_pos rfl, hd, root_split hX, show X.isEmpty = false by simpa using hXn, Bool.false_or]
    cases T.L.any (fun n => punder n.path s) <;> cases dir <;> rfl
  obtain ⟨R, hR⟩ : ∃ R, dropS T s dir = R := ⟨_, rfl⟩
  rw [hR] at hdrop ⊢
  have HDr := Lib.hid hdrop
  have hid : ∀ n ∈ T.L, decide (n.id = n0.id) = decide (n.path = s) := fun n hn => doc_drops hI h0 hn
  have hid1 := (hI.ids n0 (fnd_some h0).1).1
  have HLk := Lib.hid (doc_look s w (by unfold maxLen; omega) hT (by have := hI.few; omega) hl)
  have HPs := Lib.hid (path_size hI)
  have hfew := hI.few
  have htd : td < w.heap.size := by obtain ⟨a, c, h1, _⟩ := hT.ex; exact (Array.getElem?_eq_some_iff.1 h1).1
  have HT := Lib.hid hT
  have HId := Lib.hid hid
  obtain ⟨i0, hi, hz0, hz1, hz2⟩ := info_parts info_rnd
  obtain ⟨np0, q, d0⟩ := n0
  have hd : d0 = dir := hd
  subst hd
  have hq0 : (q == 0) = false := by rw [beq_eq_false_iff_ne]; dsimp only at hid1; omega
  have HLk : Hid (Calls Tryz.prog 46 #[.pointer (some ⟨td, 0, none⟩), .string s] w fun e w' => e = .returned (.tuple #[.int .i64 q, .bool d0, .int .i64 0]) ∧ Below w.heap.size w w') := HLk
  have HId : Hid (∀ n ∈ T.L, decide (n.id = q) = decide (n.path = s)) := HId
  clear hT hI h0 hl hX hXn hdrop hid hid1 hR
  cases d0
  all_goals
    go_enter Tryz.func79, Tryz.ntmps79
    go_wp2_with fail
    refine HLk.out.mono ?_
    rintro e w1 ⟨rfl, hB1⟩
    have HB1 := Lib.hid hB1
    clear hB1
    go_wp2
    go_loopw [11, 12] (fun v i wr => ∃ (k : Nat) (sv : Value), k ≤ T.L.length ∧ v = sv ∧ i = .int .i64 (k : Int) ∧ Hid (wr.ownsRow w.heap.size 114 3 sv ((T.L.take k).filter (keepB s)).length (cellsN ((T.L.take k).filter (keepB s)))) ∧ Hid (Below w.heap.size w wr) ∧ Hid (∀ j, j < k → punder (T.L.getD j default).path s = false)) (fun _ i _ => T.L.length - (intOf i).toNat)
    case atStart => exact ⟨0, _, by omega, rfl, rfl, Lib.hid (World.ownsRow_nil _ _ _ _), HB1, Lib.hid fun j hj => by omega⟩
    case round =>
      obtain ⟨k, sv, hk, hsv, rfl, HO, HB, HF⟩ := hrel
      have hsv' := hsv.symm
      subst hsv'
      by_cases hlt : k < T.L.length
      · obtain ⟨a, c, t1, t2, t3⟩ := (HT.out.below HB.out).ex
        have c0 : wr.cell? ⟨td, 0, none⟩ = some (.slice a T.L.length c) := by unfold World.cell?; rw [t1]; rfl
        obtain ⟨b, o, rfl, p0, p1, p2, hbl⟩ := t3.at_ hlt
        have hki : (k : Int) < (T.L.length : Int) := by omega
        have hkc : (k : Int) < (c : Int) := by omega
        have hmem : T.L.getD k default ∈ T.L := by simp [List.getD, hlt]
        have hpsz := HPs.out _ hmem
        have hidk := HId.out _ hmem
        have htk := take_keep hlt (keepB s)
        generalize hnd : T.L.getD k default = n at *
        have HNd := Lib.hid hnd
        obtain ⟨np, ni, nd⟩ := n
        dsimp only at p0 p1 p2 hpsz hidk
        have hud := ref_under np s wr (by unfold maxLen; omega) (by unfold maxLen; omega)
        have HTk := Lib.hid htk
        have htl := Nat.lt_of_lt_of_le htd HB.out.size
        have hul : ((T.L.take k).filter (keepB s)).length ≤ 64 := Nat.le_trans (List.length_filter_le _ _) (by rw [List.length_take]; omega)
        clear htk hmem hnd t1 t3
        cases hu : punder np s
        · rw [hu] at hud
          have HUd := Lib.hid hud
          have HF2 : Hid (∀ j, j < k + 1 → punder (T.L.getD j default).path s = false) := fun j hj => by
            by_cases e : j = k
            · subst e; rw [HNd.out]; exact hu
            · exact HF.out j (by omega)
          clear hud hu HF
          by_cases hp : np = s
          · have hq1 : ni = q := by simpa [hp] using hidk
            have hqn : (ni != q) = false := by rw [hq1]; simp
            have HK2 : Hid ((T.L.take (k + 1)).filter (keepB s) = (T.L.take k).filter (keepB s)) := by
              refine Lib.hid ?_
              rw [HTk.out]
              unfold keepB
              simp [hp]
            clear hidk hp hq1
            go_wp2_with fail
            with_reducible refine Calls.mono HUd.out ?_
            rintro e w3 ⟨rfl, hB3⟩
            have c3 := (World.cell?_of_block (hB3.block td htl) : w3.cell? ⟨td, 0, none⟩ = _).trans c0
            have p13 := (World.cell?_of_block (hB3.block b hbl) : w3.cell? ⟨b, o + k * 3 + 1, none⟩ = _).trans p1
            have HO3 := Lib.hid (own_below_any HO.out hB3)
            have HB3 := Lib.hid (blw HB.out hB3)
            clear hB3 c0 p0 p1 p2
            go_wp2
            exact ⟨⟨k + 1, sv, by omega, rfl, by go_num, by rw [HK2.out]; exact HO3, HB3, HF2⟩, by simp [intOf]; omega⟩
          · have hq1 : ni ≠ q := by simpa [hp] using hidk
            have hqn : (ni != q) = true := by simpa using hq1
            have HK2 : Hid ((T.L.take (k + 1)).filter (keepB s) = (T.L.take k).filter (keepB s) ++ [⟨np, ni, nd⟩]) := by
              refine Lib.hid ?_
              rw [HTk.out]
              unfold keepB
              simp [hp]
            clear hidk hp hq1
            go_wp2_with fail
            with_reducible refine Calls.mono HUd.out ?_
            rintro e W ⟨rfl, hB3⟩
            have c3 := (World.cell?_of_block (hB3.block td htl) : W.cell? ⟨td, 0, none⟩ = _).trans c0
            have p03 := (World.cell?_of_block (hB3.block b hbl) : W.cell? ⟨b, o + k * 3, none⟩ = _).trans p0
            have p13 := (World.cell?_of_block (hB3.block b hbl) : W.cell? ⟨b, o + k * 3 + 1, none⟩ = _).trans p1
            have p23 := (World.cell?_of_block (hB3.block b hbl) : W.cell? ⟨b, o + k * 3 + 2, none⟩ = _).trans p2
            have HO3 := Lib.hid (own_below_any HO.out hB3)
            have HB3 := Lib.hid (blw HB.out hB3)
            clear hB3 c0 p0 p1 p2
            go_wp2_with (at_builtin; refine wpList_append_own _ rfl (.tmp 68) (.tmp 76) 61 rfl w.heap.size 114 i0 _ 3 32 Tryz.underlying61 hi hz0 hz1 hz2 rfl (by decide) _ _ _ rfl (HO3.out.alloc _) ⟨W.heap.size, 0, none⟩ 1 1 [.string np, .int .i64 ni, .bool nd] rfl rfl (new3b _ _ _ _ _ _ rfl) (by intro u hu; simp at hu; rcases hu with rfl | rfl | rfl <;> rfl) (by unfold maxLen; omega) (by omega) (by have := HB3.out.size; simp; omega) ?_; intro v' w3 hown' hgrow hnil; clear hnil; have HO2 := Lib.hid hown'; have HG := Lib.hid hgrow; clear hown' hgrow)
            refine ⟨⟨k + 1, v', by omega, rfl, by go_num, ?_, ?_, HF2⟩, by simp [intOf]; omega⟩
            · have := HO2.out
              rw [HK2.out, cellsN_snoc, List.length_append, List.length_singleton]
              exact Lib.hid this
            · exact Lib.hid (grown_below (HB3.out.alloc HB3.out.size _) (by have := HB3.out.size; simp; omega) (HO3.out.alloc _) HG.out)
        · rw [hu] at hud
          have HUd := Lib.hid hud
          have HAny : Hid (T.L.any (fun n => punder n.path s) = true) := Lib.hid (List.any_eq_true.2 ⟨⟨np, ni, nd⟩, by rw [← HNd.out]; simp [List.getD, hlt], hu⟩)
          clear hud hu HF hidk
          go_wp2_with fail
          with_reducible refine Calls.mono HUd.out ?_
          rintro e w3 ⟨rfl, hB3⟩
          have HB3 := Lib.hid (blw HB.out hB3)
          clear hB3
          go_wp2
          go_ret2
          have hR : R = (T, 0, 8) := by rw [HDr.out, HAny.out]; rfl
          subst hR
          exact ⟨rfl, HT.out.below HB3.out, .of_below HB3.out⟩
      · obtain rfl : k = T.L.length := by omega
        have HNo : Hid (T.L.any (fun n => punder n.path s) = false) := Lib.hid (by
          rw [List.any_eq_false]
          intro n hn
          obtain ⟨j, hj, rfl⟩ := List.getElem_of_mem hn
          have e : T.L[j] = T.L.getD j default := by simp [List.getD, hj]
          rw [e, HF.out j hj]; decide)
        obtain ⟨a, c, t1, t2, t3⟩ := (HT.out.below HB.out).ex
        have c0 : wr.cell? ⟨td, 0, none⟩ = some (.slice a T.L.length c) := by unfold World.cell?; rw [t1]; rfl
        have f0 : wr.frozen? ⟨td, 0, none⟩ = false := by unfold World.frozen?; rw [t1]; simp
        have HT1 := Lib.hid t1
        have ho := HO.out
        rw [List.take_length] at ho
        obtain ⟨a2, c2, rfl, hc2, hS2⟩ := SlN.own ho
        have HS2 := Lib.hid hS2
        have hbase := Lib.hid (own_base ho)
        have hlt' : decide ((T.L.length : Int) < (T.L.length : Int)) = false := by simp
        clear hlt HF t1 t3 ho hS2
        go_wp2
        go_ret2
        have hR : R = (⟨T.L.filter (keepB s), T.nx⟩, q, 0) := by rw [HDr.out, HNo.out]; rfl
        subst hR
        refine ⟨rfl, DocP.mk2 (dc_set0 HT1.out _) hc2 ?_, (Turn.of_below HB.out).setCell (p := ⟨td, 0, none⟩) (.inl (by simp)) _⟩
        exact sln_set HS2.out (fun b o e => hbase.out b o e) htd
set_option maxRecDepth 100000 in
set_option maxHeartbeats 8000000 in
theorem doc_drop (s : ByteArray) (dir : Bool) (w : World) (hs : s.size ≤ 100000) {td : Nat} {dx : DX} {T : TS} (hT : DocP dx w td T) (hI : TInv T) :
    Calls Tryz.prog 79 #[.pointer (some ⟨td, 0, none⟩), .string s, .bool dir] w fun e w' => e = .returned (.tuple #[.int .i64 (dropS T s dir).2.1, .int .i64 (dropS T s dir).2.2]) ∧ DocP dx w' td (dropS T s dir).1 ∧ Turn [td] w w' := by
  obtain ⟨i0, d0, x0, hl⟩ : ∃ i d x, lookS (fnd · T.L) s = (i, d, x) := ⟨_, _, _, rfl⟩
  have hlk := doc_look s w (by unfold maxLen; omega) hT (by have := hI.few; omega) hl
  have HT := Lib.hid hT
  by_cases h0 : x0 = 0
  · subst h0
    obtain ⟨X, hX, hor⟩ := lookS_ok hl
    have hgo : (d0 = dir → ¬ X = [] → Calls Tryz.prog 79 #[.pointer (some ⟨td, 0, none⟩), .string s, .bool dir] w fun e w' => e = .returned (.tuple #[.int .i64 (dropS T s dir).2.1, .int .i64 (dropS T s dir).2.2]) ∧ DocP dx w' td (dropS T s dir).1 ∧ Turn [td] w w') := fun hd hXn => by
      rcases hor with ⟨h1, _⟩ | ⟨_, n, h2, h3, h4⟩
      · exact absurd h1 hXn
      · subst h3
        subst h4
        exact doc_drop_loop s dir w hs hT hI h2 hl hd hX hXn
    by_cases hd : d0 = dir
    · by_cases hXn : X = []
      · have h5 : i0 = 0 ∧ d0 = true := by
          rcases hor with ⟨_, h1⟩ | ⟨h1, _⟩
          · exact h1
          · exact absurd hXn h1
        obtain ⟨rfl, rfl⟩ := h5
        subst hd
        have hdr : dropS T s true = (T, 0, 8) := by
          unfold dropS canDropS
          rw [hl, root_split hX, hXn]
          rfl
        rw [hdr]
        clear hT hI hl hX hor hgo hXn hdr
        go_enter Tryz.func79, Tryz.ntmps79
        go_wp2_with fail
        refine hlk.mono ?_
        rintro e w1 ⟨rfl, hB1⟩
        go_wp2
        go_ret2
        exact ⟨rfl, HT.out.below hB1, .of_below hB1⟩
      · exact hgo hd hXn
    · have hdr : dropS T s dir = (T, 0, if d0 then 6 else 7) := by
        unfold dropS canDropS
        rw [hl]
        cases d0 <;> cases dir
        · exact absurd rfl hd
        · rfl
        · rfl
        · exact absurd rfl hd
      rw [hdr]
      clear hT hI hl hX hor hgo hdr
      cases d0 <;> cases dir
      · exact absurd rfl hd
      all_goals first
        | (exact absurd rfl hd)
        | (clear hd
           go_enter Tryz.func79, Tryz.ntmps79
           go_wp2_with fail
           refine hlk.mono ?_
           rintro e w1 ⟨rfl, hB1⟩
           go_wp2
           go_ret2
           exact ⟨rfl, HT.out.below hB1, .of_below hB1⟩)
  · have hdr : dropS T s dir = (T, 0, x0) := by
      have hc : canDropS T.L s dir = x0 := by unfold canDropS; rw [hl]; dsimp only; rw [if_neg h0]
      unfold dropS
      rw [hc, if_neg h0]
    rw [hdr]
    have h1 : (x0 == 0) = false := by rw [beq_eq_false_iff_ne]; exact h0
    have h2 : (x0 != 0) = true := by simpa using h0
    clear hT hI hl hdr h0
    go_enter Tryz.func79, Tryz.ntmps79
    go_wp2_with fail
    refine hlk.mono ?_
    rintro e w1 ⟨rfl, hB1⟩
    go_wp2
    go_ret2
    exact ⟨rfl, HT.out.below hB1, .of_below hB1⟩
end Go.Proofs.YtiegadfhgccliaaGreatDoor
namespace Go.Proofs.YtiegadfhgccliaaGreatDoor
open Go.RowKit Go.Lib

theorem rdn_news {w : World} {b o : Nat} {L : List Nd} (h : RdN w b o L) : ∀ j u, (cellsN L)[j]? = some u → w.cell? ((⟨b, o, none⟩ : Addr).add j) = some u := by
  intro j u hu
  have hj : j < (cellsN L).length := (List.getElem?_eq_some_iff.1 hu).1
  rw [cellsN_len] at hj
  have hk : j / 3 < L.length := by omega
  have hr : j % 3 < 3 := Nat.mod_lt _ (by decide)
  have e : j = j / 3 * 3 + j % 3 := by omega
  have h1 := cellsN_get hk (j % 3) hr
  rw [← e, hu] at h1
  obtain ⟨c0, c1, c2⟩ := h.at_ (j / 3) hk
  have hd : L.getD (j / 3) default = L[j / 3] := by simp [List.getD, hk]
  rw [hd] at c0 c1 c2
  have ha : (⟨b, o, none⟩ : Addr).add j = ⟨b, o + j, none⟩ := by
    unfold Addr.add
    by_cases h0 : j = 0
    · rw [if_pos h0, h0]; rfl
    · rw [if_neg h0]
  rw [ha]
  generalize L[j / 3] = n at *
  have hm : j % 3 = 0 ∨ j % 3 = 1 ∨ j % 3 = 2 := by omega
  rcases hm with hm | hm | hm
  · rw [hm] at h1
    have : u = .string n.path := by simpa [cells3] using h1
    rw [this, show o + j = o + j / 3 * 3 by omega]; exact c0
  · rw [hm] at h1
    have : u = .int .i64 n.id := by simpa [cells3] using h1
    rw [this, show o + j = o + j / 3 * 3 + 1 by omega]; exact c1
  · rw [hm] at h1
    have : u = .bool n.dir := by simpa [cells3] using h1
    rw [this, show o + j = o + j / 3 * 3 + 2 by omega]; exact c2
theorem RdN.take {w : World} {b o : Nat} {L : List Nd} (h : RdN w b o L) (k : Nat) : RdN w b o (L.take k) := by
  refine ⟨fun j hj => ?_, h.lt⟩
  rw [List.length_take] at hj
  have e : (L.take k).getD j default = L.getD j default := by simp [List.getD, show j < k by omega]
  rw [e]
  exact h.at_ j (by omega)
theorem RdN.drop {w : World} {b o : Nat} {L : List Nd} (h : RdN w b o L) (k : Nat) : RdN w b (o + k * 3) (L.drop k) := by
  refine ⟨fun j hj => ?_, h.lt⟩
  rw [List.length_drop] at hj
  have e : (L.drop k).getD j default = L.getD (k + j) default := by simp [List.getD]
  rw [e, show o + k * 3 + j * 3 = o + (k + j) * 3 by omega]
  exact h.at_ (k + j) (by omega)
theorem cellsN_append (A B : List Nd) : cellsN (A ++ B) = cellsN A ++ cellsN B := by unfold cellsN; rw [List.flatMap_append]
theorem cellsN_one (L : List Nd) : ∀ u ∈ cellsN L, u.oneCell' = true := by
  intro u hu
  unfold cellsN at hu
  obtain ⟨n, _, hn⟩ := List.mem_flatMap.1 hu
  unfold cells3 at hn
  simp at hn
  rcases hn with rfl | rfl | rfl <;> rfl
theorem sln_take_news {w : World} {a : Option Addr} {L : List Nd} (h : SlN w a L) (p : Nat) : ∀ j u, (cellsN (L.take p))[j]? = some u → ∃ b, a = some b ∧ w.cell? (b.add j) = some u := by
  intro j u hu
  rcases h with rfl | ⟨b, o, rfl, hr⟩
  · simp [cellsN] at hu
  · exact ⟨_, rfl, rdn_news (hr.take p) j u hu⟩
theorem sln_drop_news {w : World} {a : Option Addr} {L : List Nd} (h : SlN w a L) {p c : Nat} (hc : L.length ≤ c) : ∀ j u, (cellsN (L.drop p))[j]? = some u → ∃ b, (if c = p then a else a.map (·.add (p * 3))) = some b ∧ w.cell? (b.add j) = some u := by
  intro j u hu
  rcases h with rfl | ⟨b, o, rfl, hr⟩
  · simp [cellsN] at hu
  · by_cases e : c = p
    · subst e
      rw [List.drop_eq_nil_of_le hc] at hu
      simp [cellsN] at hu
    · rw [if_neg e]
      refine ⟨_, rfl, ?_⟩
      have ha : (⟨b, o, none⟩ : Addr).add (p * 3) = ⟨b, o + p * 3, none⟩ := by
        unfold Addr.add
        by_cases h0 : p * 3 = 0
        · rw [if_pos h0, h0]; rfl
        · rw [if_neg h0]
      show w.cell? (((⟨b, o, none⟩ : Addr).add (p * 3)).add j) = some u
      rw [ha]
      exact rdn_news (hr.drop p) j u hu
end Go.Proofs.YtiegadfhgccliaaGreatDoor
namespace Go.Proofs.YtiegadfhgccliaaGreatDoor
open Go.RowKit Go.Lib

/-- A source that is nil: nothing is appended. -/
theorem run_append_nothing {P : Program} (w : World) (t ty e base : Nat) (i : TypeInfo) (size : Nat) (ht : P.underlying t = some (.slice e)) (hi : P.info? e = some i)
    (v : Value) (n : Nat) (xs : List Value) (hown : w.ownsRow base e size v n xs) (c : Nat) :
    (Builtin.append_ #[t, t] ty #[v, .slice none 0 c]).run P w = .ok v w := by
  rcases hown.2 with ⟨rfl, rfl⟩ | ⟨g, cap, cur, rfl, _, _, hnc, _⟩
  · simp [Builtin.append_, run_underlying ht, sizeOf, typeInfo, hi, Builtin.lenOf, Builtin.firstCells]
  · simp [Builtin.append_, run_underlying ht, sizeOf, typeInfo, hi, Builtin.lenOf, Builtin.firstCells, storeCells, hnc]
theorem run_append_any {P : Program} (w : World) (t ty e base : Nat) (i : TypeInfo) (z : Value) (size bytes : Nat) (ht : P.underlying t = some (.slice e)) (hi : P.info? e = some i) (hz : i.zero = some z)
    (hsize : i.size = size) (hby : i.bytes = bytes) (hzs : z.cells.size = size) (hsz : 0 < size)
    (v : Value) (n : Nat) (xs : List Value) (hown : w.ownsRow base e size v n xs)
    (a : Option Addr) (m c : Nat) (news : List Value) (hl : news.length = m * size) (hnews : ∀ j u, news[j]? = some u → ∃ ad, a = some ad ∧ w.cell? (ad.add j) = some u) (h1 : ∀ u ∈ news, u.oneCell' = true)
    (h63 : n + m ≤ maxLen) (hbytes : (n + m) * bytes ≤ 140737488355328) (hbase : base ≤ w.heap.size) :
    ∃ v' w', (Builtin.append_ #[t, t] ty #[v, .slice a m c]).run P w = .ok v' w' ∧ w'.ownsRow base e size v' (n + m) (xs ++ news) ∧ w.grownBy w' v.ownBlock ∧ (v'.ownBlock = v.ownBlock ∨ v'.ownBlock = some w.heap.size) := by
  cases a with
  | some ad =>
    obtain ⟨v', w', hr, h2, h3, _, h5⟩ := run_append_own_at (P := P) w base t ty e i z size bytes ht hi hz hsize hby hzs hsz v n xs hown ad m c news hl (fun j u hu => by
      obtain ⟨b, hb, hc⟩ := hnews j u hu
      cases hb; exact hc) h1 h63 hbytes hbase
    exact ⟨v', w', hr, h2, h3, h5⟩
  | none =>
    have hn : news = [] := by
      cases news with
      | nil => rfl
      | cons u r => obtain ⟨_, hb, _⟩ := hnews 0 u rfl; cases hb
    subst hn
    have hm : m = 0 := by
      rcases Nat.eq_zero_or_pos m with h | h
      · exact h
      · have := Nat.mul_pos h hsz
        simp at hl
        omega
    subst hm
    refine ⟨v, w, run_append_nothing w t ty e base i size ht hi v n xs hown c, ?_, ⟨rfl, rfl, rfl, Nat.le_refl _, fun _ _ _ => rfl⟩, .inl rfl⟩
    rw [List.append_nil]
    exact hown
theorem step_append_any {P : Program} {w : World} {ops : Array Oper} {o : Oper} {a : Act} {K : Act → World → Prop} {Q : Exit → Act → World → Prop} {E : Prop} (hgd : o.guard = none) (s x : Operand) (t : TypeId)
    (ho : o.op = .call { callee := .builtin .append, args := #[s, x], argTypes := #[t, t] })
    (base : Nat) (e : TypeId) (i : TypeInfo) (z : Value) (size bytes : Nat) (ht : P.underlying t = some (.slice e)) (hi : P.info? e = some i) (hz : i.zero = some z)
    (hsize : i.size = size) (hby : i.bytes = bytes) (hzs : z.cells.size = size) (hsz : 0 < size)
    (v : Value) (n : Nat) (xs : List Value) (hs : a.eval s = v) (hown : w.ownsRow base e size v n xs)
    (ad : Option Addr) (m c : Nat) (news : List Value) (hx : a.eval x = .slice ad m c) (hl : news.length = m * size) (hnews : ∀ j u, news[j]? = some u → ∃ b, ad = some b ∧ w.cell? (b.add j) = some u) (h1 : ∀ u ∈ news, u.oneCell' = true)
    (h63 : n + m ≤ maxLen) (hbytes : (n + m) * bytes ≤ 140737488355328) (hbase : base ≤ w.heap.size)
    (h : ∀ v' w', w'.ownsRow base e size v' (n + m) (xs ++ news) → w.grownBy w' v.ownBlock → (v'.ownBlock = v.ownBlock ∨ v'.ownBlock = some w.heap.size) → K (a.put o.dst v') w') :
    if Region.wanted o (yielded ops a.tmps) = true then Oper.wp P o a w K Q else E := by
  have hw : Region.wanted o (yielded ops a.tmps) = true := by simp [Region.wanted, hgd]
  rw [if_pos hw]
  obtain ⟨v', w', hr, h2, h3, h4⟩ := run_append_any (P := P) w t o.type e base i z size bytes ht hi hz hsize hby hzs hsz v n xs hown ad m c news hl hnews h1 h63 hbytes hbase
  unfold Oper.wp execOp
  simp only [ho, resolve, invoke, builtin, Sem.run_bind, Sem.run_pure, Result.andThen_ok, List.map_toArray, List.map_cons, List.map_nil, hs, hx, hr]
  exact h v' w' h2 h3 h4
end Go.Proofs.YtiegadfhgccliaaGreatDoor
namespace Go.Proofs.YtiegadfhgccliaaGreatDoor
open Go.RowKit Go.Lib
open Go.ChangeMaps (setBlock)

theorem bytesLess_ltB (a b : ByteArray) : Op.bytesLess a.toList b.toList = ltB a b := by unfold ltB; rw [bytesLess_eq, toList_data, toList_data]
theorem place_lt {n : Nd} {L : List Nd} {k : Nat} (h : ∀ j, j < k → ltB (L.getD j default).path n.path = true) (hk : k < L.length) (h2 : ltB (L.getD k default).path n.path = false) : placeD n L = k := by
  unfold placeD
  induction L generalizing k with
  | nil => simp at hk
  | cons m L ih =>
    cases k with
    | zero => rw [List.takeWhile_cons, show ltB m.path n.path = false from h2]; rfl
    | succ k =>
      rw [List.takeWhile_cons, show ltB m.path n.path = true from h 0 (by omega), if_pos rfl, List.length_cons]
      rw [ih (k := k) (fun j hj => h (j + 1) (by omega)) (by simpa using hk) h2]
theorem place_end {n : Nd} {L : List Nd} (h : ∀ j, j < L.length → ltB (L.getD j default).path n.path = true) : placeD n L = L.length := by
  unfold placeD
  induction L with
  | nil => rfl
  | cons m L ih =>
    rw [List.takeWhile_cons, show ltB m.path n.path = true from h 0 (by simp), if_pos rfl, List.length_cons, List.length_cons]
    rw [ih fun j hj => h (j + 1) (by simpa using hj)]
theorem news_some {w : World} {ad : Addr} {news : List Value} (h : ∀ j u, news[j]? = some u → w.cell? (ad.add j) = some u) : ∀ j u, news[j]? = some u → ∃ b, some ad = some b ∧ w.cell? (b.add j) = some u := fun j u hu => ⟨ad, rfl, h j u hu⟩
theorem one3 (n : Nd) : ∀ u ∈ cells3 n, u.oneCell' = true := by
  intro u hu
  unfold cells3 at hu
  simp at hu
  rcases hu with rfl | rfl | rfl <;> rfl
theorem fzz {w w' : World} {td : Nat} {cs : Array Value} {t : TypeId} (h : w.heap[td]? = some (.cells cs t (0, 0))) (e : w'.heap[td]? = w.heap[td]?) : w'.frozen? ⟨td, 0, none⟩ = false := by
  unfold World.frozen?
  rw [e, h]; simp
theorem put_done {w W w3 : World} {td k c g3 cap3 : Nat} {dx : DX} {T : TS} {a : Option Addr} {n : Nd} (h1 : W.heap[td]? = some (.cells (dC dx (.slice a T.L.length c) (.int .i64 T.nx)) dx.ty (0, 0))) (hpl : placeD n T.L = k) (hk : k ≤ T.L.length) (htd : td < w.heap.size) (hB : Below w.heap.size w W)
    (hO : w3.ownsRow W.heap.size 114 3 (.slice (some ⟨g3, 0, none⟩) (k + 1 + (T.L.length - k)) cap3) (k + 1 + (T.L.length - k)) (cellsN (T.L.take k) ++ cells3 n ++ cellsN (T.L.drop k))) (hB3 : Below W.heap.size W w3) :
    DocP dx (w3.setCell ⟨td, 0, none⟩ (.slice (some ⟨g3, 0, none⟩) (k + 1 + (T.L.length - k)) cap3)) td ⟨insN n T.L, T.nx⟩ ∧ Turn [td] w (w3.setCell ⟨td, 0, none⟩ (.slice (some ⟨g3, 0, none⟩) (k + 1 + (T.L.length - k)) cap3)) := by
  have e : cellsN (T.L.take k) ++ cells3 n ++ cellsN (T.L.drop k) = cellsN (insN n T.L) := by
    have := put_at n T.L
    rw [hpl] at this
    rw [← this, cellsN_append, cellsN_append]
    simp [cellsN]
  have hl : k + 1 + (T.L.length - k) = (insN n T.L).length := by rw [(insN_perm n T.L).length_eq, List.length_cons]; omega
  rw [e, hl] at hO
  rw [hl]
  have hbase := own_base hO
  obtain ⟨a', c', hv, hc', hS⟩ := SlN.own hO
  obtain ⟨e1, _, e2⟩ := Value.slice.inj hv
  subst e1
  subst e2
  have htW := Nat.lt_of_lt_of_le htd hB.size
  refine ⟨DocP.mk2 (dc_set0 ((hB3.block td htW).trans h1) _) hc' (sln_set hS (fun b o e => hbase b o e) htW), (Turn.of_below (hB.trans (hB3.mono hB.size))).setCell (p := ⟨td, 0, none⟩) (.inl (by simp)) _⟩
set_option maxRecDepth 100000 in
set_option maxHeartbeats 8000000 in
theorem doc_put (n : Nd) (w : World) {td : Nat} {dx : DX} {T : TS} (hT : DocP dx w td T) (hn : T.L.length ≤ 1000) :
    Calls Tryz.prog 104 #[.pointer (some ⟨td, 0, none⟩), .agg #[.string n.path, .int .i64 n.id, .bool n.dir]] w fun e w' => e = .returned (.tuple #[]) ∧ DocP dx w' td ⟨insN n T.L, T.nx⟩ ∧ Turn [td] w w' := by
  have HT := Lib.hid hT
  have htd : td < w.heap.size := hT.lt
  obtain ⟨np, ni, nd⟩ := n
  obtain ⟨i0, hi, hz0, hz1, hz2⟩ := info_parts info_rnd
  dsimp only
  clear hT
  go_enter Tryz.func104, Tryz.ntmps104
  go_wp2
  go_loopw [4] (fun i wr => ∃ k : Nat, k ≤ T.L.length ∧ i = .int .i64 (k : Int) ∧ Hid (Below w.heap.size w wr) ∧ Hid (wr.heap[w.heap.size]? = some (.cells #[.string np, .int .i64 ni, .bool nd] 114 (0, 0))) ∧ Hid (∀ j, j < k → ltB (T.L.getD j default).path np = true)) (fun i _ => T.L.length - (intOf i).toNat)
  case atStart => exact ⟨0, by omega, rfl, Lib.hid ((Below.refl _ _).alloc (Nat.le_refl _) _), Lib.hid (heap_alloc_new _ _), Lib.hid fun j hj => by omega⟩
  case round =>
    obtain ⟨k, hk, rfl, HB, HN, HF⟩ := hrel
    go_upto_region 2 with (fail)
    go_cut [24] from 5 to 26 (fun bv wx => ∃ b : Bool, bv = .bool b ∧ Hid (Below w.heap.size w wx) ∧ Hid (wx.heap[w.heap.size]? = some (.cells #[.string np, .int .i64 ni, .bool nd] 114 (0, 0))) ∧ Hid (b = true → k < T.L.length ∧ ltB (T.L.getD k default).path np = true) ∧ Hid (b = false → placeD ⟨np, ni, nd⟩ T.L = k))
    case first =>
      obtain ⟨a, c, t1, t2, t3⟩ := (HT.out.below HB.out).ex
      have c0 : wr.cell? ⟨td, 0, none⟩ = some (.slice a T.L.length c) := by unfold World.cell?; rw [t1]; rfl
      obtain ⟨n0, n1, n2, _⟩ := b3_cells HN.out
      by_cases hlt : k < T.L.length
      · obtain ⟨b, o, rfl, p0, p1, p2, hbl⟩ := t3.at_ hlt
        have hki : (k : Int) < (T.L.length : Int) := by omega
        have hkc : (k : Int) < (c : Int) := by omega
        generalize hnp : (T.L.getD k default).path = mp at *
        have HNp := Lib.hid hnp
        clear t1 t3 hnp
        go_quiet (fail)
        have HBW := Lib.hid (below_drewN HB.out nq)
        have HN2 : Hid ((wr.drewN nq).heap[w.heap.size]? = some (.cells #[.string np, .int .i64 ni, .bool nd] 114 (0, 0))) := HN
        go_wp2
        go_meet
        case rel =>
          refine ⟨_, rfl, HBW, HN2, Lib.hid fun hb => ⟨hlt, ?_⟩, Lib.hid fun hb => place_lt HF.out hlt ?_⟩
          · rw [← bytesLess_ltB]; exact hb
          · rw [HNp.out, ← bytesLess_ltB]; exact hb
      · obtain rfl : k = T.L.length := by omega
        have hlt' : decide ((T.L.length : Int) < (T.L.length : Int)) = false := by simp
        clear t1 t3 hlt
        go_quiet (fail)
        have HBW := Lib.hid (below_drewN HB.out nq)
        have HN2 : Hid ((wr.drewN nq).heap[w.heap.size]? = some (.cells #[.string np, .int .i64 ni, .bool nd] 114 (0, 0))) := HN
        go_wp2
        go_meet
        case rel => exact ⟨false, rfl, HBW, HN2, Lib.hid fun hb => (by cases hb), Lib.hid fun _ => place_end HF.out⟩
    case rest =>
      obtain ⟨b, rfl, HBW, HN2, HTr, HFa⟩ := hcut
      generalize wc = W at *
      cases b
      · have HPl := Lib.hid (HFa.out rfl)
        clear HTr HFa HF HN HB
        obtain ⟨a, c, t1, t2, t3⟩ := (HT.out.below HBW.out).ex
        have c0 : W.cell? ⟨td, 0, none⟩ = some (.slice a T.L.length c) := by unfold World.cell?; rw [t1]; rfl
        have HS := Lib.hid t3
        have HT1 := Lib.hid t1
        have htW := Nat.lt_of_lt_of_le htd HBW.out.size
        have hwW : w.heap.size < W.heap.size := (Array.getElem?_eq_some_iff.1 HN2.out).1
        obtain ⟨n0, n1, n2, _⟩ := b3_cells HN2.out
        have hp1 : ((k : Nat) : Int) ≤ (c : Int) := by omega
        have hp2 : ((k : Nat) : Int) ≤ (T.L.length : Int) := by omega
        have hp0 : (0 : Int) ≤ ((k : Nat) : Int) := Int.natCast_nonneg _
        have hpN : k ≤ T.L.length := by omega
        have HL1 : Hid ((cellsN (T.L.take (k))).length = (k) * 3) := Lib.hid (by rw [cellsN_len, List.length_take, Nat.min_eq_left hpN])
        have HL3 : Hid ((cellsN (T.L.drop (k))).length = (T.L.length - (k)) * 3) := Lib.hid (by rw [cellsN_len, List.length_drop])
        clear t1 t3
        go_upto_region 4 with (fail)
        go_region_law (first | (refine step_append_any (by rfl) _ _ _ (by rfl) (W.heap.size) 114 i0 _ 3 32 Tryz.underlying61 hi hz0 hz1 hz2 rfl (by omega) (.slice none 0 0) (0) ([]) (by rfl) (World.ownsRow_nil _ _ _ _) a (k) (c) (cellsN (T.L.take (k))) (by rfl) (HL1.out) (by first | exact sln_take_news HS.out _ | exact sln_take_news (HS.out.below ((Below.refl _ _).alloc (Nat.le_refl _) _)) _) (cellsN_one _) (by unfold maxLen; omega) (by omega) (by first | exact Nat.le_refl _ | omega | (simp; done) | (simp; omega)) ?_; intro v1 w1 ho1 hg1 hat1; rw [Nat.zero_add, List.nil_append] at ho1; have HO1 := Lib.hid ho1; have HG1 := Lib.hid hg1; have HB1 : Hid (Below W.heap.size W w1) := Lib.hid (grown_below (B := W.heap.size) (w := W) (by first | exact Below.refl _ _ | exact below_drewN' (Below.refl _ _) 1 | exact (Below.refl _ _).alloc (Nat.le_refl _) _ | exact (below_drewN' (Below.refl _ _) 1).alloc (Nat.le_refl _) _) (by first | exact Nat.le_refl _ | (simp; done)) (World.ownsRow_nil _ _ 114 3) hg1); clear ho1 hg1 hat1; have c1 : w1.cell? ⟨td, 0, none⟩ = some (.slice a T.L.length c) := (World.cell?_of_block (HB1.out.block td htW)).trans c0; have n01 : w1.cell? ⟨w.heap.size, 0, none⟩ = some (.string np) := (World.cell?_of_block (HB1.out.block w.heap.size hwW)).trans n0; have n11 : w1.cell? ⟨w.heap.size, 1, none⟩ = some (.int .i64 ni) := (World.cell?_of_block (HB1.out.block w.heap.size hwW)).trans n1; have n21 : w1.cell? ⟨w.heap.size, 2, none⟩ = some (.bool nd) := (World.cell?_of_block (HB1.out.block w.heap.size hwW)).trans n2; have hs1 := HB1.out.size; have ht1 := Nat.lt_of_lt_of_le htW hs1; have hw1 := Nat.lt_of_lt_of_le hwW hs1; have fz1 : w1.frozen? ⟨td, 0, none⟩ = false := fzz HT1.out (HB1.out.block td htW)) | (refine step_append_any (by rfl) _ _ _ (by rfl) (W.heap.size) 114 i0 _ 3 32 Tryz.underlying61 hi hz0 hz1 hz2 rfl (by omega) v1 (k) (cellsN (T.L.take (k))) (by rfl) (HO1.out.alloc _) (some ⟨w1.heap.size, 0, none⟩) (1) (1) (cells3 ⟨np, ni, nd⟩) (by rfl) (rfl) (by exact news_some (World.news_of_block (cs := #[.string np, .int .i64 ni, .bool nd]) (t := 114) (fr := (0, 0)) (heap_alloc_new w1 _))) (one3 _) (by unfold maxLen; omega) (by omega) (by first | exact Nat.le_refl _ | omega | (simp; done) | (simp; omega)) ?_; intro v2 w2 ho2 hg2 hat2; have HO2 := Lib.hid ho2; have HB2 : Hid (Below W.heap.size W w2) := Lib.hid (grown_below (B := W.heap.size) (w := W) (HB1.out.alloc HB1.out.size _) (by simp; omega) (HO1.out.alloc _) hg2); clear ho2 hg2 hat2; have c2 : w2.cell? ⟨td, 0, none⟩ = some (.slice a T.L.length c) := (World.cell?_of_block (HB2.out.block td htW)).trans c0; have n02 : w2.cell? ⟨w.heap.size, 0, none⟩ = some (.string np) := (World.cell?_of_block (HB2.out.block w.heap.size hwW)).trans n0; have n12 : w2.cell? ⟨w.heap.size, 1, none⟩ = some (.int .i64 ni) := (World.cell?_of_block (HB2.out.block w.heap.size hwW)).trans n1; have n22 : w2.cell? ⟨w.heap.size, 2, none⟩ = some (.bool nd) := (World.cell?_of_block (HB2.out.block w.heap.size hwW)).trans n2; have hs2 := HB2.out.size; have ht2 := Nat.lt_of_lt_of_le htW hs2; have hw2 := Nat.lt_of_lt_of_le hwW hs2; have fz2 : w2.frozen? ⟨td, 0, none⟩ = false := fzz HT1.out (HB2.out.block td htW)) | (refine step_append_any (by rfl) _ _ _ (by rfl) (W.heap.size) 114 i0 _ 3 32 Tryz.underlying61 hi hz0 hz1 hz2 rfl (by omega) v1 (k) (cellsN (T.L.take (k))) (by rfl) (HO1.out) (some ⟨W.heap.size, 0, none⟩) (1) (1) (cells3 ⟨np, ni, nd⟩) (by rfl) (rfl) (by exact news_some (World.news_of_block (cs := #[.string np, .int .i64 ni, .bool nd]) (t := 114) (fr := (0, 0)) ((HG1.out.block W.heap.size (by simp) (by simp [Value.ownBlock])).trans (heap_alloc_new W _)))) (one3 _) (by unfold maxLen; omega) (by omega) (by first | exact Nat.le_refl _ | omega | (simp; done) | (simp; omega)) ?_; intro v2 w2 ho2 hg2 hat2; have HO2 := Lib.hid ho2; have HB2 : Hid (Below W.heap.size W w2) := Lib.hid (grown_below (B := W.heap.size) (w := W) HB1.out (by omega) HO1.out hg2); clear ho2 hg2 hat2; have c2 : w2.cell? ⟨td, 0, none⟩ = some (.slice a T.L.length c) := (World.cell?_of_block (HB2.out.block td htW)).trans c0; have n02 : w2.cell? ⟨w.heap.size, 0, none⟩ = some (.string np) := (World.cell?_of_block (HB2.out.block w.heap.size hwW)).trans n0; have n12 : w2.cell? ⟨w.heap.size, 1, none⟩ = some (.int .i64 ni) := (World.cell?_of_block (HB2.out.block w.heap.size hwW)).trans n1; have n22 : w2.cell? ⟨w.heap.size, 2, none⟩ = some (.bool nd) := (World.cell?_of_block (HB2.out.block w.heap.size hwW)).trans n2; have hs2 := HB2.out.size; have ht2 := Nat.lt_of_lt_of_le htW hs2; have hw2 := Nat.lt_of_lt_of_le hwW hs2; have fz2 : w2.frozen? ⟨td, 0, none⟩ = false := fzz HT1.out (HB2.out.block td htW)) | (refine step_append_any (by rfl) _ _ _ (by rfl) (W.heap.size) 114 i0 _ 3 32 Tryz.underlying61 hi hz0 hz1 hz2 rfl (by omega) v2 (k + 1) (cellsN (T.L.take (k)) ++ cells3 ⟨np, ni, nd⟩) (by rfl) (HO2.out) _ (T.L.length - k) (c - k) (cellsN (T.L.drop (k))) (by rfl) (HL3.out) (by exact sln_drop_news (HS.out.below HB2.out) t2) (cellsN_one _) (by unfold maxLen; omega) (by omega) (by first | exact Nat.le_refl _ | omega | (simp; done) | (simp; omega)) ?_; intro v3 w3 ho3 hg3 hat3; obtain ⟨g3, cap3, rfl, hg3b, hg3l⟩ := ho3.form (by omega); have HO3 := Lib.hid ho3; have HB3 : Hid (Below W.heap.size W w3) := Lib.hid (grown_below (B := W.heap.size) (w := W) HB2.out (by omega) HO2.out hg3); clear ho3 hg3 hat3; have c3 : w3.cell? ⟨td, 0, none⟩ = some (.slice a T.L.length c) := (World.cell?_of_block (HB3.out.block td htW)).trans c0; have n03 : w3.cell? ⟨w.heap.size, 0, none⟩ = some (.string np) := (World.cell?_of_block (HB3.out.block w.heap.size hwW)).trans n0; have n13 : w3.cell? ⟨w.heap.size, 1, none⟩ = some (.int .i64 ni) := (World.cell?_of_block (HB3.out.block w.heap.size hwW)).trans n1; have n23 : w3.cell? ⟨w.heap.size, 2, none⟩ = some (.bool nd) := (World.cell?_of_block (HB3.out.block w.heap.size hwW)).trans n2; have hs3 := HB3.out.size; have ht3 := Nat.lt_of_lt_of_le htW hs3; have hw3 := Nat.lt_of_lt_of_le hwW hs3; have fz3 : w3.frozen? ⟨td, 0, none⟩ = false := fzz HT1.out (HB3.out.block td htW)))
        all_goals
          have hdone := put_done HT1.out HPl.out hpN htd HBW.out HO3.out HB3.out
          have HDone := Lib.hid hdone
          clear hdone
          go_wp2
          all_goals (first | go_end0 | refine bodyPost_ret (results_none rfl _ _ _) rfl ?_)
          all_goals exact ⟨rfl, HDone.out⟩
      · obtain ⟨hlt, hl⟩ := HTr.out rfl
        have HF2 : Hid (∀ j, j < k + 1 → ltB (T.L.getD j default).path np = true) := fun j hj => by
          by_cases e : j = k
          · subst e; exact hl
          · exact HF.out j (by omega)
        clear HTr HFa HF HN HB hl
        go_wp2
        exact ⟨⟨k + 1, by omega, by go_num, HBW, HN2, HF2⟩, by simp [intOf]; omega⟩
end Go.Proofs.YtiegadfhgccliaaGreatDoor
