/- Walks of the document: List. -/
import Derived.Test.YtahdmkmefeocmaaGreatDoorMDocM
namespace Go.Proofs.YtahdmkmefeocmaaGreatDoor
open Go.RowKit Go.Lib
open Go.ChangeMaps (setBlock)

theorem listS_succ (L : List Nd) (s : ByteArray) {k : Nat} (hk : k < L.length) {Z : List ByteArray} (hZ : psplit (L.getD k default).path = some Z) : listS (L.take (k + 1)) s = listS (L.take k) s ++ if pjoin Z.dropLast = s then [Z.getLastD default] else [] := by
  unfold listS
  rw [take_keep hk, List.map_append]
  congr 1
  have e : partsN (L.getD k default).path = Z := by unfold partsN; rw [hZ]; rfl
  rw [e]
  by_cases h : pjoin Z.dropLast = s
  · rw [decide_eq_true h, if_pos rfl, if_pos h, List.map_cons, List.map_nil, e]
  · rw [decide_eq_false h, if_neg (by decide), if_neg h]; rfl
theorem listS_len (L : List Nd) (s : ByteArray) : (listS L s).length ≤ L.length := by
  unfold listS
  rw [List.length_map]
  exact List.length_filter_le _ _
set_option maxRecDepth 100000 in
set_option maxHeartbeats 8000000 in
theorem doc_list_no (s : ByteArray) (w : World) (hs : s.size ≤ 100000) {td : Nat} {T : TS} (hT : DocP w td T) (hI : TInv T) {x : Int} (hx : canListS T.L s = x) (hx0 : x ≠ 0) :
    Calls Tryz.prog 18 #[.pointer (some ⟨td, 0, none⟩), .string s] w fun e w' => e = .returned (.tuple #[.slice none 0 0, .int .i64 x]) ∧ Below w.heap.size w w' := by
  obtain ⟨i0, d0, x0, hl⟩ : ∃ i d x, lookS (fnd · T.L) s = (i, d, x) := ⟨_, _, _, rfl⟩
  have HLk := Lib.hid (doc_look s w (by unfold maxLen; omega) hT (by have := hI.few; omega) hl)
  have hxe : x = if x0 = 0 then (if d0 then 0 else 7) else x0 := by rw [← hx]; unfold canListS; simp only [hl]
  clear hx hl hT hI
  by_cases h : x0 = 0
  · subst h
    cases d0
    · have hx7 : x = 7 := by rw [hxe]; rfl
      subst hx7
      clear hxe hx0
      go_enter Tryz.func18, Tryz.ntmps18
      go_wp2_with fail
      refine HLk.out.mono ?_
      rintro e w1 ⟨rfl, hB1⟩
      go_wp2
      go_ret2
      exact ⟨rfl, hB1⟩
    · exact absurd (by rw [hxe]; rfl) hx0
  · rw [if_neg h] at hxe
    subst hxe
    have h1 : (x == 0) = false := by rw [beq_eq_false_iff_ne]; exact h
    clear hx0 h
    go_enter Tryz.func18, Tryz.ntmps18
    go_wp2_with fail
    refine HLk.out.mono ?_
    rintro e w1 ⟨rfl, hB1⟩
    go_wp2
    go_ret2
    exact ⟨rfl, hB1⟩
set_option maxRecDepth 100000 in
set_option maxHeartbeats 8000000 in
theorem doc_list_ok (s : ByteArray) (w : World) (hs : s.size ≤ 100000) {td : Nat} {T : TS} (hT : DocP w td T) (hI : TInv T) (hx : canListS T.L s = 0) :
    Calls Tryz.prog 18 #[.pointer (some ⟨td, 0, none⟩), .string s] w fun e w' => ∃ a c, e = .returned (.tuple #[.slice a (listS T.L s).length c, .int .i64 0]) ∧ (listS T.L s).length ≤ c ∧ SlS w' a (listS T.L s) ∧ Below w.heap.size w w' := by
  obtain ⟨i0, d0, x0, hl⟩ : ∃ i d x, lookS (fnd · T.L) s = (i, d, x) := ⟨_, _, _, rfl⟩
  have HLk := Lib.hid (doc_look s w (by unfold maxLen; omega) hT (by have := hI.few; omega) hl)
  have hxd : x0 = 0 ∧ d0 = true := by
    unfold canListS at hx
    rw [hl] at hx
    dsimp only at hx
    by_cases h : x0 = 0
    · subst h
      cases d0
      · simp at hx
      · exact ⟨rfl, rfl⟩
    · rw [if_neg h] at hx; exact absurd hx h
  obtain ⟨rfl, rfl⟩ := hxd
  have HT := Lib.hid hT
  have HI := Lib.hid hI
  have hfew := hI.few
  obtain ⟨i1, ki, kz0, kz1, kz2⟩ := info_parts info_str
  clear hx hl hT hI
  go_enter Tryz.func18, Tryz.ntmps18
  go_wp2_with fail
  refine HLk.out.mono ?_
  rintro e w1 ⟨rfl, hB1⟩
  have HB1 := Lib.hid hB1
  clear hB1 HLk
  go_wp2
  go_loopw [9, 10] (fun v i wr => ∃ (k : Nat) (sv : Value), k ≤ T.L.length ∧ v = sv ∧ i = .int .i64 (k : Int) ∧ Hid (wr.ownsRow w1.heap.size 9 1 sv (listS (T.L.take k) s).length ((listS (T.L.take k) s).map Value.string)) ∧ Hid (Below w1.heap.size w1 wr)) (fun _ i _ => T.L.length - (intOf i).toNat)
  case atStart => exact ⟨0, _, by omega, rfl, rfl, Lib.hid (World.ownsRow_nil _ _ _ _), Lib.hid (Below.refl _ _)⟩
  case round =>
    obtain ⟨k, sv, hk, hsv, rfl, HO, HB⟩ := hrel
    have hsv' := hsv.symm
    subst hsv'
    have HBr := Lib.hid (blw HB1.out HB.out)
    have hsB := HB.out.size
    by_cases hlt : k < T.L.length
    · obtain ⟨a0, c0, t1, t2, t3⟩ := (HT.out.below HBr.out).ex
      have ce : wr.cell? ⟨td, 0, none⟩ = some (.slice a0 T.L.length c0) := by unfold World.cell?; rw [t1]; rfl
      obtain ⟨b, o, rfl, p0, _, _, hbl⟩ := t3.at_ hlt
      have htl : td < wr.heap.size := (Array.getElem?_eq_some_iff.1 t1).1
      have hki : (k : Int) < (T.L.length : Int) := by omega
      have hkc : (k : Int) < (c0 : Int) := by omega
      have hmem : T.L.getD k default ∈ T.L := by simp [List.getD, hlt]
      have hpsz := path_size HI.out _ hmem
      obtain ⟨Z, hZ, hZne, _⟩ := HI.out.path _ hmem
      have HLs := Lib.hid (listS_succ T.L s hlt hZ)
      have hll : (listS (T.L.take k) s).length ≤ 64 := Nat.le_trans (listS_len _ _) (by rw [List.length_take]; omega)
      generalize (T.L.getD k default).path = np at *
      have HPar : Hid (∀ W, Calls Tryz.prog 41 #[.string np] W fun e w' => e = .returned (.string (pjoin Z.dropLast)) ∧ Below W.heap.size W w') := fun W => doc_parent np W (by unfold maxLen; omega) hZ hZne
      have HSp : Hid (∀ W, Calls Tryz.prog 35 #[.string np] W (RSplitAns W np)) := fun W => ref_split np W (by unfold maxLen; omega)
      have HZ := Lib.hid hZ
      have hZ8 := (psplit_ok hZ).1.few
      have hZp := List.length_pos_iff.2 hZne
      have HLast : Hid (Z.getD (Z.length - 1) default = Z.getLastD default) := Lib.hid (by
        rw [List.getLastD_eq_getLast?, List.getLast?_eq_getElem?, List.getD_eq_getElem?_getD])
      generalize Z.getLastD default = zl at *
      generalize hpj : pjoin Z.dropLast = pj at *
      clear hmem t1 t3 hZ hZne hpj
      by_cases he : pj = s
      · have hbq : (pj.toList == s.toList) = true := by rw [beq_bytes]; exact decide_eq_true he
        have HLs2 : Hid (listS (T.L.take (k + 1)) s = listS (T.L.take k) s ++ [zl]) := Lib.hid (by rw [HLs.out, if_pos he])
        have v1 : IntKind.i64.wrap ((Z.length : Int) - 1) = (Z.length : Int) - 1 := IntWalk.i64_in _ (by omega)
        have v2 : ((Z.length : Int) - 1).toNat = Z.length - 1 := by omega
        have v3 : (0 : Int) ≤ (Z.length : Int) - 1 := by omega
        have v4 : (Z.length : Int) - 1 < (Z.length : Int) := by omega
        subst he
        clear HLs
        go_wp2_with fail
        with_reducible refine Calls.mono (HPar.out _) ?_
        rintro e w2 ⟨rfl, hB2⟩
        have ce2 := (World.cell?_of_block (hB2.block td htl) : w2.cell? ⟨td, 0, none⟩ = _).trans ce
        have p02 := (World.cell?_of_block (hB2.block b hbl) : w2.cell? ⟨b, o + k * 3, none⟩ = _).trans p0
        have HB2 := Lib.hid hB2
        clear hB2 ce p0
        go_wp2_with fail
        with_reducible refine Calls.mono (HSp.out _) ?_
        intro e w3 hr
        obtain ⟨a3, c3, rfl, hc3, hS3, hB3⟩ := rsplitAns_some HZ.out hr
        obtain ⟨b3, o3, rfl, q0, _⟩ := hS3.at_ (k := Z.length - 1) (by omega)
        rw [HLast.out] at q0
        have HB3 := Lib.hid (HB2.out.trans (hB3.mono HB2.out.size))
        have HO3 := Lib.hid (own_below_any HO.out HB3.out)
        have HB13 := Lib.hid (HB.out.trans (HB3.out.mono hsB))
        have hs13 := HB13.out.size
        clear hr hS3 hB3 ce2 p02
        go_wp2_with (at_builtin; refine wpList_append_own _ rfl (.tmp 57) (.tmp 64) 39 rfl w1.heap.size 9 i1 _ 1 16 Tryz.underlying39 ki kz0 kz1 kz2 rfl (by decide) _ _ _ rfl (HO3.out.alloc _) ⟨w3.heap.size, 0, none⟩ 1 1 [.string zl] rfl rfl (one_new _ _ _) (by intro u hu; simp at hu; rcases hu with rfl; rfl) (by unfold maxLen; omega) (by omega) (by simp; omega) ?_; intro v' w9 hown' hgrow hnil; clear hnil; have HO2 := Lib.hid hown'; have HG := Lib.hid hgrow; clear hown' hgrow)
        refine ⟨⟨k + 1, v', by omega, rfl, by go_num, ?_, ?_⟩, by simp [intOf]; omega⟩
        · rw [HLs2.out, List.map_append, List.length_append, List.length_singleton]
          exact HO2
        · exact Lib.hid (grown_below (HB13.out.alloc HB13.out.size _) (by simp; omega) (HO3.out.alloc _) HG.out)
      · have hbq : (pj.toList == s.toList) = false := by rw [beq_bytes]; exact decide_eq_false he
        have HLs2 : Hid (listS (T.L.take (k + 1)) s = listS (T.L.take k) s) := Lib.hid (by rw [HLs.out, if_neg he, List.append_nil])
        clear HLs he
        go_wp2_with fail
        with_reducible refine Calls.mono (HPar.out _) ?_
        rintro e w2 ⟨rfl, hB2⟩
        have HO3 := Lib.hid (own_below_any HO.out hB2)
        have HB13 := Lib.hid (HB.out.trans (hB2.mono hsB))
        clear hB2 ce p0
        go_wp2
        exact ⟨⟨k + 1, sv, by omega, rfl, by go_num, by rw [HLs2.out]; exact HO3, HB13⟩, by simp [intOf]; omega⟩
    · obtain rfl : k = T.L.length := by omega
      have hlt' : decide ((T.L.length : Int) < (T.L.length : Int)) = false := by simp
      have ho := HO.out
      rw [List.take_length] at ho
      obtain ⟨a2, c2, rfl, hc2, hS2⟩ := SlS.own ho
      have HS2 := Lib.hid hS2
      obtain ⟨a0, c0, ce, _⟩ := (HT.out.below HBr.out).cell0
      clear hlt ho hS2 HO
      go_wp2
      go_ret2
      exact ⟨a2, c2, rfl, hc2, HS2.out, HBr.out⟩
end Go.Proofs.YtahdmkmefeocmaaGreatDoor
