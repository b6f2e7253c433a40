/- Walks of package tree: List. -/
import Derived.Test.YtahdmkmefeocmaaGreatDoorMTreeW8
import Derived.Test.YtahdmkmefeocmaaGreatDoorMTreeT
namespace Go.Proofs.YtahdmkmefeocmaaGreatDoor
open Go.RowKit Go.Lib
open Go.ChangeMaps (setBlock)

theorem info_strt : (Tryz.prog.info? 9).map (fun i => (i.zero, i.size, i.bytes)) = some (some (.string ByteArray.empty), 1, 16) := by kernel_rfl
theorem one_news (W : World) (x : Value) (t : TypeId) (B : Nat) (hB : W.heap.size = B) : ∀ j u, [x][j]? = some u → (W.alloc (.cells #[x] t)).cell? ((⟨B, 0, none⟩ : Addr).add j) = some u := by
  subst hB
  exact World.news_of_block (cs := #[x]) (t := t) (fr := (0, 0)) (heap_alloc_new W _)
/-- slices.Sort on a row of strings of the call's own. -/
theorem sort_row {w : World} {base : Nat} {L : List ByteArray} {v : Value} (h : w.ownsRow base 9 1 v L.length (L.map Value.string)) (hl : L.length ≤ 1000000) :
    Calls Tryz.prog 40 #[v] w fun e w' => e = .returned (.tuple #[]) ∧ ∃ a c, v = .slice a L.length c ∧ L.length ≤ c ∧ SlS w' a (sortB L) ∧ ∀ u, base ≤ u.heap.size → Below u.heap.size u w → base = u.heap.size → Below u.heap.size u w' := by
  have h0 := h
  obtain ⟨_, ⟨rfl, hn⟩ | ⟨g, cap, cur, rfl, hbg, hg, hc, _, _, hx⟩⟩ := h
  · have hL : L = [] := by cases L; rfl; simp at hn
    subst hL
    refine (Tryz.slices_Sort_string_none none 0 w).mono ?_
    rintro e w' ⟨rfl, rfl⟩
    exact ⟨rfl, none, 0, rfl, Nat.le_refl _, .inl (by simp [sortB]), fun u _ hu _ => hu⟩
  · have hlt : g < w.heap.size := (Array.getElem?_eq_some_iff.1 hg).1
    have hH : Sort.Holds encStr w g 0 (L.map (·.data.toList)).toArray := by
      intro j hj
      have hj' : j < L.length := by simpa using hj
      have hk1 : (L.map Value.string)[j]? = some (.string L[j]) := by rw [List.getElem?_map, List.getElem?_eq_getElem hj']; rfl
      rw [← hx, List.getElem?_take] at hk1
      constructor
      · split at hk1
        · unfold World.cell?
          rw [hg]
          have e : encStr ((L.map (·.data.toList)).toArray[j]!) = .string L[j] := by
            simp [hj', encStr]
          rw [e]
          simpa using hk1
        · cases hk1
      · unfold World.frozen?; rw [hg]; simp
    have hlen : (L.map (·.data.toList)).length = L.length := by simp
    have hs := Tryz.slices_Sort_string g 0 cap (L.map (·.data.toList)) w hH hlt (by rw [hlen]; omega)
    rw [hlen] at hs
    refine hs.mono ?_
    rintro e w' ⟨rfl, n, os, rfl⟩
    have hsz : ((L.map (·.data.toList)).mergeSort fun x y => decide (x ≤ y)).length = L.length := by rw [List.length_mergeSort, hlen]
    have hH2 : Sort.Holds encStr (Sort.ahead w n) g 0 (L.map (·.data.toList)).toArray := hH
    have hpr := Sort.holds_putRow encStr (Sort.ahead w n) g 0 _ ((L.map (·.data.toList)).mergeSort fun x y => decide (x ≤ y)).toArray hH2 (by simp [hsz])
    have hgr := Sort.holds_grow encStr _ os g 0 _ (by rw [Sort.size_putRow]; exact hlt) hpr
    refine ⟨rfl, _, cap, rfl, hc, .inr ⟨g, 0, rfl, ⟨fun k hk => ?_, ?_⟩⟩, fun u _ hu hb => ?_⟩
    · have hk' : k < L.length := by unfold sortB at hk; rw [List.length_map, hsz] at hk; exact hk
      have := (hgr k (by simpa [hsz] using hk')).1
      rw [this]
      have hk2 : k < ((L.map (·.data.toList)).mergeSort fun x y => decide (x ≤ y)).length := by rw [hsz]; exact hk'
      unfold sortB
      generalize ((L.map (·.data.toList)).mergeSort fun x y => decide (x ≤ y)) = ms at *
      have e1 : ms.toArray[k]! = ms[k] := by simp [hk2]
      have e2 : (ms.map mkB).getD k default = mkB ms[k] := by
        rw [List.getD_eq_getElem?_getD, List.getElem?_map, List.getElem?_eq_getElem hk2]; rfl
      rw [e1, e2]
    · rw [Sort.size_grow, Sort.size_putRow]; exact Nat.lt_of_lt_of_le hlt (Nat.le_add_right _ _)
    · refine ⟨hu.os, hu.tape, hu.output, ?_, fun i hi => ?_⟩
      · rw [Sort.size_grow, Sort.size_putRow]; exact Nat.le_trans hu.size (Nat.le_add_right _ _)
      · have hi2 := Nat.lt_of_lt_of_le hi hu.size
        rw [Sort.heap_grow_old _ _ (by rw [Sort.size_putRow]; exact hi2)]
        refine Eq.trans ?_ (hu.block i hi)
        unfold Sort.putRow Sort.mapBlock
        show (w.heap.modify g _)[i]? = _
        rw [Array.getElem?_modify, if_neg (by omega)]

theorem gotB_cons (a : ByteArray) (n : Nd) (L : List Nd) : gotB a (n :: L) = if inB a n.path = true then restB a n.path :: gotB a L else gotB a L := by
  unfold gotB
  rw [List.filter_cons]
  split <;> rfl
theorem gotB_perm (a : ByteArray) {L M : List Nd} (h : L.Perm M) : (gotB a L).Perm (gotB a M) := (h.filter _).map _
theorem gotB_len (a : ByteArray) (L : List Nd) : (gotB a L).length ≤ L.length := by unfold gotB; rw [List.length_map]; exact List.length_filter_le _ _
set_option maxRecDepth 100000 in
set_option maxHeartbeats 4000000 in
theorem tree_list_ok (s : ByteArray) (w : World) (hs : s.size ≤ 100000) {tb mb : Nat} {T : TS} (hT : TreeP w tb mb T) (hI : TInv T) (hm : MLen w) (hx : canListS T.L s = 0) :
    Calls Tryz.prog 17 #[.pointer (some ⟨tb, 0, none⟩), .string s] w fun e w' => ∃ a c, e = .returned (.tuple #[.slice a (listS T.L s).length c, .int .i64 0]) ∧ (listS T.L s).length ≤ c ∧ SlS w' a (listS T.L s) ∧ Below w.heap.size w w' := by
  obtain ⟨i0, d0, x0, hl⟩ : ∃ i d x, lookS (fnd · T.L) s = (i, d, x) := ⟨_, _, _, rfl⟩
  have HLk := Lib.hid (tree_look s w (by unfold maxLen; omega) hT hI.rises.apart hm hl)
  have hxd : x0 = 0 ∧ d0 = true := by
    unfold canListS at hx
    rw [hl] at hx
    dsimp only at hx
    by_cases h : x0 = 0
    · subst h
      cases d0
      · simp at hx
      · exact ⟨rfl, rfl⟩
    · rw [if_neg h] at hx; exact absurd hx h
  obtain ⟨rfl, rfl⟩ := hxd
  obtain ⟨X, hX, _⟩ := lookS_ok hl
  have HX := Lib.hid hX
  have HI := Lib.hid hI
  obtain ⟨L, hp, hTA⟩ := hT
  have hlen : L.length ≤ 64 := by rw [hp.length_eq]; exact hI.few
  have HPs : Hid (∀ n ∈ L, n.path.size ≤ 64) := fun n h => path_size hI n (hp.mem_iff.1 h)
  have HP := Lib.hid hp
  have HTA := Lib.hid hTA
  obtain ⟨i0', hi, hz0, hz1, hz2⟩ := info_parts info_strt
  clear hx hl hX hI hp hTA hm
  go_enter Tryz.func17, Tryz.ntmps17
  go_wp2_with fail
  refine HLk.out.mono ?_
  rintro e w1 ⟨rfl, hB1⟩
  have hta := HTA.out.below hB1
  have hc0 := hta.c0
  have htb := hta.lt
  have hmb := hta.ltm
  have HM1 := Lib.hid hta.map
  clear hta
  have hsz : (trimSuffix s.data.toList [47]).length ≤ 100000 := by
    unfold trimSuffix
    rw [size_eq] at hs
    split
    · rw [List.length_take]; omega
    · exact hs
  have hcat : ¬ 9223372036854775807 < (⟨(trimSuffix s.data.toList [47]).toArray⟩ : ByteArray).size + 1 := by rw [size_eq]; show ¬ _ < (trimSuffix s.data.toList [47]).toArray.toList.length + 1; rw [List.toList_toArray]; omega
  have HA : Hid ((⟨(trimSuffix s.data.toList [47]).toArray⟩ : ByteArray) ++ ⟨#[47]⟩ = aheadB s) := rfl
  obtain ⟨sx, hsx⟩ : ∃ sx : ByteArray, (⟨(trimSuffix s.data.toList [47]).toArray⟩ : ByteArray) = sx := ⟨_, rfl⟩
  rw [hsx] at hcat HA
  have HSx := Lib.hid hsx
  clear hsx hsz
  go_wp2_with (first
    | (go_at_call 37; refine (Tryz.strings_TrimSuffix _ _ _ (by omega)).mono ?_; rintro e wt ⟨rfl, rfl⟩; rw [show (⟨(trimSuffix s.data.toList (⟨#[47]⟩ : ByteArray).data.toList).toArray⟩ : ByteArray) = sx from HSx.out])
    | (at_range; refine wpList_range_it _ rfl _ 61 rfl 9 54 strKey Tryz.underlying61 mb _ rfl HM1.out ?_; intro ob hit))
  go_frame
  have HIt := Lib.hid hit
  clear hit
  have hws := hB1.size
  have HB0 := Lib.hid (hB1.alloc hB1.size ob)
  generalize sx ++ (⟨#[47]⟩ : ByteArray) = A at *
  generalize wt.alloc ob = w0 at *
  generalize wt.heap.size = R at *
  clear hB1 HSx hcat HM1 hmb HLk HTA hc0 htb
  go_loopw [9] (fun v wr => ∃ (U : List ByteArray) (left : List Nd) (sv : Value), v = sv ∧ Hid (MapIt strKey wr mb R (ents L) (ents left)) ∧ Hid (wr.ownsRow w.heap.size 9 1 sv U.length (U.map Value.string)) ∧ Hid (Below w.heap.size w wr) ∧ Hid ((U ++ gotB A left).Perm (gotB A L)) ∧ Hid (∀ n ∈ left, n ∈ L)) (fun _ wr => wr.rangeLeft mb R)
  case atStart => exact ⟨[], L, _, rfl, HIt, Lib.hid (World.ownsRow_nil _ _ _ _), HB0, Lib.hid (List.Perm.refl _), Lib.hid fun n h => h⟩
  case round =>
    obtain ⟨U, left, sv, hsv, HI2, HO, HB, HP2, HL⟩ := hrel
    have hsv' := hsv.symm
    subst hsv'
    have hul : U.length ≤ 64 := by
      have h1 := HP2.out.length_eq
      have h2 := gotB_len A L
      rw [List.length_append] at h1
      omega
    go_wp2_with (at_next; refine wpList_next_nd _ rfl _ rfl mb R L left rfl HI2.out ?_ ?_)
    · intro hnil
      have hpm := HP2.out
      rw [hnil] at hpm
      have hpm : U.Perm (gotB A L) := by simpa [gotB] using hpm
      rw [HA.out] at hpm
      have hso := list_sorted HI.out HX.out HP.out hpm
      have HSo := Lib.hid hso
      have hsr := sort_row HO.out (by omega)
      have hul2 : (listS T.L s).length = U.length := by rw [← hso]; unfold sortB; rw [List.length_map, List.length_mergeSort, List.length_map]
      have HUl := Lib.hid hul2
      clear hnil hpm hso hul2
      go_wp2_with fail
      refine hsr.mono ?_
      rintro e w5 ⟨rfl, a, c, rfl, hc, hS, hB5⟩
      go_wp2
      go_ret2
      rw [HSo.out] at hS
      exact ⟨a, c, by rw [HUl.out]; rfl, by rw [HUl.out]; exact hc, hS, hB5 w (Nat.le_refl _) HB.out rfl⟩
    · intro i n w2 ob1 hi1 hw1 hit1 hen
      have hmem := HL.out n (List.mem_of_getElem? hi1)
      have hpsz := HPs.out n hmem
      have hBw1 : Below w.heap.size w w2 := by rcases hw1 with rfl | rfl; exact HB.out; exact below_drewN' HB.out 1
      have hOw1 : w2.ownsRow w.heap.size 9 1 sv U.length (U.map Value.string) := by rcases hw1 with rfl | rfl; exact HO.out; exact own_heap HO.out rfl
      have hIw1 : MapIt strKey w2 mb R (ents L) (ents left) := by rcases hw1 with rfl | rfl; exact HI2.out; exact HI2.out.of_blocks rfl rfl
      have hB1 : Below w.heap.size w (setBlock w2 R ob1) := below_setBlock hBw1 hws ob1
      have hO1 : (setBlock w2 R ob1).ownsRow w.heap.size 9 1 sv U.length (U.map Value.string) := by
        refine ⟨hOw1.1, ?_⟩
        rcases hOw1.2 with h | ⟨g, cap, cur, hv, hbg, hg, r⟩
        · exact .inl h
        · refine .inr ⟨g, cap, cur, hv, hbg, ?_, r⟩
          rw [heap_setBlock_ne _ _ _ _ (Ne.symm (hIw1.ne_row hg).2)]
          exact hg
      have hpm1 : (U ++ gotB A left).Perm (U ++ gotB A (n :: left.eraseIdx i)) := (gotB_perm A (perm_erase hi1)).append_left U
      have HPm1 := Lib.hid (hpm1.symm.trans HP2.out)
      have HL1 : Hid (∀ x ∈ left.eraseIdx i, x ∈ L) := fun x hx => HL.out x (List.mem_of_mem_eraseIdx hx)
      have HLen := Lib.hid (show (left.eraseIdx i).length < left.length by
        have := (List.getElem?_eq_some_iff.1 hi1).1
        rw [List.length_eraseIdx]; split <;> omega)
      have HLft := Lib.hid (it_left HI2.out)
      obtain ⟨np, ni, nd⟩ := n
      dsimp only at hen hpsz
      have HO1 := Lib.hid hO1
      have HB1 := Lib.hid hB1
      have HI1 := Lib.hid hit1
      clear hw1 hit1 hBw1 hOw1 hIw1 hB1 hO1 hpm1 hmem hi1 HI2 HO HB HP2
      generalize setBlock w2 R ob1 = W at *
      obtain ⟨Z, hZ⟩ : ∃ Z, restB A np = Z := ⟨_, rfl⟩
      have HZ := Lib.hid hZ
      clear hZ
      cases hb : hasPrefix np.data.toList A.data.toList
      · have HBr := Lib.hid hb
        clear hb
        go_wp2_with (go_at_call 38; refine (Tryz.strings_CutPrefix _ _ _).mono ?_; rintro e W ⟨rfl, rfl⟩; rw [show hasPrefix np.data.toList A.data.toList = false from HBr.out, show (⟨(trimPrefix np.data.toList A.data.toList).toArray⟩ : ByteArray) = Z from HZ.out])
        refine ⟨⟨U, left.eraseIdx i, sv, rfl, HI1, HO1, HB1, ?_, HL1⟩, ?_⟩
        · have := HPm1.out
          rw [gotB_cons, if_neg (by unfold inB; rw [show hasPrefix np.data.toList A.data.toList = false from HBr.out]; simp)] at this
          exact Lib.hid this
        · rw [it_left HI1.out, HLft.out]; unfold ents; rw [List.length_map, List.length_map]; exact HLen.out

      · have HBr := Lib.hid hb
        clear hb
        cases hcn : decide (0 ≤ indexByte Z.data.toList 47)
        · have HCn := Lib.hid hcn
          clear hcn
          go_wp2_with (first
            | (go_at_call 38; refine (Tryz.strings_CutPrefix _ _ _).mono ?_; rintro e W ⟨rfl, rfl⟩; rw [show hasPrefix np.data.toList A.data.toList = true from HBr.out, show (⟨(trimPrefix np.data.toList A.data.toList).toArray⟩ : ByteArray) = Z from HZ.out])
            | (go_at_call 39; refine (Tryz.strings_Contains_one _ _ _).mono ?_; rintro e W ⟨rfl, rfl⟩; rw [show decide (0 ≤ indexByte Z.data.toList 47) = false from HCn.out])
            | (at_builtin; refine wpList_append_own _ rfl (.tmp 52) (.tmp 54) 39 rfl w.heap.size 9 i0' _ 1 16 Tryz.underlying39 hi hz0 hz1 hz2 rfl (by decide) _ _ _ rfl (HO1.out.alloc _) ⟨W.heap.size, 0, none⟩ 1 1 [.string Z] rfl rfl (one_news _ _ _ _ rfl) (by intro u hu; simp at hu; subst hu; rfl) (by unfold maxLen; omega) (by omega) (by have := HB1.out.size; simp; omega) ?_; intro v' w3 hown' hgrow hnil; clear hnil; have HO2 := Lib.hid hown'; have HG := Lib.hid hgrow; clear hown' hgrow))
          refine ⟨⟨U ++ [Z], left.eraseIdx i, v', rfl, Lib.hid ((HI1.out.alloc _).grown (HO1.out.alloc _) HG.out), ?_, ?_, ?_, HL1⟩, ?_⟩
          · have := HO2.out
            rw [List.map_append, List.length_append, List.length_singleton]
            exact Lib.hid this
          · exact Lib.hid (grown_below (HB1.out.alloc HB1.out.size _) (by have := HB1.out.size; simp; omega) (HO1.out.alloc _) HG.out)
          · have := HPm1.out
            rw [gotB_cons, if_pos (by unfold inB; rw [show hasPrefix np.data.toList A.data.toList = true from HBr.out, HZ.out, HCn.out]; simp)] at this
            refine Lib.hid ?_
            rw [List.append_assoc, ← HZ.out]
            exact this
          · rw [it_left ((HI1.out.alloc _).grown (HO1.out.alloc _) HG.out), HLft.out]; unfold ents; rw [List.length_map, List.length_map]; exact HLen.out
        · have HCn := Lib.hid hcn
          clear hcn
          go_wp2_with (first
            | (go_at_call 38; refine (Tryz.strings_CutPrefix _ _ _).mono ?_; rintro e W ⟨rfl, rfl⟩; rw [show hasPrefix np.data.toList A.data.toList = true from HBr.out, show (⟨(trimPrefix np.data.toList A.data.toList).toArray⟩ : ByteArray) = Z from HZ.out])
            | (go_at_call 39; refine (Tryz.strings_Contains_one _ _ _).mono ?_; rintro e W ⟨rfl, rfl⟩; rw [show decide (0 ≤ indexByte Z.data.toList 47) = true from HCn.out]))
          refine ⟨⟨U, left.eraseIdx i, sv, rfl, HI1, HO1, HB1, ?_, HL1⟩, ?_⟩
          · have := HPm1.out
            rw [gotB_cons, if_neg (by unfold inB; rw [show hasPrefix np.data.toList A.data.toList = true from HBr.out]; rw [HZ.out, HCn.out]; simp)] at this
            exact Lib.hid this
          · rw [it_left HI1.out, HLft.out]; unfold ents; rw [List.length_map, List.length_map]; exact HLen.out

set_option maxRecDepth 100000 in
set_option maxHeartbeats 4000000 in
theorem tree_list_no (s : ByteArray) (w : World) (hs : s.size ≤ 100000) {tb mb : Nat} {T : TS} (hT : TreeP w tb mb T) (hI : TInv T) (hm : MLen w) {x : Int} (hx : canListS T.L s = x) (hx0 : x ≠ 0) :
    Calls Tryz.prog 17 #[.pointer (some ⟨tb, 0, none⟩), .string s] w fun e w' => e = .returned (.tuple #[.slice none 0 0, .int .i64 x]) ∧ Below w.heap.size w w' := by
  obtain ⟨i0, d0, x0, hl⟩ : ∃ i d x, lookS (fnd · T.L) s = (i, d, x) := ⟨_, _, _, rfl⟩
  have HLk := Lib.hid (tree_look s w (by unfold maxLen; omega) hT hI.rises.apart hm hl)
  unfold canListS at hx
  rw [hl] at hx
  dsimp only at hx
  by_cases h0 : x0 = 0
  · subst h0
    rw [if_pos rfl] at hx
    cases d0
    · have HR := Lib.hid (show (7 : Int) = x from hx)
      clear hx hx0 hT hI hm hl
      go_enter Tryz.func17, Tryz.ntmps17
      go_wp2_with fail
      refine HLk.out.mono ?_
      rintro e w1 ⟨rfl, hB1⟩
      go_wp2
      go_ret2
      exact ⟨by rw [← HR.out]; rfl, hB1⟩
    · exact absurd hx.symm hx0
  · rw [if_neg h0] at hx
    have HR := Lib.hid hx
    have h1 : (x0 == 0) = false := by rw [beq_eq_false_iff_ne]; exact h0
    clear hx hx0 hT hI hm hl h0
    go_enter Tryz.func17, Tryz.ntmps17
    go_wp2_with fail
    refine HLk.out.mono ?_
    rintro e w1 ⟨rfl, hB1⟩
    go_wp2
    go_ret2
    exact ⟨by rw [← HR.out]; rfl, hB1⟩
end Go.Proofs.YtahdmkmefeocmaaGreatDoor
