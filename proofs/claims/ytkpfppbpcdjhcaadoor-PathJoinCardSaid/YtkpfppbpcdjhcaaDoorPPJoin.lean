/- The walk of PathJoin. -/
import Derived.Test.YtkpfppbpcdjhcaaDoorAwake11
import Derived.Test.YtkpfppbpcdjhcaaDoorOpen
namespace Go.Proofs.YtkpfppbpcdjhcaaDoor
open Go.RowKit Go.Lib

def tot (L : List ByteArray) : Nat := (L.map fun x => 1 + x.size).sum
theorem tot_nil : tot [] = 0 := rfl
theorem tot_cons (a : ByteArray) (r : List ByteArray) : tot (a :: r) = 1 + a.size + tot r := by unfold tot; rw [List.map_cons, List.sum_cons]
theorem tot_append (a b : List ByteArray) : tot (a ++ b) = tot a + tot b := by unfold tot; rw [List.map_append, List.sum_append]
theorem tot_snoc (L : List ByteArray) (k : Nat) (hk : k < L.length) : tot (L.take (k + 1)) = tot (L.take k) + 1 + (L.getD k default).size := by
  have e : L.getD k default = L[k] := by simp [List.getD, hk]
  rw [List.take_succ_eq_append_getElem hk, tot_append, tot_cons, tot_nil, e]
  omega
theorem tot_le (L : List ByteArray) (h : ∀ x ∈ L, x.size ≤ 16) : tot L ≤ 17 * L.length := by
  induction L with
  | nil => simp [tot]
  | cons a r ih =>
    have h1 := ih fun x hx => h x (List.mem_cons_of_mem _ hx)
    have h2 := h a (by simp)
    rw [tot_cons, List.length_cons]
    omega
theorem joinTail_tot (r : List ByteArray) : (joinTail [47] (r.map (·.data.toList))).length = tot r := by
  induction r with
  | nil => rfl
  | cons a r ih =>
    have e : joinTail [47] ((a :: r).map (·.data.toList)) = 47 :: a.data.toList ++ joinTail [47] (r.map (·.data.toList)) := rfl
    rw [e, tot_cons, List.length_append, ih, List.length_cons, ← size_eq]
    omega
theorem join_len (a : ByteArray) (r : List ByteArray) : (join ((a :: r).map (·.data.toList)) [47]).length + 1 = tot (a :: r) := by
  rw [List.map_cons, join_cons, List.length_append, joinTail_tot, tot_cons, ← size_eq]
  omega
theorem pjoin_size (L : List ByteArray) : (pjoin L).size = if L = [] then 1 else tot L := by
  unfold pjoin
  rw [mkB_size, List.length_cons]
  cases L with
  | nil => rfl
  | cons a r => rw [join_len, if_neg (by simp)]

set_option maxRecDepth 100000 in
set_option maxHeartbeats 4000000 in
theorem pathJoin_walk (s : Option Addr) (c : Nat) (L : List ByteArray) (w : World) (hL : SlS w s L) (hc : L.length ≤ c) (hfit : ∀ x ∈ L, x.size ≤ maxLen) (hreach : c * 16 ≤ 140737488351232) (hm : MLen w) :
    Calls Tryd.prog 5 #[.slice s L.length c] w fun e w' => e = .returned (.bool true) ∧ Below w.heap.size w w' := by
  have HA := Lib.hid (awake11 w hm)
  have HM : Hid (∀ w1, Below w.heap.size w w1 → MLen w1) := fun w1 h => hm.below h
  have HFit := Lib.hid hfit
  have hlen : L.length ≤ 8796093022208 := by omega
  clear hm hfit hreach
  go_enter Tryd.func5, Tryd.ntmps5
  go_wp2_with fail
  refine HA.out.mono ?_
  rintro e w1 ⟨rfl, hB1⟩
  have HB1 := Lib.hid hB1
  have hL1 := hL.below hB1
  clear hB1 hL
  go_wp2
  go_loop [3, 4] (fun n i => ∃ k : Nat, k ≤ L.length ∧ i = .int .i64 (k : Int) ∧ n = .int .i64 (tot (L.take k) : Int) ∧ Hid (∀ x ∈ L.take k, nameOk x = true)) (fun _ i => L.length - (intOf i).toNat)
  case atStart => exact ⟨0, by omega, rfl, rfl, by intro x hx; simp at hx⟩
  case round =>
    obtain ⟨k, hk, rfl, rfl, HN⟩ := hrel
    by_cases hlt : k < L.length
    · obtain ⟨b, o, rfl, cell, hbl⟩ := hL1.at_ hlt
      have hki : (k : Int) < (L.length : Int) := by omega
      have hts := tot_snoc L k hlt
      have htl : tot (L.take k) ≤ 17 * L.length := by
        have h1 := tot_le (L.take k) fun x hx => (nameOk_size (HN.out x hx)).2
        rw [List.length_take] at h1
        omega
      have hxf := HFit.out _ (getD_mem hlt)
      have hmem : L.take (k + 1) = L.take k ++ [L.getD k default] := by
        rw [List.take_succ_eq_append_getElem hlt]; simp [List.getD, hlt]
      generalize hx : L.getD k default = x at cell hxf hts hmem
      generalize ht : tot (L.take k) = t at htl hts
      have HT := Lib.hid hts
      have HMem := Lib.hid hmem
      clear hts hmem hx
      cases hn : nameOk x
      · go_wp2_with (go_at_call 11; refine (rname_any _ hxf _).mono ?_; rintro e w' ⟨rfl, rfl⟩; rw [hn])
        go_ret
        exact ⟨rfl, HB1.out⟩
      · have hsz := nameOk_size hn
        have HNx := Lib.hid hn
        clear hn
        go_wp2_with (go_at_call 11; refine (rname_any _ hxf _).mono ?_; rintro e w' ⟨rfl, rfl⟩; rw [HNx.out])
        refine ⟨⟨k + 1, by omega, by go_num, by rw [HT.out]; go_num, ?_⟩, by simp [intOf]; omega⟩
        intro y hy
        rw [HMem.out] at hy
        rcases List.mem_append.1 hy with h | h
        · exact HN.out y h
        · simp at h; rw [h]; exact HNx.out
    · obtain rfl : k = L.length := by omega
      have hall : ∀ x ∈ L, nameOk x = true := by
        have := HN.out
        rw [List.take_length] at this
        exact this
      rw [List.take_length]
      have hps := pjoin_size L
      have htl := tot_le L fun x hx => (nameOk_size (hall x hx)).2
      have hjl : (join (L.map (·.data.toList)) [47]).length ≤ 281474976710656 := by
        have h1 : (pjoin L).size = (join (L.map (·.data.toList)) [47]).length + 1 := by unfold pjoin; rw [mkB_size, List.length_cons]
        have h2 : (pjoin L).size ≤ 17 * L.length + 1 := by rw [hps]; split <;> omega
        omega
      have hpj := path_join s c L w1 hL1 hc (by omega) hjl
      have HSplit : Hid (∀ w2, Below w1.heap.size w1 w2 → Calls Tryd.prog 8 #[.string (pjoin L)] w2 (SplitAns w2 (pjoin L))) := fun w2 h => path_split _ w2 (by rw [hps]; unfold maxLen; split <;> omega) (HM.out _ (blw HB1.out h))
      have HAll := Lib.hid hall
      clear HN hjl
      by_cases hbig : 8 < L.length ∨ 64 < tot L
      · have HX : Hid (psplit (pjoin L) = none) := Lib.hid (psplit_big hall (by
          rcases hbig with h | h
          · exact .inl h
          · right; rw [hps]; split
            · rename_i h0; subst h0; simp [tot] at h
            · exact h))
        clear hall hps
        generalize tot L = t at *
        generalize pjoin L = s1 at *
        by_cases h8 : 8 < L.length
        · have d8 : decide ((8 : Int) < (L.length : Int)) = true := decide_eq_true (by omega)
          clear hbig
          go_wp2_with fail
          refine hpj.mono ?_
          rintro e w2 ⟨rfl, hB2⟩
          go_wp2_with fail
          refine (HSplit.out _ hB2).mono ?_
          intro e w3 hr
          obtain ⟨rfl, hB3⟩ := splitAns_none HX.out hr
          clear hr
          go_wp2_with fail
          go_ret
          exact ⟨rfl, blw (blw HB1.out hB2) hB3⟩
        · have d8 : decide ((8 : Int) < (L.length : Int)) = false := decide_eq_false (by omega)
          have d64 : decide ((64 : Int) < (t : Int)) = true := decide_eq_true (by omega)
          clear hbig
          go_wp2_with fail
          refine hpj.mono ?_
          rintro e w2 ⟨rfl, hB2⟩
          go_wp2_with fail
          refine (HSplit.out _ hB2).mono ?_
          intro e w3 hr
          obtain ⟨rfl, hB3⟩ := splitAns_none HX.out hr
          clear hr
          go_wp2_with fail
          go_ret
          exact ⟨rfl, blw (blw HB1.out hB2) hB3⟩
      · have HX : Hid (psplit (pjoin L) = some L) := Lib.hid (psplit_pjoin ⟨by omega, hall, by rw [hps]; split <;> omega⟩)
        clear hall hps
        have d8 : decide ((8 : Int) < (L.length : Int)) = false := decide_eq_false (by omega)
        generalize tot L = t at *
        generalize pjoin L = s1 at *
        have d64 : decide ((64 : Int) < (t : Int)) = false := decide_eq_false (by omega)
        have h8 : L.length ≤ 8 := by omega
        clear hbig
        go_wp2_with fail
        refine hpj.mono ?_
        rintro e w2 ⟨rfl, hB2⟩
        go_wp2_with fail
        refine (HSplit.out _ hB2).mono ?_
        intro e w3 hr
        obtain ⟨a1, c1, rfl, hc1, hS1, hB3⟩ := splitAns_some HX.out hr
        clear hr
        have hS2 := hL1.below (blw hB2 hB3)
        have HB3 := Lib.hid (blw (blw HB1.out hB2) hB3)
        clear hB2 hB3
        go_wp2
        go_loopw [8] (fun i wr => ∃ (j : Nat), j ≤ L.length ∧ i = .int .i64 (j : Int) ∧ Hid (Below w3.heap.size w3 wr)) (fun i _ => L.length - (intOf i).toNat)
        case atStart => exact ⟨0, by omega, rfl, Lib.hid (Below.refl _ _)⟩
        case round =>
          obtain ⟨j, hj, rfl, HW⟩ := hrel
          by_cases hjl : j < L.length
          · obtain ⟨b1, o1, rfl, cell1, hbl1⟩ := (hS1.below HW.out).at_ hjl
            obtain ⟨b2, o2, rfl, cell2, hbl2⟩ := (hS2.below HW.out).at_ hjl
            have hji : (j : Int) < (L.length : Int) := by omega
            have hj0 : (0 : Int) ≤ (j : Int) := by omega
            generalize L.getD j default = x at cell1 cell2
            have e1 : (x.toList == x.toList) = true := by simp
            go_wp2
            go_quiet (fail)
            go_wp2
            exact ⟨⟨j + 1, by omega, by go_num, Lib.hid (below_drewN' HW.out _)⟩, by simp [intOf]; omega⟩
          · have hjl2 : decide ((j : Int) < (L.length : Int)) = false := decide_eq_false (by omega)
            go_wp2
            go_ret
            exact ⟨rfl, blw HB3.out HW.out⟩
end Go.Proofs.YtkpfppbpcdjhcaaDoor
