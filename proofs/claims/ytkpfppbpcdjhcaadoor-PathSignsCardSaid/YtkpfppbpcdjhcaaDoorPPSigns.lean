/- The walk of PathSigns. -/
import Derived.Test.YtkpfppbpcdjhcaaDoorAwake11
import Derived.Laws.IdiomStrings
import Derived.Laws.MakeOwn

import Derived.Deep.Cut
namespace Go.Proofs.YtkpfppbpcdjhcaaDoor
open Go.RowKit Go.Lib

def cellsU (l : List UInt8) : List Value := l.map fun x => .int .u8 (x.toNat : Int)
theorem cellsU_get {l : List UInt8} {j : Nat} (hj : j < l.length) : (cellsU l)[j]? = some (.int .u8 (l[j].toNat : Int)) := by
  simp [cellsU, hj]
theorem cellsU_set (l : List UInt8) (j : Nat) (x : UInt8) : (cellsU l).set j (.int .u8 (x.toNat : Int)) = cellsU (l.set j x) := by
  simp [cellsU, List.map_set]
theorem info_u8 : (Tryd.prog.info? 5).map (fun i => (i.zero, i.size, i.bytes)) = some (some (.int .u8 0), 1, 1) := by kernel_rfl
theorem made_u8 (k : Nat) : (madeCells (Value.int .u8 0).cells (k * 1)).toList = cellsU (List.replicate k 0) := by
  apply List.ext_getElem?
  intro i
  simp [madeCells, cellsU, Value.cells, Nat.mod_one, List.getElem?_replicate]
  split <;> simp_all
theorem conv_own {w : World} {base B k : Nat} {l : List UInt8} (h : w.ownsRow base 5 1 (.slice (some ⟨B, 0, none⟩) k k) k (cellsU l)) (hl : l.length = k) :
    (convert 34 9 (.slice (some ⟨B, 0, none⟩) k k)).run Tryd.prog w = .ok (.string (mkB l)) w := by
  subst hl
  exact run_convert_bytes_back (P := Tryd.prog) w 34 9 5 ⟨B, 0, none⟩ l.length l Tryd.underlying34 Tryd.underlying5 Tryd.underlying9 (fun j hj => by
    have h1 := (own_cell h (cellsU_get hj)).1
    have e : (⟨B, 0, none⟩ : Addr).add j = ⟨B, j, none⟩ := by unfold Addr.add; split <;> simp_all
    rw [e]; exact h1)
theorem own_below {w w' : World} {base B k : Nat} {xs : List Value} (h : w.ownsRow base 5 1 (.slice (some ⟨B, 0, none⟩) k k) k xs) (hb : Below w.heap.size w w') : w'.ownsRow base 5 1 (.slice (some ⟨B, 0, none⟩) k k) k xs := by
  refine ⟨h.1, ?_⟩
  rcases h.2 with ⟨hv, hn⟩ | ⟨g, cap, cur, hv, hbg, hg, r⟩
  · exact .inl ⟨hv, hn⟩
  · refine .inr ⟨g, cap, cur, hv, hbg, ?_, r⟩
    rw [hb.block g (Array.getElem?_eq_some_iff.1 hg).1]
    exact hg

/-- A row of 'a's, one of them put in another's place. -/
structure Sig (l : List UInt8) (k : Nat) (c : UInt8) : Prop where
  len : l.length = k
  one : 0 < k → c ∈ l
  all : ∀ x ∈ l, x = 97 ∨ x = c
theorem sig_set {k j : Nat} (hj : j < k) (c : UInt8) : Sig ((List.replicate k 97).set j c) k c :=
  ⟨by simp, fun _ => List.mem_set (by simpa using hj) c, fun x hx => by
    rcases List.mem_or_eq_of_mem_set hx with h | h
    · left; exact (List.mem_replicate.1 h).2
    · right; exact h⟩
theorem sig_zero (c : UInt8) : Sig [] 0 c := ⟨rfl, by simp, by simp⟩
theorem sig_all {l : List UInt8} {k : Nat} {c : UInt8} (h : Sig l k c) (h0 : 0 < k) : l.all nameByte = nameByte c := by
  cases hc : nameByte c
  · rw [List.all_eq_false]; exact ⟨c, h.one h0, by simp [hc]⟩
  · rw [List.all_eq_true]
    intro x hx
    rcases h.all x hx with e | e
    · rw [e]; decide
    · rw [e]; exact hc
/-- The ways through the last test. -/
theorem sig_ways {l : List UInt8} {k : Nat} {c : UInt8} (h : Sig l k c) (hk : k < 20) :
    (k = 0 ∧ ((c.toNat : Int) == 47) = true ∨ k = 0 ∧ ((c.toNat : Int) == 47) = false) ∧ nameOk (mkB l) = false ∧ psplit (mkB (47 :: l)) = some [] ∨
    0 < k ∧ ((c.toNat : Int) == 47) = true ∧ nameOk (mkB l) = false ∧ (decide ((k : Int) ≤ 16) = false ∨ decide ((k : Int) ≤ 16) = true ∧ decide ((33 : Int) ≤ (c.toNat : Int)) = true ∧ decide ((c.toNat : Int) ≤ 126) = true) ∨
    0 < k ∧ ((c.toNat : Int) == 47) = false ∧ nameOk (mkB l) = false ∧ psplit (mkB (47 :: l)) = none ∧ (decide ((k : Int) ≤ 16) = false ∨ decide ((k : Int) ≤ 16) = true ∧ (decide ((33 : Int) ≤ (c.toNat : Int)) = false ∨ decide ((33 : Int) ≤ (c.toNat : Int)) = true ∧ (decide ((c.toNat : Int) ≤ 126) = false ∨ decide ((c.toNat : Int) ≤ 126) = true ∧ ((l == [46]) = true ∨ (l == [46]) = false ∧ (l == [46, 46]) = true)))) ∨
    0 < k ∧ ((c.toNat : Int) == 47) = false ∧ nameOk (mkB l) = true ∧ psplit (mkB (47 :: l)) = some [mkB l] ∧ decide ((k : Int) ≤ 16) = true ∧ decide ((33 : Int) ≤ (c.toNat : Int)) = true ∧ decide ((c.toNat : Int) ≤ 126) = true ∧ (l == [46]) = false ∧ (l == [46, 46]) = false := by
  by_cases h0 : k = 0
  · left
    subst h0
    obtain rfl : l = [] := List.eq_nil_of_length_eq_zero h.len
    refine ⟨?_, by rw [nameOk_mk]; decide, split_root⟩
    cases hc : ((c.toNat : Int) == 47)
    · right; exact ⟨rfl, rfl⟩
    · left; exact ⟨rfl, rfl⟩
  · right
    have h0' : 0 < k := by omega
    have hN : nameOk (mkB l) = (decide (k ≤ 16) && !(l == [46]) && !(l == [46, 46]) && nameByte c) := by
      rw [nameOk_mk]
      unfold nameOkL
      rw [sig_all h h0', h.len]
      have : decide (1 ≤ k) = true := by simp; omega
      rw [this, Bool.true_and]
    have hB : nameByte c = (decide ((33 : Int) ≤ (c.toNat : Int)) && decide ((c.toNat : Int) ≤ 126) && !((c.toNat : Int) == 47)) := by
      unfold nameByte
      have e1 : decide (33 ≤ c.toNat) = decide ((33 : Int) ≤ (c.toNat : Int)) := by rw [decide_eq_decide]; omega
      have e2 : decide (c.toNat ≤ 126) = decide ((c.toNat : Int) ≤ 126) := by rw [decide_eq_decide]; omega
      have e3 : decide (c.toNat ≠ 47) = !((c.toNat : Int) == 47) := by
        rw [Bool.eq_iff_iff]; simp; omega
      rw [e1, e2, e3]
    have e0 : decide (k ≤ 16) = decide ((k : Int) ≤ 16) := by rw [decide_eq_decide]; omega
    rw [hB, e0] at hN
    by_cases h47 : c = 47
    · left
      have h1 : ((c.toNat : Int) == 47) = true := by rw [h47]; decide
      have h2 : decide ((33 : Int) ≤ (c.toNat : Int)) = true := by rw [h47]; decide
      have h3 : decide ((c.toNat : Int) ≤ 126) = true := by rw [h47]; decide
      refine ⟨h0', h1, by rw [hN, h1]; simp, ?_⟩
      cases decide ((k : Int) ≤ 16)
      · left; rfl
      · right; exact ⟨rfl, h2, h3⟩
    · right
      have h1 : ((c.toNat : Int) == 47) = false := by
        rw [beq_eq_false_iff_ne]; intro e; apply h47; apply UInt8.toNat_inj.1; exact_mod_cast e
      have hn47 : (47 : UInt8) ∉ l := by
        intro hm
        rcases h.all _ hm with e | e
        · exact absurd e (by decide)
        · exact h47 e.symm
      have hsp : psplit (mkB (47 :: l)) = if nameOk (mkB l) then some [mkB l] else none := by
        have ex : (mkB (47 :: l)).extract 1 (mkB (47 :: l)).size = mkB l := by
          apply bytes_ext; rw [extract_tail, mkB_toList, mkB_toList]; rfl
        have hp : partsOf (mkB l) = [mkB l] := by
          unfold partsOf; rw [mkB_toList, pieces_plain hn47]; rfl
        have hne : ((mkB (47 :: l)).toList == [47]) = false := by
          rw [beq_eq_false_iff_ne]; intro e
          rw [mkB_list] at e
          have e2 : l = [] := (List.cons.inj e).2
          have e3 := h.len
          rw [e2] at e3; simp at e3; omega
        have hs : decide (64 < (mkB (47 :: l)).size) = false := by
          rw [mkB_size, List.length_cons, h.len]; simp; omega
        have hpf : hasPrefix (mkB (47 :: l)).data.toList [47] = true := by rw [hasPrefix_one, mkB_toList]; rfl
        unfold psplit
        rw [hne, hs, hpf, ex, hp]
        simp only [List.any_cons, List.any_nil, List.length_singleton]
        by_cases hN2 : nameOk (mkB l) = true
        · simp [hN2]
        · simp [hN2]
      rw [hsp]
      rw [h1] at hN ⊢
      generalize nameOk (mkB l) = N at *
      generalize decide ((k : Int) ≤ 16) = b1 at *
      generalize decide ((33 : Int) ≤ (c.toNat : Int)) = b2 at *
      generalize decide ((c.toNat : Int) ≤ 126) = b3 at *
      generalize (l == [46]) = b4 at *
      generalize (l == [46, 46]) = b5 at *
      subst hN
      cases b1 <;> cases b2 <;> cases b3 <;> cases b4 <;> cases b5 <;> simp [h0']

def SplitAny (w : World) (e : Ending) (w' : World) : Prop := Below w.heap.size w w' ∧ ∃ a n c x, e = .returned (.tuple #[.slice a n c, .int .i64 x])
theorem splitAns_any {w : World} {s : ByteArray} {e : Ending} {w' : World} (hr : SplitAns w s e w') : SplitAny w e w' := by
  cases hp : psplit s with
  | none => obtain ⟨rfl, hb⟩ := splitAns_none hp hr; exact ⟨hb, _, _, _, _, rfl⟩
  | some L => obtain ⟨a, c, rfl, _, _, hb⟩ := splitAns_some hp hr; exact ⟨hb, _, _, _, _, rfl⟩

set_option maxRecDepth 100000 in
set_option maxHeartbeats 4000000 in
theorem pathSigns_walk (n a c : Int) (w : World) (hn0 : 0 ≤ n) (hn1 : n ≤ 255) (ha0 : 0 ≤ a) (ha1 : a ≤ 255) (hc0 : 0 ≤ c) (hc1 : c ≤ 255) (hm : MLen w) :
    Calls Tryd.prog 6 #[.int .u8 n, .int .u8 a, .int .u8 c] w fun e w' => e = .returned (.bool true) ∧ Below w.heap.size w w' := by
  have HA := Lib.hid (awake11 w hm)
  have HM : Hid (∀ w1, Below w.heap.size w w1 → MLen w1) := fun w1 h => hm.below h
  clear hm
  obtain ⟨cc, rfl⟩ : ∃ cc : UInt8, c = (cc.toNat : Int) := ⟨UInt8.ofNat c.toNat, by rw [UInt8.toNat_ofNat']; omega⟩
  obtain ⟨i0, hi, hz0, hz1, hz2⟩ := info_parts info_u8
  go_enter Tryd.func6, Tryd.ntmps6
  go_wp2_with fail
  refine HA.out.mono ?_
  rintro e w1 ⟨rfl, hB1⟩
  have HB1 := Lib.hid hB1
  clear hB1
  have hle1 := HB1.out.size
  go_upto_region 4 with (fail)
  have hk0 : 0 ≤ n % 20 := by omega
  have hk20' : n % 20 < 20 := by omega
  generalize n % 20 = kk at *
  obtain ⟨k, rfl⟩ := Int.eq_ofNat_of_zero_le hk0
  have hk20 : k < 20 := by omega
  clear hk0 hk20'
  go_wp2_with (refine wpList_make_full _ rfl (.tmp 18) (.tmp 18) 34 rfl w.heap.size 5 i0 _ 1 Tryd.underlying34 hi hz0 hz1 .i64 .i64 _ _ k rfl rfl rfl rfl (by rw [hz2]; omega) (by unfold maxLen; omega) hle1 ?_; intro w2 hown hgr; rw [made_u8] at hown; have HO := Lib.hid hown; have HB2 := Lib.hid (HB1.out.grown hgr hle1 (by intro j hj; cases hj)); clear hown hgr)
  generalize w1.heap.size = B at *
  clear hle1
  go_loopw [9] (fun i wr => ∃ j : Nat, j ≤ k ∧ i = .int .i64 (j : Int) ∧ Hid (wr.ownsRow w.heap.size 5 1 (.slice (some ⟨B, 0, none⟩) k k) k (cellsU (List.replicate j 97 ++ List.replicate (k - j) 0))) ∧ Hid (Below w.heap.size w wr)) (fun i _ => k - (intOf i).toNat)
  case atStart => exact ⟨0, by omega, rfl, by simpa using HO, HB2⟩
  case round =>
    obtain ⟨j, hj, rfl, HO, HC⟩ := hrel
    by_cases hjk : j < k
    · have hx : (cellsU (List.replicate j 97 ++ List.replicate (k - j) 0))[j]? = some (.int .u8 0) := by
        have h1 : j < (List.replicate j (97 : UInt8) ++ List.replicate (k - j) 0).length := by simp; omega
        rw [cellsU_get h1]
        have h2 : (List.replicate j (97 : UInt8) ++ List.replicate (k - j) 0)[j] = 0 := by
          rw [List.getElem_append_right (by simp)]; simp
        rw [h2]; rfl
      obtain ⟨cell, frz, hbg, hgl⟩ := own_cell HO.out hx
      have HO2 := Lib.hid (own_set HO.out (k := j) (.int .u8 97))
      have hset : Hid ((cellsU (List.replicate j 97 ++ List.replicate (k - j) 0)).set j (.int .u8 97) = cellsU (List.replicate (j + 1) 97 ++ List.replicate (k - (j + 1)) 0)) := by
        show (cellsU (List.replicate j 97 ++ List.replicate (k - j) 0)).set j (.int .u8 (((97 : UInt8).toNat : Nat) : Int)) = _
        rw [cellsU_set]
        congr 1
        have h3 : k - j = (k - (j + 1)) + 1 := by omega
        rw [List.set_append_right _ _ (by simp)]
        rw [h3, List.replicate_succ]
        simp [List.replicate_succ']
      have hji : (j : Int) < (k : Int) := by omega
      have hj0 : (0 : Int) ≤ (j : Int) := by omega
      clear hx
      go_wp2
      refine ⟨⟨j + 1, by omega, by go_num, ?_, Lib.hid (HC.out.setCell (p := ⟨B, j, none⟩) (by show w.heap.size ≤ B; exact hbg) _)⟩, by simp [intOf]; omega⟩
      rw [← hset.out]
      exact HO2
    · obtain rfl : j = k := by omega
      rw [Nat.sub_self, List.replicate_zero, List.append_nil] at HO
      obtain ⟨W, rfl⟩ : ∃ x, x = wr := ⟨wr, rfl⟩
      by_cases h0 : j = 0
      · have hsig : Sig (List.replicate j 97) j cc := by subst h0; exact sig_zero cc
        have d0 : decide ((0 : Int) < (j : Int)) = false := decide_eq_false (by omega)
        have H0 := Lib.hid (show ¬ 0 < j by omega)
        clear h0
        go_upto_region 11 with (fail)
        obtain ⟨k, rfl⟩ : ∃ k : Nat, k = j := ⟨j, rfl⟩
        generalize List.replicate k (97 : UInt8) = l at *
        have hsl := hsig.len
        have hconv := conv_own HO.out hsl
        have HO2 : Hid (∀ w4, Below W.heap.size W w4 → (convert 34 9 (.slice (some ⟨B, 0, none⟩) k k)).run Tryd.prog w4 = .ok (.string (mkB l)) w4) := fun w4 h => conv_own (own_below HO.out h) hsl
        have hways := sig_ways hsig hk20
        have hb1 : ((mkB l).toList == [46]) = (l == [46]) := by rw [mkB_list]
        have hb2 : ((mkB l).toList == [46, 46]) = (l == [46, 46]) := by rw [mkB_list]
        rw [← hb1, ← hb2] at hways
        have hcat : (⟨#[47]⟩ : ByteArray) ++ mkB l = mkB (47 :: l) := by apply bytes_ext; simp
        have hsz : (mkB l).size ≤ 20 := by rw [mkB_size]; omega
        have hsz1 : (mkB (47 :: l)).size ≤ maxLen := by rw [mkB_size, List.length_cons]; unfold maxLen; omega
        generalize mkB l = s at *
        generalize mkB (47 :: l) = s1 at *
        have HSp : Hid (Calls Tryd.prog 8 #[.string s1] W (SplitAns W s1)) := path_split s1 W hsz1 (HM.out _ HC.out)
        have HNm : Hid (∀ w4, Calls Tryd.prog 10 #[.string s] w4 fun e w' => e = .returned (.bool (nameOk s)) ∧ ∃ n, w' = w4.drewN n) := fun w4 => name_any s (by unfold maxLen; omega) w4
        have hlen : ¬ 9223372036854775807 < 1 + s.size := by omega
        clear hsig hsl hb1 hb2 HO hsz1
        rcases hways with ⟨⟨hz, h47⟩ | ⟨hz, h47⟩, hn, hp⟩ | ⟨hz, _⟩ | ⟨hz, _⟩ | ⟨hz, _⟩
        · subst hz
          have HX := Lib.hid hp; clear hp
          have h47n : ((cc.toNat : Int) != 47) = !((cc.toNat : Int) == 47) := rfl
          rw [h47] at h47n
          have HNr := Lib.hid hn
          clear hn
          go_wp2_with fail
          refine HSp.out.mono ?_
          intro e w4 hr
          obtain ⟨a1, c1, rfl, _, _, hb4⟩ := splitAns_some HX.out hr
          clear hr
          have hconv4 := HO2.out w4 hb4
          go_wp2_with fail
          refine (HNm.out _).mono ?_
          rintro e w5 ⟨rfl, n5, rfl⟩
          rw [HNr.out]
          go_wp2_with fail
          go_ret
          exact ⟨rfl, below_drewN' (HC.out.trans (hb4.mono HC.out.size)) _⟩
        · subst hz
          have HX := Lib.hid hp; clear hp
          have h47n : ((cc.toNat : Int) != 47) = !((cc.toNat : Int) == 47) := rfl
          rw [h47] at h47n
          have HNr := Lib.hid hn
          clear hn
          go_wp2_with fail
          refine HSp.out.mono ?_
          intro e w4 hr
          obtain ⟨a1, c1, rfl, _, _, hb4⟩ := splitAns_some HX.out hr
          clear hr
          have hconv4 := HO2.out w4 hb4
          go_wp2_with fail
          refine (HNm.out _).mono ?_
          rintro e w5 ⟨rfl, n5, rfl⟩
          rw [HNr.out]
          go_wp2_with fail
          go_ret
          exact ⟨rfl, below_drewN' (HC.out.trans (hb4.mono HC.out.size)) _⟩
        · exact absurd hz H0.out
        · exact absurd hz H0.out
        · exact absurd hz H0.out
      · have d0 : decide ((0 : Int) < (j : Int)) = true := decide_eq_true (by omega)
        have d1 : ((j : Int) == 0) = false := by rw [beq_eq_false_iff_ne]; omega
        have hjp : (0 : Int) < (j : Int) := by omega
        have H0 := Lib.hid h0
        have e1 : 0 ≤ a % (j : Int) := Int.emod_nonneg _ (by omega)
        have e2 : a % (j : Int) < (j : Int) := Int.emod_lt_of_pos _ (by omega)
        have hq : (a % (j : Int)).toNat < j := by omega
        have hx : (cellsU (List.replicate j 97))[(a % (j : Int)).toNat]? = some (.int .u8 97) := by
          rw [cellsU_get (by simpa using hq)]; simp
        obtain ⟨cell, frz, hbg, hgl⟩ := own_cell HO.out hx
        have HO2 := Lib.hid (own_set HO.out (k := (a % (j : Int)).toNat) (.int .u8 (cc.toNat : Int)))
        have HC2 := Lib.hid (HC.out.setCell (p := ⟨B, (a % (j : Int)).toNat, none⟩) (by show w.heap.size ≤ B; exact hbg) (.int .u8 (cc.toNat : Int)))
        have hsig := sig_set hq cc
        rw [cellsU_set] at HO2
        clear hx h0 HO HC hq
        go_upto_region 11 with (fail)
        obtain ⟨k, rfl⟩ : ∃ k : Nat, k = j := ⟨j, rfl⟩
        generalize W.setCell ⟨B, (a % (k : Int)).toNat, none⟩ (.int .u8 (cc.toNat : Int)) = W2 at *
        have HO := HO2
        have HC := HC2
        clear HO2 HC2 cell frz hgl
        obtain ⟨W, rfl⟩ : ∃ x, x = W2 := ⟨W2, rfl⟩
        generalize (List.replicate k (97 : UInt8)).set (a % (k : Int)).toNat cc = l at *
        have hsl := hsig.len
        have hconv := conv_own HO.out hsl
        have HO2 : Hid (∀ w4, Below W.heap.size W w4 → (convert 34 9 (.slice (some ⟨B, 0, none⟩) k k)).run Tryd.prog w4 = .ok (.string (mkB l)) w4) := fun w4 h => conv_own (own_below HO.out h) hsl
        have hways := sig_ways hsig hk20
        have hb1 : ((mkB l).toList == [46]) = (l == [46]) := by rw [mkB_list]
        have hb2 : ((mkB l).toList == [46, 46]) = (l == [46, 46]) := by rw [mkB_list]
        rw [← hb1, ← hb2] at hways
        have hcat : (⟨#[47]⟩ : ByteArray) ++ mkB l = mkB (47 :: l) := by apply bytes_ext; simp
        have hsz : (mkB l).size ≤ 20 := by rw [mkB_size]; omega
        have hsz1 : (mkB (47 :: l)).size ≤ maxLen := by rw [mkB_size, List.length_cons]; unfold maxLen; omega
        generalize mkB l = s at *
        generalize mkB (47 :: l) = s1 at *
        have HSp : Hid (Calls Tryd.prog 8 #[.string s1] W (SplitAns W s1)) := path_split s1 W hsz1 (HM.out _ HC.out)
        have HNm : Hid (∀ w4, Calls Tryd.prog 10 #[.string s] w4 fun e w' => e = .returned (.bool (nameOk s)) ∧ ∃ n, w' = w4.drewN n) := fun w4 => name_any s (by unfold maxLen; omega) w4
        have hlen : ¬ 9223372036854775807 < 1 + s.size := by omega
        clear hsig hsl hb1 hb2 HO hsz1
        rcases hways with ⟨⟨hz, h47⟩ | ⟨hz, h47⟩, hn, hp⟩ | ⟨hz, h47, hn, h16 | ⟨h16, h33, h126⟩⟩ | ⟨hz, h47, hn, hp, h16 | ⟨h16, h33 | ⟨h33, h126 | ⟨h126, hd | ⟨hd, hdd⟩⟩⟩⟩⟩ | ⟨hz, h47, hn, hp, h16, h33, h126, hd, hdd⟩
        · exact absurd hz H0.out
        · exact absurd hz H0.out
        · have hq1 : decide ((0 : Int) < (k : Int)) = true := decide_eq_true (by omega)
          have hq2 : ((k : Int) == 0) = false := by rw [beq_eq_false_iff_ne]; omega
          have h47n : ((cc.toNat : Int) != 47) = !((cc.toNat : Int) == 47) := rfl
          rw [h47] at h47n
          have HNr := Lib.hid hn
          clear hn
          go_wp2_with fail
          refine HSp.out.mono ?_
          intro e w4 hr
          obtain ⟨hb4, a1, n1, c1, x1, rfl⟩ := splitAns_any hr
          clear hr
          have hconv4 := HO2.out w4 hb4
          go_wp2_with fail
          refine (HNm.out _).mono ?_
          rintro e w5 ⟨rfl, n5, rfl⟩
          rw [HNr.out]
          go_wp2_with fail
          go_ret
          exact ⟨rfl, below_drewN' (HC.out.trans (hb4.mono HC.out.size)) _⟩
        · have hq1 : decide ((0 : Int) < (k : Int)) = true := decide_eq_true (by omega)
          have hq2 : ((k : Int) == 0) = false := by rw [beq_eq_false_iff_ne]; omega
          have h47n : ((cc.toNat : Int) != 47) = !((cc.toNat : Int) == 47) := rfl
          rw [h47] at h47n
          have HNr := Lib.hid hn
          clear hn
          go_wp2_with fail
          refine HSp.out.mono ?_
          intro e w4 hr
          obtain ⟨hb4, a1, n1, c1, x1, rfl⟩ := splitAns_any hr
          clear hr
          have hconv4 := HO2.out w4 hb4
          go_wp2_with fail
          refine (HNm.out _).mono ?_
          rintro e w5 ⟨rfl, n5, rfl⟩
          rw [HNr.out]
          go_wp2_with fail
          go_ret
          exact ⟨rfl, below_drewN' (HC.out.trans (hb4.mono HC.out.size)) _⟩
        · have hq1 : decide ((0 : Int) < (k : Int)) = true := decide_eq_true (by omega)
          have hq2 : ((k : Int) == 0) = false := by rw [beq_eq_false_iff_ne]; omega
          have h47n : ((cc.toNat : Int) != 47) = !((cc.toNat : Int) == 47) := rfl
          rw [h47] at h47n
          have HX := Lib.hid hp; clear hp
          have HNr := Lib.hid hn
          clear hn
          go_wp2_with fail
          refine HSp.out.mono ?_
          intro e w4 hr
          obtain ⟨rfl, hb4⟩ := splitAns_none HX.out hr
          clear hr
          have hconv4 := HO2.out w4 hb4
          go_wp2_with fail
          refine (HNm.out _).mono ?_
          rintro e w5 ⟨rfl, n5, rfl⟩
          rw [HNr.out]
          go_wp2_with fail
          go_ret
          exact ⟨rfl, below_drewN' (HC.out.trans (hb4.mono HC.out.size)) _⟩
        · have hq1 : decide ((0 : Int) < (k : Int)) = true := decide_eq_true (by omega)
          have hq2 : ((k : Int) == 0) = false := by rw [beq_eq_false_iff_ne]; omega
          have h47n : ((cc.toNat : Int) != 47) = !((cc.toNat : Int) == 47) := rfl
          rw [h47] at h47n
          have HX := Lib.hid hp; clear hp
          have HNr := Lib.hid hn
          clear hn
          go_wp2_with fail
          refine HSp.out.mono ?_
          intro e w4 hr
          obtain ⟨rfl, hb4⟩ := splitAns_none HX.out hr
          clear hr
          have hconv4 := HO2.out w4 hb4
          go_wp2_with fail
          refine (HNm.out _).mono ?_
          rintro e w5 ⟨rfl, n5, rfl⟩
          rw [HNr.out]
          go_wp2_with fail
          go_ret
          exact ⟨rfl, below_drewN' (HC.out.trans (hb4.mono HC.out.size)) _⟩
        · have hq1 : decide ((0 : Int) < (k : Int)) = true := decide_eq_true (by omega)
          have hq2 : ((k : Int) == 0) = false := by rw [beq_eq_false_iff_ne]; omega
          have h47n : ((cc.toNat : Int) != 47) = !((cc.toNat : Int) == 47) := rfl
          rw [h47] at h47n
          have HX := Lib.hid hp; clear hp
          have HNr := Lib.hid hn
          clear hn
          go_wp2_with fail
          refine HSp.out.mono ?_
          intro e w4 hr
          obtain ⟨rfl, hb4⟩ := splitAns_none HX.out hr
          clear hr
          have hconv4 := HO2.out w4 hb4
          go_wp2_with fail
          refine (HNm.out _).mono ?_
          rintro e w5 ⟨rfl, n5, rfl⟩
          rw [HNr.out]
          go_wp2_with fail
          go_ret
          exact ⟨rfl, below_drewN' (HC.out.trans (hb4.mono HC.out.size)) _⟩
        · have hq1 : decide ((0 : Int) < (k : Int)) = true := decide_eq_true (by omega)
          have hq2 : ((k : Int) == 0) = false := by rw [beq_eq_false_iff_ne]; omega
          have h47n : ((cc.toNat : Int) != 47) = !((cc.toNat : Int) == 47) := rfl
          rw [h47] at h47n
          have HX := Lib.hid hp; clear hp
          have HNr := Lib.hid hn
          clear hn
          go_wp2_with fail
          refine HSp.out.mono ?_
          intro e w4 hr
          obtain ⟨rfl, hb4⟩ := splitAns_none HX.out hr
          clear hr
          have hconv4 := HO2.out w4 hb4
          go_wp2_with fail
          refine (HNm.out _).mono ?_
          rintro e w5 ⟨rfl, n5, rfl⟩
          rw [HNr.out]
          go_wp2_with fail
          go_ret
          exact ⟨rfl, below_drewN' (HC.out.trans (hb4.mono HC.out.size)) _⟩
        · have hq1 : decide ((0 : Int) < (k : Int)) = true := decide_eq_true (by omega)
          have hq2 : ((k : Int) == 0) = false := by rw [beq_eq_false_iff_ne]; omega
          have h47n : ((cc.toNat : Int) != 47) = !((cc.toNat : Int) == 47) := rfl
          rw [h47] at h47n
          have HX := Lib.hid hp; clear hp
          have HNr := Lib.hid hn
          clear hn
          go_wp2_with fail
          refine HSp.out.mono ?_
          intro e w4 hr
          obtain ⟨rfl, hb4⟩ := splitAns_none HX.out hr
          clear hr
          have hconv4 := HO2.out w4 hb4
          go_wp2_with fail
          refine (HNm.out _).mono ?_
          rintro e w5 ⟨rfl, n5, rfl⟩
          rw [HNr.out]
          go_wp2_with fail
          go_ret
          exact ⟨rfl, below_drewN' (HC.out.trans (hb4.mono HC.out.size)) _⟩
        · have hq1 : decide ((0 : Int) < (k : Int)) = true := decide_eq_true (by omega)
          have hq2 : ((k : Int) == 0) = false := by rw [beq_eq_false_iff_ne]; omega
          have h47n : ((cc.toNat : Int) != 47) = !((cc.toNat : Int) == 47) := rfl
          rw [h47] at h47n
          have HX := Lib.hid hp; clear hp
          have HNr := Lib.hid hn
          clear hn
          go_wp2_with fail
          refine HSp.out.mono ?_
          intro e w4 hr
          obtain ⟨a1, c1, rfl, _, _, hb4⟩ := splitAns_some HX.out hr
          clear hr
          have hconv4 := HO2.out w4 hb4
          go_wp2_with fail
          refine (HNm.out _).mono ?_
          rintro e w5 ⟨rfl, n5, rfl⟩
          rw [HNr.out]
          go_wp2_with fail
          go_ret
          exact ⟨rfl, below_drewN' (HC.out.trans (hb4.mono HC.out.size)) _⟩
end Go.Proofs.YtkpfppbpcdjhcaaDoor
