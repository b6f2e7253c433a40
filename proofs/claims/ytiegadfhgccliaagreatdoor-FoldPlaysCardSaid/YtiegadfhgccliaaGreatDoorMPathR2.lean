/- Walks of the document: parent, ahead. -/
import Derived.Test.YtiegadfhgccliaaGreatDoorMFoldM
import Derived.Deep.QuietTactic
import Derived.BigQuiet
import Derived.Shelf.GgClosure.Gives
namespace Go.Proofs.YtiegadfhgccliaaGreatDoor
open Go.RowKit Go.Lib

def RSplitOk (w : World) (L : List ByteArray) (e : Ending) (w' : World) : Prop := ∃ a c, e = .returned (.tuple #[.slice a L.length c, .int .i64 0]) ∧ L.length ≤ c ∧ SlS w' a L ∧ Below w.heap.size w w'
/-- What the document's Split answers: the same as the program's. -/
def RSplitAns (w : World) (s : ByteArray) (e : Ending) (w' : World) : Prop := match psplit s with
  | some L => RSplitOk w L e w'
  | none => e = .returned (.tuple #[.slice none 0 0, .int .i64 3]) ∧ Below w.heap.size w w'
theorem rsplitAns_no {w : World} {s : ByteArray} (h : psplit s = none) {w' : World} (hb : Below w.heap.size w w') : RSplitAns w s (.returned (.tuple #[.slice none 0 0, .int .i64 3])) w' := by
  unfold RSplitAns; rw [h]; exact ⟨rfl, hb⟩
theorem rsplitAns_ok {w : World} {s : ByteArray} {L : List ByteArray} (h : psplit s = some L) {w' : World} {a : Option Addr} {c : Nat} (hc : L.length ≤ c) (hs : SlS w' a L) (hb : Below w.heap.size w w') : RSplitAns w s (.returned (.tuple #[.slice a L.length c, .int .i64 0])) w' := by
  unfold RSplitAns; rw [h]; exact ⟨a, c, rfl, hc, hs, hb⟩
theorem rsplitAns_some {w : World} {s : ByteArray} {L : List ByteArray} (h : psplit s = some L) {e : Ending} {w' : World} (hr : RSplitAns w s e w') : ∃ a c, e = .returned (.tuple #[.slice a L.length c, .int .i64 0]) ∧ L.length ≤ c ∧ SlS w' a L ∧ Below w.heap.size w w' := by
  unfold RSplitAns at hr; rw [h] at hr; exact hr
theorem rsplitAns_none {w : World} {s : ByteArray} (h : psplit s = none) {e : Ending} {w' : World} (hr : RSplitAns w s e w') : e = .returned (.tuple #[.slice none 0 0, .int .i64 3]) ∧ Below w.heap.size w w' := by
  unfold RSplitAns at hr; rw [h] at hr; exact hr

/-- The ways through the document's Split. -/
theorem rsplit_ways (s : ByteArray) : ((s.toList == [47]) = true ∧ psplit s = some []) ∨
    ((s.toList == [47]) = false ∧ s.size = 0 ∧ psplit s = none) ∨
    ((s.toList == [47]) = false ∧ 0 < s.size ∧ 64 < s.size ∧ psplit s = none) ∨
    ((s.toList == [47]) = false ∧ 0 < s.size ∧ s.size ≤ 64 ∧ (∃ h : 0 < s.size, s[0] ≠ 47) ∧ psplit s = none) ∨
    ((s.toList == [47]) = false ∧ 0 < s.size ∧ s.size ≤ 64 ∧ (∃ h : 0 < s.size, s[0] = 47) ∧ s.data.toList = 47 :: s.data.toList.tail ∧
      (8 < (refB s s.size).length ∧ psplit s = none ∨ (refB s s.size).length ≤ 8 ∧ ((∃ i, i < (refB s s.size).length ∧ nameOk ((refB s s.size).getD i default) = false) ∧ psplit s = none ∨ (∀ i, i < (refB s s.size).length → nameOk ((refB s s.size).getD i default) = true) ∧ psplit s = some (refB s s.size)))) := by
  by_cases h0 : (s.toList == [47]) = true
  · left; exact ⟨h0, by unfold psplit; rw [if_pos h0]⟩
  · have h0' : (s.toList == [47]) = false := by simpa using h0
    right
    by_cases h1 : s.size = 0
    · left
      refine ⟨h0', h1, ?_⟩
      unfold psplit
      rw [if_neg h0]
      have : s.data.toList = [] := List.eq_nil_of_length_eq_zero (by rw [← size_eq]; exact h1)
      rw [this]
      simp [hasPrefix, List.isPrefixOf]
    · right
      by_cases h2 : 64 < s.size
      · left; exact ⟨h0', by omega, h2, by unfold psplit; rw [if_neg h0, if_pos (by simp [h2])]⟩
      · right
        have hp0 : s[0]'(by omega) = s.data.toList[0]'(by rw [← size_eq]; omega) := rfl
        by_cases h3 : s[0]'(by omega) = 47
        · right
          have h47 : s.data.toList = 47 :: s.data.toList.tail := by
            cases hl : s.data.toList with
            | nil => have := congrArg List.length hl; rw [← size_eq, List.length_nil] at this; omega
            | cons c t =>
              have : c = 47 := by rw [← h3, hp0]; simp [hl]
              rw [this]; rfl
          refine ⟨h0', by omega, by omega, ⟨by omega, h3⟩, h47, ?_⟩
          have hpf := (hasPrefix_one _).2 h47
          rw [refB_all h47]
          have hps : psplit s = if decide (8 < (partsOf (s.extract 1 s.size)).length) || (partsOf (s.extract 1 s.size)).any (fun x => !nameOk x) then none else some (partsOf (s.extract 1 s.size)) := by
            unfold psplit
            rw [if_neg h0, if_neg (by simp [hpf, h2])]
          rw [hps]
          generalize partsOf (s.extract 1 s.size) = L
          by_cases h4 : 8 < L.length
          · left; exact ⟨h4, by rw [if_pos (by simp [h4])]⟩
          · right
            refine ⟨by omega, ?_⟩
            cases h5 : L.any (fun x => !nameOk x)
            · right
              refine ⟨fun i hi => ?_, by rw [if_neg (by simp [h4])]⟩
              have := List.any_eq_false.1 h5 (L.getD i default) (by simp [List.getD, hi])
              simpa using this
            · left
              refine ⟨?_, by simp⟩
              obtain ⟨x, hx, hn⟩ := List.any_eq_true.1 h5
              obtain ⟨i, hi, e⟩ := List.getElem_of_mem hx
              refine ⟨i, hi, ?_⟩
              have : L.getD i default = x := by simp [List.getD, hi, e]
              rw [this]
              simpa using hn
        · left
          refine ⟨h0', by omega, by omega, ⟨by omega, h3⟩, ?_⟩
          unfold psplit
          rw [if_neg h0]
          have : hasPrefix s.data.toList [47] = false := by
            cases hh : hasPrefix s.data.toList [47]
            · rfl
            · exfalso
              have h47 := (hasPrefix_one _).1 hh
              have h48 : s.data.toList[0]? = some 47 := by rw [h47]; rfl
              exact h3 (by rw [hp0]; exact Option.some.inj (by rw [← List.getElem?_eq_getElem]; exact h48))
          rw [this, if_pos (by rw [Bool.not_false, Bool.or_true])]

set_option maxRecDepth 100000 in
set_option maxHeartbeats 2000000 in
theorem ref_split (s : ByteArray) (w : World) (hs : s.size ≤ maxLen) :
    Calls Tryz.prog 73 #[.string s] w (RSplitAns w s) := by
  unfold maxLen at hs
  rcases rsplit_ways s with ⟨h0, hp⟩ | ⟨h0, h1, hp⟩ | ⟨h0, h1, h2, hp⟩ | ⟨h0, h1, h2, ⟨h', h3⟩, hp⟩ | ⟨h0, h1, h2, ⟨h', h3⟩, h47, hp⟩
  · have HP := Lib.hid hp; clear hp
    go_enter Tryz.func73, Tryz.ntmps73
    go_wp2
    go_ret2
    exact rsplitAns_ok HP.out (Nat.le_refl _) (.nil _ _) (Below.refl _ _)
  · have HP := Lib.hid hp; clear hp
    have c1 : ((s.size : Int) == 0) = true := by rw [beq_iff_eq]; omega
    clear h1
    go_enter Tryz.func73, Tryz.ntmps73
    go_wp2
    go_ret2
    exact rsplitAns_no HP.out (Below.refl _ _)
  · have HP := Lib.hid hp; clear hp
    have c1 : ((s.size : Int) == 0) = false := by rw [beq_eq_false_iff_ne]; omega
    have c2 : decide ((64 : Int) < (s.size : Int)) = true := by simp; omega
    go_enter Tryz.func73, Tryz.ntmps73
    go_wp2
    go_ret2
    exact rsplitAns_no HP.out (Below.refl _ _)
  · have HP := Lib.hid hp; clear hp
    have c1 : ((s.size : Int) == 0) = false := by rw [beq_eq_false_iff_ne]; omega
    have c2 : decide ((64 : Int) < (s.size : Int)) = false := by simp; omega
    have c3 : ((s[0].toNat : Int) != 47) = true := by
      rw [bne_iff_ne]; intro e; apply h3; apply UInt8.toNat_inj.1; exact_mod_cast e
    clear h3
    go_enter Tryz.func73, Tryz.ntmps73
    go_wp2
    go_ret2
    exact rsplitAns_no HP.out (Below.refl _ _)
  · have HP := Lib.hid hp; clear hp
    have c1 : ((s.size : Int) == 0) = false := by rw [beq_eq_false_iff_ne]; omega
    have c2 : decide ((64 : Int) < (s.size : Int)) = false := by simp; omega
    have c3 : ((s[0].toNat : Int) != 47) = false := by
      rw [h3]; decide
    have H3 := Lib.hid h3
    have H47 := Lib.hid h47
    clear h3 h47
    obtain ⟨i0, hi, hz0, hz1, hz2⟩ := info_parts info_str
    go_enter Tryz.func73, Tryz.ntmps73
    go_wp2
    go_loopw [4, 5] (fun v i wr => ∃ (k : Nat) (sv : Value), k ≤ s.size ∧ i = .int .i64 (k : Int) ∧ v = sv ∧ Hid (wr.ownsRow w.heap.size 9 1 sv (refB s k).length ((refB s k).map Value.string)) ∧ Hid (Below w.heap.size w wr)) (fun _ i _ => s.size - (intOf i).toNat)
    case atStart => exact ⟨0, _, by omega, rfl, rfl, Lib.hid (World.ownsRow_nil _ _ _ _), Lib.hid (Below.refl _ _)⟩
    case round =>
      obtain ⟨k, sv, hk, rfl, hsv, HO, HC⟩ := hrel
      have hsv' := hsv.symm
      subst hsv'
      clear c3
      by_cases hlt : k < s.size
      · have hlen := refB_len s k
        by_cases h47 : s[k] = 47
        · have HS := Lib.hid (refB_slash hlt h47)
          have d1 : ((s[k].toNat : Int) == 47) = true := by rw [h47]; decide
          clear h47
          go_wp2_with (at_builtin; refine wpList_append_own _ rfl (.tmp 32) (.tmp 33) 95 rfl w.heap.size 9 i0 _ 1 16 Tryz.underlying95 hi hz0 hz1 hz2 rfl (by decide) _ _ _ rfl (HO.out.alloc _) ⟨wr.heap.size, 0, none⟩ 1 1 [.string ⟨#[]⟩] rfl rfl (one_new _ _ _) (by intro u hu; simp at hu; subst hu; rfl) (by unfold maxLen; omega) (by omega) (by have := HC.out.size; simp; omega) ?_; intro v' w1 hown' hgrow hnil; clear hnil; have HO1 := Lib.hid hown'; have HC1 := Lib.hid (grown_below (B := w.heap.size) (HC.out.alloc HC.out.size _) (by have := HC.out.size; simp; omega) (HO.out.alloc _) hgrow); clear hown' hgrow)
          refine ⟨⟨k + 1, _, by omega, by go_num, rfl, ?_, HC1⟩, by simp [intOf]; omega⟩
          have := HO1.out
          rw [HS.out]
          exact Lib.hid (by simpa using this)
        · have hk0 : 0 < k := by
            by_cases e : k = 0
            · subst e; exact absurd H3.out h47
            · omega
          obtain ⟨x, hx, he⟩ := refB_sign hlt h47 hk0
          have d1 : ((s[k].toNat : Int) == 47) = false := by
            rw [beq_eq_false_iff_ne]; intro e; apply h47; apply UInt8.toNat_inj.1; exact_mod_cast e
          have hpos : 0 < (refB s k).length := by
            cases h : refB s k with
            | nil => rw [h] at hx; simp at hx
            | cons _ _ => simp
          obtain ⟨g, cap, rfl, hcap⟩ : ∃ g cap, sv = .slice (some ⟨g, 0, none⟩) (refB s k).length cap ∧ (refB s k).length ≤ cap := by
            rcases HO.out.2 with ⟨_, hn⟩ | ⟨g, cap, cur, hv, _, _, hc, _⟩
            · omega
            · exact ⟨g, cap, hv, hc⟩
          have hxs : ((refB s k).map Value.string)[(refB s k).length - 1]? = some (.string x) := by rw [List.getElem?_map, hx]; rfl
          obtain ⟨cell, frz, hbg, hgl⟩ := own_cell HO.out hxs
          have hsz : x.size ≤ 64 := by have := refB_size s k x (List.mem_of_getElem? hx); omega
          have HO2 := Lib.hid (own_set HO.out (k := (refB s k).length - 1) (.string (x ++ mkB [s[k]])))
          have HE := Lib.hid he
          have hcat : Hid (x ++ s.extract k (k + 1) = x ++ mkB [s[k]]) := by
            show x ++ s.extract k (k + 1) = x ++ mkB [s[k]]
            congr 1
            apply bytes_ext
            rw [extract_data]
            have := take_snoc s k hlt
            have h2 : (s.data.toList.drop k).take 1 = [s[k]] := by
              rw [List.drop_eq_getElem_cons (by rw [← size_eq]; exact hlt)]; rfl
            simpa using h2
          have hN : (refB s k).length ≤ 64 := by omega
          clear hx he hxs h47
          generalize hN' : (refB s k).length = N at *
          have HN := Lib.hid hN'
          clear hN'
          have v1 : IntKind.i64.wrap ((N : Int) - 1) = (N : Int) - 1 := IntWalk.i64_in _ (by omega)
          have v2 : ((N : Int) - 1).toNat = N - 1 := by omega
          have v3 : (0 : Int) ≤ (N : Int) - 1 := by omega
          have v4 : (N : Int) - 1 < (N : Int) := by omega
          have v5 : IntKind.i64.wrap ((k : Int) + 1) = (k : Int) + 1 := IntWalk.i64_in _ (by omega)
          have v6 : ((k : Int) + 1).toNat = k + 1 := by omega
          have v7 : (0 : Int) ≤ (k : Int) + 1 := by omega
          have v8 : (k : Int) + 1 ≤ (s.size : Int) := by omega
          go_wp2
          go_region
          all_goals
            go_wp2
            refine ⟨⟨k + 1, _, by omega, by go_num, rfl, ?_, ?_⟩, by simp [intOf]; omega⟩
            · rw [HE.out, hcat.out]
              rw [List.map_set, List.length_set, HN.out]
              exact Lib.hid (own_heap HO2.out rfl)
            · exact Lib.hid (below_drewN' (HC.out.setCell (p := ⟨g, N - 1, none⟩) (by show w.heap.size ≤ g; exact hbg) _) 1)
      · obtain rfl : k = s.size := by omega
        obtain ⟨a, c, rfl, hc, hS⟩ := SlS.own HO.out
        generalize hL : refB s s.size = L at *
        have hl65 : L.length ≤ 64 := by rw [← hL]; exact Nat.le_trans (refB_len s s.size) h2
        have hfit : ∀ x ∈ L, x.size ≤ maxLen := fun x hx => by rw [← hL] at hx; have := refB_size s _ x hx; unfold maxLen; omega
        clear HO hL
        have HFit := Lib.hid hfit
        clear hfit
        rcases HP.out with ⟨h8, hp⟩ | ⟨h8, hp⟩
        · have HP2 := Lib.hid hp; clear hp HP
          have d1 : decide ((8 : Int) < (L.length : Int)) = true := by simp; omega
          go_wp2
          go_ret2
          exact rsplitAns_no HP2.out HC.out
        · have HP2 := Lib.hid hp; clear hp HP
          have d1 : decide ((8 : Int) < (L.length : Int)) = false := by simp; omega
          have d2 : decide ((L.length : Int) ≤ 8) = true := by simp; omega
          obtain ⟨wo, rfl⟩ : ∃ x, x = wr := ⟨wr, rfl⟩
          go_wp2
          go_loop [6] (fun i => ∃ j : Nat, j ≤ L.length ∧ i = .int .i64 (j : Int) ∧ Hid (∀ m, m < j → nameOk (L.getD m default) = true)) (fun i => L.length - (intOf i).toNat)
          case atStart => exact ⟨0, by omega, rfl, fun m hm => by omega⟩
          case round =>
            obtain ⟨j, hj, rfl, HA⟩ := hrel
            by_cases hjl : j < L.length
            · obtain ⟨b, o, rfl, cell, hbl⟩ := hS.at_ hjl
              have hxs : (L.getD j default).size ≤ maxLen := HFit.out _ (by simp [List.getD, hjl])
              have hji : (j : Int) < (L.length : Int) := by omega
              generalize hx : L.getD j default = x at cell hxs
              have HX := Lib.hid hx
              clear hx
              cases hn : nameOk x
              · have HN : Hid (psplit s = none) := by
                  rcases HP2.out with ⟨_, h⟩ | ⟨h, _⟩
                  · exact h
                  · have := h j hjl; rw [HX.out, hn] at this; cases this
                go_wp2_with (go_at_call 80; refine (rname_any _ hxs _).mono ?_; rintro e w' ⟨rfl, rfl⟩; rw [hn])
                go_ret2
                exact rsplitAns_no HN.out HC.out
              · have HN := Lib.hid hn
                go_wp2_with (go_at_call 80; refine (rname_any _ hxs _).mono ?_; rintro e w' ⟨rfl, rfl⟩; rw [HN.out])
                refine ⟨⟨j + 1, by omega, by go_num, ?_⟩, by simp [intOf]; omega⟩
                intro m hm
                by_cases e : m = j
                · subst e; rw [HX.out]; exact HN.out
                · exact HA.out m (by omega)
            · have HN : Hid (psplit s = some L) := by
                rcases HP2.out with ⟨⟨i, hi, hb⟩, _⟩ | ⟨_, h⟩
                · have := HA.out i (by omega); rw [hb] at this; cases this
                · exact h
              clear HA
              have hjl2 : decide ((j : Int) < (L.length : Int)) = false := by simp; omega
              go_wp2
              go_ret2
              exact rsplitAns_ok HN.out hc hS HC.out

set_option maxRecDepth 100000 in
set_option maxHeartbeats 2000000 in
theorem ref_under (a b : ByteArray) (w : World) (ha : a.size ≤ maxLen) (hb : b.size ≤ maxLen) :
    Calls Tryz.prog 105 #[.string a, .string b] w fun e w' => e = .returned (.bool (punder a b)) ∧ Below w.heap.size w w' := by
  have H1 := Lib.hid (ref_split a w ha)
  have H2 : Hid (∀ w1, Calls Tryz.prog 73 #[.string b] w1 (RSplitAns w1 b)) := fun w1 => ref_split b w1 hb
  clear ha hb
  have hf : Hid (punder a b = match psplit a, psplit b with
    | some x, some y => decide (y.length < x.length) && (decide (x.take y.length = y))
    | _, _ => false) := rfl
  cases hx : psplit a with
  | none =>
    have HX := Lib.hid hx
    cases hy : psplit b with
    | none =>
      have HY := Lib.hid hy
      rw [hx, hy] at hf
      clear hx hy
      go_enter Tryz.func105, Tryz.ntmps105
      go_wp2_with fail
      refine H1.out.mono ?_
      intro e w1 hr
      obtain ⟨rfl, hB1⟩ := rsplitAns_none HX.out hr
      clear hr
      go_wp2_with fail
      refine (H2.out _).mono ?_
      intro e w2 hr
      obtain ⟨rfl, hB2⟩ := rsplitAns_none HY.out hr
      clear hr
      go_wp2_with fail
      go_ret
      exact ⟨by rw [hf.out]; rfl, blw hB1 hB2⟩
    | some y =>
      have HY := Lib.hid hy
      rw [hx, hy] at hf
      clear hx hy
      go_enter Tryz.func105, Tryz.ntmps105
      go_wp2_with fail
      refine H1.out.mono ?_
      intro e w1 hr
      obtain ⟨rfl, hB1⟩ := rsplitAns_none HX.out hr
      clear hr
      go_wp2_with fail
      refine (H2.out _).mono ?_
      intro e w2 hr
      obtain ⟨a2, c2, rfl, hc2, hS2, hB2⟩ := rsplitAns_some HY.out hr
      clear hr
      go_wp2_with fail
      go_ret
      exact ⟨by rw [hf.out]; rfl, blw hB1 hB2⟩
  | some x =>
    have HX := Lib.hid hx
    cases hy : psplit b with
    | none =>
      have HY := Lib.hid hy
      rw [hx, hy] at hf
      clear hx hy
      go_enter Tryz.func105, Tryz.ntmps105
      go_wp2_with fail
      refine H1.out.mono ?_
      intro e w1 hr
      obtain ⟨a1, c1, rfl, hc1, hS1, hB1⟩ := rsplitAns_some HX.out hr
      clear hr
      go_wp2_with fail
      refine (H2.out _).mono ?_
      intro e w2 hr
      obtain ⟨rfl, hB2⟩ := rsplitAns_none HY.out hr
      clear hr
      go_wp2_with fail
      go_ret
      exact ⟨by rw [hf.out]; rfl, blw hB1 hB2⟩
    | some y =>
      have HY := Lib.hid hy
      rw [hx, hy] at hf
      have hx8 := (psplit_ok hx).1.few
      have hy8 := (psplit_ok hy).1.few
      clear hx hy
      by_cases hl : y.length < x.length
      · have hl1 : decide ((x.length : Int) ≤ (y.length : Int)) = false := by simp; omega
        have hfin := Lib.hid (show punder a b = (decide (x.take y.length = y)) by rw [hf.out]; simp [hl])
        go_enter Tryz.func105, Tryz.ntmps105
        go_wp2_with fail
        refine H1.out.mono ?_
        intro e w1 hr
        obtain ⟨a1, c1, rfl, hc1, hS1, hB1⟩ := rsplitAns_some HX.out hr
        clear hr
        go_wp2_with fail
        refine (H2.out _).mono ?_
        intro e w2 hr
        obtain ⟨a2, c2, rfl, hc2, hS2, hB2⟩ := rsplitAns_some HY.out hr
        clear hr
        have HB := Lib.hid (blw hB1 hB2)
        have hS1' := hS1.below hB2
        clear hB1 hB2 hS1
        go_wp2
        go_loopw [9] (fun i wr => ∃ (j n : Nat), j ≤ y.length ∧ i = .int .i64 (j : Int) ∧ wr = w2.drewN n ∧ Hid (∀ m, m < j → x.getD m default = y.getD m default)) (fun i _ => y.length - (intOf i).toNat)
        case atStart => exact ⟨0, 0, by omega, rfl, rfl, fun m hm => by omega⟩
        case round =>
          obtain ⟨j, n, hj, rfl, rfl, HA⟩ := hrel
          by_cases hjl : j < y.length
          · obtain ⟨b1, o1, rfl, cell1, hbl1⟩ := hS1'.at_ (k := j) (by omega)
            obtain ⟨b2, o2, rfl, cell2, hbl2⟩ := hS2.at_ hjl
            have hji : (j : Int) < (y.length : Int) := by omega
            have hji2 : (j : Int) < (x.length : Int) := by omega
            have hjn : j < x.length := by omega
            generalize hx : x.getD j default = xj at cell1
            generalize hy : y.getD j default = yj at cell2
            have HXJ := Lib.hid hx
            have HYJ := Lib.hid hy
            clear hx hy
            cases he : (xj.toList == yj.toList)
            · have HN := Lib.hid (show punder a b = false by
                rw [hfin.out, decide_eq_false]
                intro h
                have h2 : (x.take y.length).getD j default = y.getD j default := by rw [h]
                have h3 : (x.take y.length).getD j default = x.getD j default := by simp [List.getD, hjl]
                rw [beq_bytes] at he
                exact absurd (HXJ.out.symm.trans (h3.symm.trans (h2.trans HYJ.out))) (of_decide_eq_false he))
              go_wp2
              go_quiet (fail)
              go_wp2
              go_ret
              exact ⟨by rw [HN.out]; rfl, below_drewN' (below_drewN' HB.out _) _⟩
            · have HE := Lib.hid (show xj = yj by rw [beq_bytes] at he; exact of_decide_eq_true he)
              go_wp2
              go_quiet (fail)
              go_wp2
              refine ⟨⟨j + 1, _, by omega, by go_num, rfl, ?_⟩, by simp [intOf]; omega⟩
              intro m hm
              by_cases e : m = j
              · subst e; rw [HXJ.out, HYJ.out]; exact HE.out
              · exact HA.out m (by omega)
          · have HN := Lib.hid (show punder a b = true by
              rw [hfin.out, decide_eq_true]
              apply List.ext_getElem?
              intro m
              rw [List.getElem?_take]
              split
              · have := HA.out m (by omega)
                have hm1 : m < x.length := by omega
                have hm2 : m < y.length := by omega
                simp [List.getD, hm1, hm2] at this
                simp [hm1, hm2, this]
              · rw [List.getElem?_eq_none (by omega)])
            clear HA
            have hjl2 : decide ((j : Int) < (y.length : Int)) = false := by simp; omega
            go_wp2
            go_ret
            exact ⟨by rw [HN.out]; rfl, below_drewN' HB.out _⟩
      · have hl1 : decide ((x.length : Int) ≤ (y.length : Int)) = true := by simp; omega
        have hfin := Lib.hid (show punder a b = false by rw [hf.out]; simp [hl])
        go_enter Tryz.func105, Tryz.ntmps105
        go_wp2_with fail
        refine H1.out.mono ?_
        intro e w1 hr
        obtain ⟨a1, c1, rfl, hc1, hS1, hB1⟩ := rsplitAns_some HX.out hr
        clear hr
        go_wp2_with fail
        refine (H2.out _).mono ?_
        intro e w2 hr
        obtain ⟨a2, c2, rfl, hc2, hS2, hB2⟩ := rsplitAns_some HY.out hr
        clear hr
        go_wp2_with fail
        go_ret
        exact ⟨by rw [hfin.out]; rfl, blw hB1 hB2⟩
end Go.Proofs.YtiegadfhgccliaaGreatDoor
namespace Go.Proofs.YtiegadfhgccliaaGreatDoor
open Go.RowKit Go.Lib
open Go.ChangeMaps (setBlock)

theorem ref_join_take {w : World} {a : Option Addr} {c : Nat} {P : List ByteArray} (hS : SlS w a P) (hc : P.length ≤ c) (hp : PathOk P) {k : Nat} (hk : k ≤ P.length) :
    Calls Tryz.prog 75 #[.slice a k c] w fun e w' => e = .returned (.string (pjoin (P.take k))) ∧ w' = w := by
  have hs := (hp.take k).short
  have hl : (joinTail [47] (raws (P.take k))).length ≤ 100000 := by
    by_cases h0 : P.take k = []
    · rw [h0]; decide
    · rw [size_eq, pjoin_tail h0] at hs; omega
  have h := ref_join (P.take k) a c w (hS.take k) (by rw [List.length_take]; omega) (by have := hp.few; rw [List.length_take]; omega) hl
  rw [List.length_take, Nat.min_eq_left hk] at h
  exact h
set_option maxRecDepth 100000 in
set_option maxHeartbeats 4000000 in
theorem doc_look (s : ByteArray) (w : World) (hs : s.size ≤ maxLen) {td : Nat} {dx : DX} {T : TS} (hT : DocP dx w td T) (hn : T.L.length ≤ 1000000) {i0 : Int} {d0 : Bool} {x0 : Int} (hl : lookS (fnd · T.L) s = (i0, d0, x0)) :
    Calls Tryz.prog 46 #[.pointer (some ⟨td, 0, none⟩), .string s] w fun e w' => e = .returned (.tuple #[.int .i64 i0, .bool d0, .int .i64 x0]) ∧ Below w.heap.size w w' := by
  have HSp := Lib.hid (ref_split s w hs)
  have HT := Lib.hid hT
  clear hT
  unfold lookS at hl
  cases hx : psplit s with
  | none =>
    rw [hx] at hl
    have HR := Lib.hid (show ((0 : Int), false, (3 : Int)) = (i0, d0, x0) from hl)
    have HX := Lib.hid hx
    clear hx hl
    go_enter Tryz.func46, Tryz.ntmps46
    go_wp2_with fail
    refine HSp.out.mono ?_
    intro e w1 hr
    obtain ⟨rfl, hB1⟩ := rsplitAns_none HX.out hr
    clear hr
    go_wp2_with fail
    go_ret3
    exact ⟨by obtain ⟨h1, h2⟩ := Prod.mk.inj HR.out; obtain ⟨h2, h3⟩ := Prod.mk.inj h2; subst h1; subst h2; subst h3; rfl, hB1⟩
  | some P =>
    rw [hx] at hl
    have HX := Lib.hid hx
    have hl : lookFrom (fnd · T.L) [] P 0 true = (i0, d0, x0) := hl
    have HL := Lib.hid hl
    have hP := (psplit_ok hx).1
    have h8 := hP.few
    have HP := Lib.hid hP
    clear hx hl hP
    go_enter Tryz.func46, Tryz.ntmps46
    go_wp2_with fail
    refine HSp.out.mono ?_
    intro e w1 hr
    obtain ⟨a1, c1, rfl, hc1, hS1, hB1⟩ := rsplitAns_some HX.out hr
    clear hr
    have HB1 := Lib.hid hB1
    have HS1 := Lib.hid hS1
    clear hB1 hS1
    go_wp2
    go_loopw [9, 10, 11] (fun vi vd i wr => ∃ (k : Nat) (id : Int) (dir : Bool), k ≤ P.length ∧ vi = .int .i64 id ∧ vd = .bool dir ∧ i = .int .i64 (k : Int) ∧ Hid (Below w1.heap.size w1 wr) ∧ Hid (lookFrom (fnd · T.L) (P.take k) (P.drop k) id dir = (i0, d0, x0))) (fun _ _ i _ => P.length - (intOf i).toNat)
    case atStart => exact ⟨0, 0, true, by omega, rfl, rfl, rfl, Lib.hid (Below.refl _ _), Lib.hid HL.out⟩
    case round =>
      obtain ⟨k, id, dir, hk, rfl, rfl, rfl, HB, HF⟩ := hrel
      by_cases hlt : k < P.length
      · have hstep := lookFrom_step (fnd · T.L) P k hlt id dir
        have hki : (k : Int) < (P.length : Int) := by omega
        cases dir with
        | false =>
          have HR := Lib.hid (hstep.symm.trans HF.out)
          clear hstep
          go_wp2_with fail
          go_ret3
          exact ⟨by obtain ⟨h1, h2⟩ := Prod.mk.inj HR.out; obtain ⟨h2, h3⟩ := Prod.mk.inj h2; subst h1; subst h2; subst h3; rfl, blw HB1.out HB.out⟩
        | true =>
          have hstep := hstep.symm.trans HF.out
          rw [if_neg (by decide)] at hstep
          have hj := ref_join_take (HS1.out.below HB.out) hc1 HP.out (k := k + 1) (by omega)
          have hTr := HT.out.below (blw HB1.out HB.out)
          have hat := doc_at (pjoin (P.take (k + 1))) wr hTr hn
          have hne : pjoin (P.take (k + 1)) ≠ rootP := by
            intro e
            have h1 := pjoin_ne (L := P.take (k + 1)) (HP.out.take _).names (by intro e; have := congrArg List.length e; rw [List.length_take, List.length_nil] at this; omega)
            rw [e, show rootP.toList = [47] by rw [toList_data]; rfl] at h1
            exact absurd h1 (by decide)
          have v4 : (k : Int) + 1 ≤ (c1 : Int) := by omega
          have HTr := Lib.hid hTr
          clear hTr
          cases hfd : fnd (pjoin (P.take (k + 1))) T.L with
          | none =>
            have HR := Lib.hid (show ((0 : Int), false, (4 : Int)) = (i0, d0, x0) by rw [← hstep]; simp only [hfd])
            rw [atD_none hne hfd] at hat
            have HJ := Lib.hid hj
            have HAt := Lib.hid hat
            clear hstep hfd hne hj hat
            go_wp2_with fail
            with_reducible refine Calls.mono HJ.out ?_
            rintro e wr ⟨rfl, rfl⟩
            go_wp2_with fail
            with_reducible refine Calls.mono HAt.out ?_
            rintro e wr ⟨rfl, rfl⟩
            go_wp2
            go_ret3
            exact ⟨by obtain ⟨h1, h2⟩ := Prod.mk.inj HR.out; obtain ⟨h2, h3⟩ := Prod.mk.inj h2; subst h1; subst h2; subst h3; rfl, blw HB1.out HB.out⟩
          | some nd =>
            have HR := Lib.hid (show lookFrom (fnd · T.L) (P.take (k + 1)) (P.drop (k + 1)) nd.id nd.dir = (i0, d0, x0) by rw [← hstep]; simp only [hfd])
            obtain ⟨q, hq, hqa, hqd, _⟩ := atD_some hne hfd
            rw [hqa] at hat
            have HJ := Lib.hid hj
            have HAt := Lib.hid hat
            obtain ⟨a, c, t1, t2, t3⟩ := HTr.out.ex
            obtain ⟨b, o, rfl, _, p1, p2, _⟩ := t3.at_ hq
            rw [hqd] at p1 p2
            have c0 : wr.cell? ⟨td, 0, none⟩ = some (.slice (some ⟨b, o, none⟩) T.L.length c) := by unfold World.cell?; rw [t1]; rfl
            have hq0 : (0 : Int) ≤ (q : Int) := Int.natCast_nonneg _
            have hq1 : (q : Int) < (T.L.length : Int) := by omega
            have hq2 : ¬ (q : Int) < 0 := by omega
            obtain ⟨np, ni, ndr⟩ := nd
            dsimp only at p1 p2
            clear hstep hfd hne hj hat t1 t3 hqa hqd
            go_wp2_with fail
            with_reducible refine Calls.mono HJ.out ?_
            rintro e wr ⟨rfl, rfl⟩
            go_wp2_with fail
            with_reducible refine Calls.mono HAt.out ?_
            rintro e wr ⟨rfl, rfl⟩
            go_upto_region 13 with (fail)
            go_quiet (fail)
            go_wp2
            exact ⟨⟨k + 1, ni, ndr, by omega, rfl, rfl, by go_num, Lib.hid (below_drewN HB.out _), HR⟩, by simp [intOf]; omega⟩
      · obtain rfl : k = P.length := by omega
        have hR := HF.out
        rw [List.drop_length] at hR
        have HR := Lib.hid (show (id, dir, (0 : Int)) = (i0, d0, x0) from hR)
        have hlt' : decide ((P.length : Int) < (P.length : Int)) = false := by simp
        clear hR hlt HF
        go_wp2
        go_ret3
        exact ⟨by obtain ⟨h1, h2⟩ := Prod.mk.inj HR.out; obtain ⟨h2, h3⟩ := Prod.mk.inj h2; subst h1; subst h2; subst h3; rfl, blw HB1.out HB.out⟩
end Go.Proofs.YtiegadfhgccliaaGreatDoor
namespace Go.Proofs.YtiegadfhgccliaaGreatDoor
open Go.RowKit Go.Lib
open Go.ChangeMaps (setBlock)

set_option maxRecDepth 100000 in
set_option maxHeartbeats 4000000 in
theorem doc_parent (s : ByteArray) (w : World) (hs : s.size ≤ maxLen) {P : List ByteArray} (hP : psplit s = some P) (h0 : P ≠ []) :
    Calls Tryz.prog 124 #[.string s] w fun e w' => e = .returned (.string (pjoin P.dropLast)) ∧ Below w.heap.size w w' := by
  have HSp := Lib.hid (ref_split s w hs)
  have HX := Lib.hid hP
  have hok := (psplit_ok hP).1
  have h8 := hok.few
  have HP := Lib.hid hok
  have hpos : 0 < P.length := List.length_pos_iff.2 h0
  have HDl := Lib.hid (show P.take (P.length - 1) = P.dropLast from List.dropLast_eq_take.symm)
  have v1 : IntKind.i64.wrap ((P.length : Int) - 1) = (P.length : Int) - 1 := IntWalk.i64_in _ (by omega)
  have v2 : ((P.length : Int) - 1).toNat = P.length - 1 := by omega
  have v3 : (0 : Int) ≤ (P.length : Int) - 1 := by omega
  clear hP h0 hok
  go_enter Tryz.func124, Tryz.ntmps124
  go_wp2_with fail
  refine HSp.out.mono ?_
  intro e w1 hr
  obtain ⟨a1, c1, rfl, hc1, hS1, hB1⟩ := rsplitAns_some HX.out hr
  clear hr
  have hj := ref_join_take hS1 hc1 HP.out (k := P.length - 1) (by omega)
  rw [HDl.out] at hj
  have HJ := Lib.hid hj
  have v4 : (P.length : Int) - 1 ≤ (c1 : Int) := by omega
  clear hj hS1
  go_wp2_with fail
  with_reducible refine Calls.mono HJ.out ?_
  rintro e w1 ⟨rfl, rfl⟩
  go_wp2
  go_ret
  exact ⟨rfl, hB1⟩
set_option maxRecDepth 100000 in
set_option maxHeartbeats 4000000 in
theorem doc_ahead (s : ByteArray) (w : World) (hs : s.size ≤ maxLen) {td : Nat} {dx : DX} {T : TS} (hT : DocP dx w td T) (hn : T.L.length ≤ 1000000) {P : List ByteArray} (hP : psplit s = some P) {x : Int} (hx : aheadS (fnd · T.L) P = x) :
    Calls Tryz.prog 103 #[.pointer (some ⟨td, 0, none⟩), .string s] w fun e w' => e = .returned (.int .i64 x) ∧ Below w.heap.size w w' := by
  have hroot := beq_bytes s rootP
  rw [show rootP.toList = [47] by rw [toList_data]; rfl, root_split hP] at hroot
  by_cases h0 : P = []
  · subst h0
    have HR := Lib.hid (show (0 : Int) = x from hx)
    have hroot : (s.toList == [47]) = true := hroot
    clear hT hP hx
    go_enter Tryz.func103, Tryz.ntmps103
    go_wp2
    go_ret
    exact ⟨by rw [← HR.out]; rfl, Below.refl _ _⟩
  · have he : P.isEmpty = false := by cases P; exact absurd rfl h0; rfl
    rw [he] at hroot
    obtain ⟨i, d, x1, hl⟩ : ∃ i d x1, lookS (fnd · T.L) (pjoin P.dropLast) = (i, d, x1) := ⟨_, _, _, rfl⟩
    have hr0 : (if x1 = 0 then (if d then (0 : Int) else 7) else x1) = x := by
      unfold aheadS at hx
      rw [he, hl] at hx
      simpa using hx
    have HPa := Lib.hid (doc_parent s w hs hP h0)
    have hsz := (psplit_ok hP).1.dropLast.short
    have HLk : Hid (∀ W, Below w.heap.size w W → Calls Tryz.prog 46 #[.pointer (some ⟨td, 0, none⟩), .string (pjoin P.dropLast)] W fun e w' => e = .returned (.tuple #[.int .i64 i, .bool d, .int .i64 x1]) ∧ Below W.heap.size W w') := fun W h => doc_look _ W (by unfold maxLen; omega) (hT.below h) hn hl
    clear hT hP hx hl he h0 hsz
    by_cases hx1 : x1 = 0
    · subst hx1
      cases d
      all_goals
        have HR := Lib.hid hr0
        go_enter Tryz.func103, Tryz.ntmps103
        go_wp2_with fail
        refine HPa.out.mono ?_
        rintro e w1 ⟨rfl, hB1⟩
        go_wp2_with fail
        refine (HLk.out _ hB1).mono ?_
        rintro e w2 ⟨rfl, hB2⟩
        go_wp2
        go_ret
        exact ⟨by rw [← HR.out]; rfl, blw hB1 hB2⟩
    · have hx2 : (x1 == 0) = false := by rw [beq_eq_false_iff_ne]; exact hx1
      have HR := Lib.hid (show x1 = x by rw [if_neg hx1] at hr0; exact hr0)
      clear hx1 hr0
      go_enter Tryz.func103, Tryz.ntmps103
      go_wp2_with fail
      refine HPa.out.mono ?_
      rintro e w1 ⟨rfl, hB1⟩
      go_wp2_with fail
      refine (HLk.out _ hB1).mono ?_
      rintro e w2 ⟨rfl, hB2⟩
      go_wp2
      go_ret
      exact ⟨by rw [← HR.out]; rfl, blw hB1 hB2⟩
end Go.Proofs.YtiegadfhgccliaaGreatDoor
