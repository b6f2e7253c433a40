/- Walks of the document: Drop. -/
import Derived.Test.YtahdmkmefeocmaaGreatDoorMTreeW
import Derived.Test.YtahdmkmefeocmaaGreatDoorMTreeR
import Derived.Test.YtahdmkmefeocmaaGreatDoorMPathR2
namespace Go.Proofs.YtahdmkmefeocmaaGreatDoor
open Go.RowKit Go.Lib
open Go.ChangeMaps (setBlock)

theorem joinTail_take (L : List ByteArray) (k : Nat) : (joinTail [47] (raws (L.take k))).length ≤ (joinTail [47] (raws L)).length := by
  have e : raws L = raws (L.take k) ++ raws (L.drop k) := by rw [raws, raws, raws, ← List.map_append, List.take_append_drop]
  rw [e, joinTail_append, List.length_append]
  omega
theorem joinTail_snoc (L : List ByteArray) (k : Nat) (hk : k < L.length) : joinTail [47] (raws (L.take (k + 1))) = joinTail [47] (raws (L.take k)) ++ 47 :: (L.getD k default).data.toList := by
  have e : L.take (k + 1) = L.take k ++ [L.getD k default] := by
    rw [List.take_succ_eq_append_getElem hk]
    congr 2
    simp [List.getD, hk]
  rw [e, raws_append, joinTail_append]
  congr 1
  simp [joinTail, raws]
set_option maxRecDepth 100000 in
set_option maxHeartbeats 4000000 in
/-- treeringref1.Join. -/
theorem ref_join (L : List ByteArray) (a : Option Addr) (c : Nat) (w : World) (hS : SlS w a L) (hc : L.length ≤ c) (hn : L.length ≤ 1000) (hb : (joinTail [47] (raws L)).length ≤ 100000) :
    Calls Tryz.prog 36 #[.slice a L.length c] w fun e w' => e = .returned (.string (pjoin L)) ∧ w' = w := by
  by_cases h0 : L = []
  · subst h0
    have hp : pjoin [] = ⟨#[47]⟩ := pjoin_nil
    have HP := Lib.hid hp
    clear hp hS hb
    go_enter Tryz.func36, Tryz.ntmps36
    go_wp2
    go_ret
    exact ⟨by rw [HP.out]; rfl, rfl⟩
  · have hpos : 0 < L.length := List.length_pos_iff.2 h0
    have d0 : ((L.length : Int) == 0) = false := by rw [beq_eq_false_iff_ne]; omega
    have HP : Hid (pjoin L = mkB (joinTail [47] (raws (L.take L.length)))) := bytes_ext (by rw [pjoin_tail h0, mkB_toList, List.take_length])
    have HS := Lib.hid hS
    have HB := Lib.hid hb
    clear hS hb h0
    go_enter Tryz.func36, Tryz.ntmps36
    go_wp2
    go_loopw [3, 4] (fun s i wr => ∃ k : Nat, k ≤ L.length ∧ s = .string (mkB (joinTail [47] (raws (L.take k)))) ∧ i = .int .i64 (k : Int) ∧ wr = w) (fun _ i _ => L.length - (intOf i).toNat)
    case atStart => exact ⟨0, by omega, rfl, rfl, rfl⟩
    case round =>
      obtain ⟨k, hk, rfl, rfl, rfl⟩ := hrel
      by_cases hlt : k < L.length
      · obtain ⟨b, o, rfl, c0, _⟩ := HS.out.at_ hlt
        have hki : (k : Int) < (L.length : Int) := by omega
        have hkc : (k : Int) < (c : Int) := by omega
        have hsn := joinTail_snoc L k hlt
        have h1 := joinTail_take L (k + 1)
        have h2 := HB.out
        generalize hx : L.getD k default = x at *
        generalize ht : joinTail [47] (raws (L.take k)) = t at *
        have hxs : t.length + 1 + x.size ≤ 100000 := by rw [hsn, List.length_append, List.length_cons] at h1; rw [size_eq]; omega
        have hms : (mkB t).size = t.length := mkB_size t
        have HNx : Hid (mkB (joinTail [47] (raws (L.take (k + 1)))) = (mkB t ++ ⟨#[47]⟩) ++ x) := bytes_ext (by rw [mkB_toList, hsn]; simp)
        generalize mkB t = m at *
        have q1 : ¬ 9223372036854775807 < m.size + 1 := by omega
        have q2 : ¬ 9223372036854775807 < m.size + 1 + x.size := by omega
        clear hsn h1 h2 ht hx hms hxs
        go_wp2
        exact ⟨⟨k + 1, by omega, by rw [HNx.out], by go_num, trivial⟩, by simp [intOf]; omega⟩
      · obtain rfl : k = L.length := by omega
        have hlt' : decide ((L.length : Int) < (L.length : Int)) = false := by simp
        clear hlt
        go_wp2
        go_ret
        exact ⟨by rw [HP.out]; rfl, rfl⟩

/-- The document's tree: its struct in a block of its own, its row of nodes, by path. -/
structure DocP (w : World) (td : Nat) (T : TS) : Prop where
  ex : ∃ a c, w.heap[td]? = some (.cells #[.slice a T.L.length c, .int .i64 T.nx] 30 (0, 0)) ∧ T.L.length ≤ c ∧ SlN w a T.L
  far : ∀ b o n c x, w.heap[td]? = some (.cells #[.slice (some ⟨b, o, none⟩) n c, x] 30 (0, 0)) → td < b
theorem DocP.lt {w : World} {td : Nat} {T : TS} (h : DocP w td T) : td < w.heap.size := by
  obtain ⟨a, c, h1, _⟩ := h.ex
  exact (Array.getElem?_eq_some_iff.1 h1).1
theorem DocP.mk2 {w : World} {td : Nat} {L : List Nd} {nx : Int} {a : Option Addr} {c : Nat} (h1 : w.heap[td]? = some (.cells #[.slice a L.length c, .int .i64 nx] 30 (0, 0))) (h2 : L.length ≤ c) (h3 : SlN w a L) (h4 : ∀ b o, a = some ⟨b, o, none⟩ → td < b) : DocP w td ⟨L, nx⟩ :=
  ⟨⟨a, c, h1, h2, h3⟩, fun b o n c' x h => by rw [h1] at h; simp at h; exact h4 b o h.1.1⟩
theorem DocP.below {w w' : World} {td : Nat} {T : TS} (h : DocP w td T) (hb : Below w.heap.size w w') : DocP w' td T := by
  have e := hb.block td h.lt
  obtain ⟨a, c, h1, h2, h3⟩ := h.ex
  exact ⟨⟨a, c, e.trans h1, h2, h3.below hb⟩, fun b o n c' x h' => h.far b o n c' x (e.symm.trans h')⟩
theorem DocP.turn {bs : List Nat} {w w' : World} {td : Nat} {T : TS} (h : DocP w td T) (ht : Turn bs w w') (h1 : td ∉ bs) (h2 : ∀ b ∈ bs, b < td) : DocP w' td T := by
  have e := ht.block td h.lt h1
  obtain ⟨a, c, g1, g2, g3⟩ := h.ex
  refine ⟨⟨a, c, e.trans g1, g2, ?_⟩, fun b o n c' x h' => h.far b o n c' x (e.symm.trans h')⟩
  rcases g3 with g | ⟨b, o, e1, hr⟩
  · exact .inl g
  · subst e1
    exact .inr ⟨b, o, rfl, hr.turn ht fun hb => Nat.lt_asymm (h2 b hb) (h.far b o _ _ _ g1)⟩
set_option maxRecDepth 100000 in
set_option maxHeartbeats 4000000 in
/-- At. -/
theorem doc_at (s : ByteArray) (w : World) {td : Nat} {T : TS} (hT : DocP w td T) (hn : T.L.length ≤ 1000000) :
    Calls Tryz.prog 15 #[.pointer (some ⟨td, 0, none⟩), .string s] w fun e w' => e = .returned (.int .i64 (atD T.L s)) ∧ w' = w := by
  obtain ⟨a, c, h1, hc, hS⟩ := hT.ex
  have c0 : w.cell? ⟨td, 0, none⟩ = some (.slice a T.L.length c) := by unfold World.cell?; rw [h1]; rfl
  have hroot := beq_bytes s rootP
  have e47 : rootP.toList = [47] := by rw [toList_data]; rfl
  rw [e47] at hroot
  have HS := Lib.hid hS
  clear hT h1 hS e47
  by_cases hr : s = rootP
  · have HA : Hid (atD T.L s = -2) := by unfold atD; rw [if_pos hr]; exact Lib.hid rfl
    rw [decide_eq_true hr] at hroot
    clear hr
    go_enter Tryz.func15, Tryz.ntmps15
    go_wp2
    go_ret
    exact ⟨by rw [HA.out]; rfl, rfl⟩
  · rw [decide_eq_false hr] at hroot
    have HR := Lib.hid hr
    clear hr
    generalize hL : T.L = L at *
    clear hL
    go_enter Tryz.func15, Tryz.ntmps15
    go_wp2
    go_loopw [5] (fun i wr => ∃ k : Nat, k ≤ L.length ∧ i = .int .i64 (k : Int) ∧ wr = w ∧ Hid (∀ j, j < k → (L.getD j default).path ≠ s)) (fun i _ => L.length - (intOf i).toNat)
    case atStart => exact ⟨0, by omega, rfl, rfl, Lib.hid fun j hj => by omega⟩
    case round =>
      obtain ⟨k, hk, rfl, rfl, HF⟩ := hrel
      by_cases hlt : k < L.length
      · obtain ⟨b, o, rfl, p0, _, _, _⟩ := HS.out.at_ hlt
        have hki : (k : Int) < (L.length : Int) := by omega
        have hkc : (k : Int) < (c : Int) := by omega
        by_cases he : (L.getD k default).path = s
        · have HA : Hid (atD L s = k) := by
            unfold atD
            rw [if_neg HR.out]
            have h5 : L.findIdx? (fun n => decide (n.path = s)) = some k := by
              rw [List.findIdx?_eq_some_iff_getElem]
              refine ⟨hlt, by have e : L[k] = L.getD k default := by simp [List.getD, hlt]
                              rw [e]; simpa using he, fun j hj => ?_⟩
              have e : L[j]'(by omega) = L.getD j default := by simp [List.getD, show j < L.length by omega]
              rw [e]
              simpa using HF.out j hj
            rw [h5]
            exact Lib.hid rfl
          generalize (L.getD k default).path = np at *
          subst he
          clear HF
          go_wp2
          go_ret
          exact ⟨by rw [HA.out]; rfl, rfl⟩
        · generalize hnp : (L.getD k default).path = np at *
          have HF2 : Hid (∀ j, j < k + 1 → (L.getD j default).path ≠ s) := fun j hj => by
            by_cases e : j = k
            · subst e; rw [hnp]; exact he
            · exact HF.out j (by omega)
          have hbq : (np.toList == s.toList) = false := by rw [beq_bytes]; exact decide_eq_false he
          clear hnp HF he
          go_wp2
          exact ⟨⟨k + 1, by omega, by go_num, trivial, HF2⟩, by simp [intOf]; omega⟩
      · obtain rfl : k = L.length := by omega
        have HA : Hid (atD L s = -1) := by
          refine Lib.hid (atD_none HR.out ?_)
          unfold fnd
          rw [List.find?_eq_none]
          intro n hn2
          obtain ⟨j, hj, rfl⟩ := List.getElem_of_mem hn2
          have e : L[j] = L.getD j default := by simp [List.getD, hj]
          rw [e]
          simpa using HF.out j hj
        have hlt' : decide ((L.length : Int) < (L.length : Int)) = false := by simp
        clear hlt HF
        go_wp2
        go_ret
        exact ⟨by rw [HA.out]; rfl, rfl⟩
end Go.Proofs.YtahdmkmefeocmaaGreatDoor
namespace Go.Proofs.YtahdmkmefeocmaaGreatDoor
open Go.RowKit Go.Lib
open Go.ChangeMaps (setBlock)

theorem ref_join_take {w : World} {a : Option Addr} {c : Nat} {P : List ByteArray} (hS : SlS w a P) (hc : P.length ≤ c) (hp : PathOk P) {k : Nat} (hk : k ≤ P.length) :
    Calls Tryz.prog 36 #[.slice a k c] w fun e w' => e = .returned (.string (pjoin (P.take k))) ∧ w' = w := by
  have hs := (hp.take k).short
  have hl : (joinTail [47] (raws (P.take k))).length ≤ 100000 := by
    by_cases h0 : P.take k = []
    · rw [h0]; decide
    · rw [size_eq, pjoin_tail h0] at hs; omega
  have h := ref_join (P.take k) a c w (hS.take k) (by rw [List.length_take]; omega) (by have := hp.few; rw [List.length_take]; omega) hl
  rw [List.length_take, Nat.min_eq_left hk] at h
  exact h
set_option maxRecDepth 100000 in
set_option maxHeartbeats 4000000 in
theorem doc_look (s : ByteArray) (w : World) (hs : s.size ≤ maxLen) {td : Nat} {T : TS} (hT : DocP w td T) (hn : T.L.length ≤ 1000000) {i0 : Int} {d0 : Bool} {x0 : Int} (hl : lookS (fnd · T.L) s = (i0, d0, x0)) :
    Calls Tryz.prog 16 #[.pointer (some ⟨td, 0, none⟩), .string s] w fun e w' => e = .returned (.tuple #[.int .i64 i0, .bool d0, .int .i64 x0]) ∧ Below w.heap.size w w' := by
  have HSp := Lib.hid (ref_split s w hs)
  have HT := Lib.hid hT
  clear hT
  unfold lookS at hl
  cases hx : psplit s with
  | none =>
    rw [hx] at hl
    have HR := Lib.hid (show ((0 : Int), false, (3 : Int)) = (i0, d0, x0) from hl)
    have HX := Lib.hid hx
    clear hx hl
    go_enter Tryz.func16, Tryz.ntmps16
    go_wp2_with fail
    refine HSp.out.mono ?_
    intro e w1 hr
    obtain ⟨rfl, hB1⟩ := rsplitAns_none HX.out hr
    clear hr
    go_wp2_with fail
    go_ret3
    exact ⟨by obtain ⟨h1, h2⟩ := Prod.mk.inj HR.out; obtain ⟨h2, h3⟩ := Prod.mk.inj h2; subst h1; subst h2; subst h3; rfl, hB1⟩
  | some P =>
    rw [hx] at hl
    have HX := Lib.hid hx
    have hl : lookFrom (fnd · T.L) [] P 0 true = (i0, d0, x0) := hl
    have HL := Lib.hid hl
    have hP := (psplit_ok hx).1
    have h8 := hP.few
    have HP := Lib.hid hP
    clear hx hl hP
    go_enter Tryz.func16, Tryz.ntmps16
    go_wp2_with fail
    refine HSp.out.mono ?_
    intro e w1 hr
    obtain ⟨a1, c1, rfl, hc1, hS1, hB1⟩ := rsplitAns_some HX.out hr
    clear hr
    have HB1 := Lib.hid hB1
    have HS1 := Lib.hid hS1
    clear hB1 hS1
    go_wp2
    go_loopw [9, 10, 11] (fun vi vd i wr => ∃ (k : Nat) (id : Int) (dir : Bool), k ≤ P.length ∧ vi = .int .i64 id ∧ vd = .bool dir ∧ i = .int .i64 (k : Int) ∧ Hid (Below w1.heap.size w1 wr) ∧ Hid (lookFrom (fnd · T.L) (P.take k) (P.drop k) id dir = (i0, d0, x0))) (fun _ _ i _ => P.length - (intOf i).toNat)
    case atStart => exact ⟨0, 0, true, by omega, rfl, rfl, rfl, Lib.hid (Below.refl _ _), Lib.hid HL.out⟩
    case round =>
      obtain ⟨k, id, dir, hk, rfl, rfl, rfl, HB, HF⟩ := hrel
      by_cases hlt : k < P.length
      · have hstep := lookFrom_step (fnd · T.L) P k hlt id dir
        have hki : (k : Int) < (P.length : Int) := by omega
        cases dir with
        | false =>
          have HR := Lib.hid (hstep.symm.trans HF.out)
          clear hstep
          go_wp2_with fail
          go_ret3
          exact ⟨by obtain ⟨h1, h2⟩ := Prod.mk.inj HR.out; obtain ⟨h2, h3⟩ := Prod.mk.inj h2; subst h1; subst h2; subst h3; rfl, blw HB1.out HB.out⟩
        | true =>
          have hstep := hstep.symm.trans HF.out
          rw [if_neg (by decide)] at hstep
          have hj := ref_join_take (HS1.out.below HB.out) hc1 HP.out (k := k + 1) (by omega)
          have hTr := HT.out.below (blw HB1.out HB.out)
          have hat := doc_at (pjoin (P.take (k + 1))) wr hTr hn
          have hne : pjoin (P.take (k + 1)) ≠ rootP := by
            intro e
            have h1 := pjoin_ne (L := P.take (k + 1)) (HP.out.take _).names (by intro e; have := congrArg List.length e; rw [List.length_take, List.length_nil] at this; omega)
            rw [e, show rootP.toList = [47] by rw [toList_data]; rfl] at h1
            exact absurd h1 (by decide)
          have v4 : (k : Int) + 1 ≤ (c1 : Int) := by omega
          have HTr := Lib.hid hTr
          clear hTr
          cases hfd : fnd (pjoin (P.take (k + 1))) T.L with
          | none =>
            have HR := Lib.hid (show ((0 : Int), false, (4 : Int)) = (i0, d0, x0) by rw [← hstep]; simp only [hfd])
            rw [atD_none hne hfd] at hat
            have HJ := Lib.hid hj
            have HAt := Lib.hid hat
            clear hstep hfd hne hj hat
            go_wp2_with fail
            with_reducible refine Calls.mono HJ.out ?_
            rintro e wr ⟨rfl, rfl⟩
            go_wp2_with fail
            with_reducible refine Calls.mono HAt.out ?_
            rintro e wr ⟨rfl, rfl⟩
            go_wp2
            go_ret3
            exact ⟨by obtain ⟨h1, h2⟩ := Prod.mk.inj HR.out; obtain ⟨h2, h3⟩ := Prod.mk.inj h2; subst h1; subst h2; subst h3; rfl, blw HB1.out HB.out⟩
          | some nd =>
            have HR := Lib.hid (show lookFrom (fnd · T.L) (P.take (k + 1)) (P.drop (k + 1)) nd.id nd.dir = (i0, d0, x0) by rw [← hstep]; simp only [hfd])
            obtain ⟨q, hq, hqa, hqd, _⟩ := atD_some hne hfd
            rw [hqa] at hat
            have HJ := Lib.hid hj
            have HAt := Lib.hid hat
            obtain ⟨a, c, t1, t2, t3⟩ := HTr.out.ex
            obtain ⟨b, o, rfl, _, p1, p2, _⟩ := t3.at_ hq
            rw [hqd] at p1 p2
            have c0 : wr.cell? ⟨td, 0, none⟩ = some (.slice (some ⟨b, o, none⟩) T.L.length c) := by unfold World.cell?; rw [t1]; rfl
            have hq0 : (0 : Int) ≤ (q : Int) := Int.natCast_nonneg _
            have hq1 : (q : Int) < (T.L.length : Int) := by omega
            have hq2 : ¬ (q : Int) < 0 := by omega
            obtain ⟨np, ni, ndr⟩ := nd
            dsimp only at p1 p2
            clear hstep hfd hne hj hat t1 t3 hqa hqd
            go_wp2_with fail
            with_reducible refine Calls.mono HJ.out ?_
            rintro e wr ⟨rfl, rfl⟩
            go_wp2_with fail
            with_reducible refine Calls.mono HAt.out ?_
            rintro e wr ⟨rfl, rfl⟩
            go_upto_region 13 with (fail)
            go_quiet (fail)
            go_wp2
            exact ⟨⟨k + 1, ni, ndr, by omega, rfl, rfl, by go_num, Lib.hid (below_drewN HB.out _), HR⟩, by simp [intOf]; omega⟩
      · obtain rfl : k = P.length := by omega
        have hR := HF.out
        rw [List.drop_length] at hR
        have HR := Lib.hid (show (id, dir, (0 : Int)) = (i0, d0, x0) from hR)
        have hlt' : decide ((P.length : Int) < (P.length : Int)) = false := by simp
        clear hR hlt HF
        go_wp2
        go_ret3
        exact ⟨by obtain ⟨h1, h2⟩ := Prod.mk.inj HR.out; obtain ⟨h2, h3⟩ := Prod.mk.inj h2; subst h1; subst h2; subst h3; rfl, blw HB1.out HB.out⟩
end Go.Proofs.YtahdmkmefeocmaaGreatDoor
namespace Go.Proofs.YtahdmkmefeocmaaGreatDoor
open Go.RowKit Go.Lib
open Go.ChangeMaps (setBlock)

set_option maxRecDepth 100000 in
set_option maxHeartbeats 4000000 in
theorem doc_parent (s : ByteArray) (w : World) (hs : s.size ≤ maxLen) {P : List ByteArray} (hP : psplit s = some P) (h0 : P ≠ []) :
    Calls Tryz.prog 41 #[.string s] w fun e w' => e = .returned (.string (pjoin P.dropLast)) ∧ Below w.heap.size w w' := by
  have HSp := Lib.hid (ref_split s w hs)
  have HX := Lib.hid hP
  have hok := (psplit_ok hP).1
  have h8 := hok.few
  have HP := Lib.hid hok
  have hpos : 0 < P.length := List.length_pos_iff.2 h0
  have HDl := Lib.hid (show P.take (P.length - 1) = P.dropLast from List.dropLast_eq_take.symm)
  have v1 : IntKind.i64.wrap ((P.length : Int) - 1) = (P.length : Int) - 1 := IntWalk.i64_in _ (by omega)
  have v2 : ((P.length : Int) - 1).toNat = P.length - 1 := by omega
  have v3 : (0 : Int) ≤ (P.length : Int) - 1 := by omega
  clear hP h0 hok
  go_enter Tryz.func41, Tryz.ntmps41
  go_wp2_with fail
  refine HSp.out.mono ?_
  intro e w1 hr
  obtain ⟨a1, c1, rfl, hc1, hS1, hB1⟩ := rsplitAns_some HX.out hr
  clear hr
  have hj := ref_join_take hS1 hc1 HP.out (k := P.length - 1) (by omega)
  rw [HDl.out] at hj
  have HJ := Lib.hid hj
  have v4 : (P.length : Int) - 1 ≤ (c1 : Int) := by omega
  clear hj hS1
  go_wp2_with fail
  with_reducible refine Calls.mono HJ.out ?_
  rintro e w1 ⟨rfl, rfl⟩
  go_wp2
  go_ret
  exact ⟨rfl, hB1⟩
set_option maxRecDepth 100000 in
set_option maxHeartbeats 4000000 in
theorem doc_ahead (s : ByteArray) (w : World) (hs : s.size ≤ maxLen) {td : Nat} {T : TS} (hT : DocP w td T) (hn : T.L.length ≤ 1000000) {P : List ByteArray} (hP : psplit s = some P) {x : Int} (hx : aheadS (fnd · T.L) P = x) :
    Calls Tryz.prog 47 #[.pointer (some ⟨td, 0, none⟩), .string s] w fun e w' => e = .returned (.int .i64 x) ∧ Below w.heap.size w w' := by
  have hroot := beq_bytes s rootP
  rw [show rootP.toList = [47] by rw [toList_data]; rfl, root_split hP] at hroot
  by_cases h0 : P = []
  · subst h0
    have HR := Lib.hid (show (0 : Int) = x from hx)
    have hroot : (s.toList == [47]) = true := hroot
    clear hT hP hx
    go_enter Tryz.func47, Tryz.ntmps47
    go_wp2
    go_ret
    exact ⟨by rw [← HR.out]; rfl, Below.refl _ _⟩
  · have he : P.isEmpty = false := by cases P; exact absurd rfl h0; rfl
    rw [he] at hroot
    obtain ⟨i, d, x1, hl⟩ : ∃ i d x1, lookS (fnd · T.L) (pjoin P.dropLast) = (i, d, x1) := ⟨_, _, _, rfl⟩
    have hr0 : (if x1 = 0 then (if d then (0 : Int) else 7) else x1) = x := by
      unfold aheadS at hx
      rw [he, hl] at hx
      simpa using hx
    have HPa := Lib.hid (doc_parent s w hs hP h0)
    have hsz := (psplit_ok hP).1.dropLast.short
    have HLk : Hid (∀ W, Below w.heap.size w W → Calls Tryz.prog 16 #[.pointer (some ⟨td, 0, none⟩), .string (pjoin P.dropLast)] W fun e w' => e = .returned (.tuple #[.int .i64 i, .bool d, .int .i64 x1]) ∧ Below W.heap.size W w') := fun W h => doc_look _ W (by unfold maxLen; omega) (hT.below h) hn hl
    clear hT hP hx hl he h0 hsz
    by_cases hx1 : x1 = 0
    · subst hx1
      cases d
      all_goals
        have HR := Lib.hid hr0
        go_enter Tryz.func47, Tryz.ntmps47
        go_wp2_with fail
        refine HPa.out.mono ?_
        rintro e w1 ⟨rfl, hB1⟩
        go_wp2_with fail
        refine (HLk.out _ hB1).mono ?_
        rintro e w2 ⟨rfl, hB2⟩
        go_wp2
        go_ret
        exact ⟨by rw [← HR.out]; rfl, blw hB1 hB2⟩
    · have hx2 : (x1 == 0) = false := by rw [beq_eq_false_iff_ne]; exact hx1
      have HR := Lib.hid (show x1 = x by rw [if_neg hx1] at hr0; exact hr0)
      clear hx1 hr0
      go_enter Tryz.func47, Tryz.ntmps47
      go_wp2_with fail
      refine HPa.out.mono ?_
      rintro e w1 ⟨rfl, hB1⟩
      go_wp2_with fail
      refine (HLk.out _ hB1).mono ?_
      rintro e w2 ⟨rfl, hB2⟩
      go_wp2
      go_ret
      exact ⟨by rw [← HR.out]; rfl, blw hB1 hB2⟩
end Go.Proofs.YtahdmkmefeocmaaGreatDoor
namespace Go.Proofs.YtahdmkmefeocmaaGreatDoor
open Go.RowKit Go.Lib
open Go.ChangeMaps (setBlock)

theorem info_rnd : (Tryz.prog.info? 53).map (fun i => (i.zero, i.size, i.bytes)) = some (some (.agg #[.string ⟨#[]⟩, .int .i64 0, .bool false]), 3, 32) := by kernel_rfl
theorem own_below_any {w w' : World} {base : Nat} {e : TypeId} {size : Nat} {v : Value} {n : Nat} {xs : List Value} (h : w.ownsRow base e size v n xs) (hb : Below w.heap.size w w') : w'.ownsRow base e size v n xs := by
  refine ⟨h.1, ?_⟩
  rcases h.2 with h2 | ⟨g, cap, cur, e1, h1, hg, h3⟩
  · exact .inl h2
  · exact .inr ⟨g, cap, cur, e1, h1, (hb.block g (Array.getElem?_eq_some_iff.1 hg).1).trans hg, h3⟩
theorem own_base {w : World} {base : Nat} {e : TypeId} {a : Option Addr} {n c size : Nat} {xs : List Value} (h : w.ownsRow base e size (.slice a n c) n xs) : ∀ b o, a = some ⟨b, o, none⟩ → base ≤ b := by
  intro b o e1
  subst e1
  rcases h.2 with ⟨he, _⟩ | ⟨g', _, _, he, hb, _⟩
  · cases he
  · cases he; exact hb
theorem sln_set {w : World} {a : Option Addr} {L : List Nd} {t base : Nat} (h : SlN w a L) (hb : ∀ b o, a = some ⟨b, o, none⟩ → base ≤ b) (ht : t < base) {v : Value} : SlN (w.setCell ⟨t, 0, none⟩ v) a L := by
  rcases h with h | ⟨b, o, e, hr⟩
  · exact .inl h
  · have hn := hb b o e
    exact .inr ⟨b, o, e, hr.turn (bs := [t]) ((Turn.refl _ _).setCell (p := ⟨t, 0, none⟩) (.inl (by simp)) _) (by simp; omega)⟩
def keepB (s : ByteArray) (n : Nd) : Bool := !decide (n.path = s)
theorem take_keep {L : List Nd} {k : Nat} (hk : k < L.length) (p : Nd → Bool) : (L.take (k + 1)).filter p = (L.take k).filter p ++ (if p (L.getD k default) then [L.getD k default] else []) := by
  have e : L.take (k + 1) = L.take k ++ [L.getD k default] := by
    rw [List.take_succ_eq_append_getElem hk]
    congr 2
    simp [List.getD, hk]
  rw [e, List.filter_append, List.filter_cons, List.filter_nil]
set_option maxRecDepth 100000 in
set_option maxHeartbeats 8000000 in
theorem doc_drop_loop (s : ByteArray) (dir : Bool) (w : World) (hs : s.size ≤ 100000) {td : Nat} {T : TS} (hT : DocP w td T) (hI : TInv T) {n0 : Nd} (h0 : fnd s T.L = some n0) (hl : lookS (fnd · T.L) s = (n0.id, n0.dir, 0)) (hd : n0.dir = dir) {X : List ByteArray} (hX : psplit s = some X)  (hXn : X ≠ []) :
    Calls Tryz.prog 27 #[.pointer (some ⟨td, 0, none⟩), .string s, .bool dir] w fun e w' => e = .returned (.tuple #[.int .i64 (dropS T s dir).2.1, .int .i64 (dropS T s dir).2.2]) ∧ DocP w' td (dropS T s dir).1 ∧ Turn [td] w w' := by
  have hdrop : dropS T s dir = if T.L.any (fun n => punder n.path s) then (T, 0, 8) else (⟨T.L.filter (keepB s), T.nx⟩, n0.id, 0) := by
    unfold dropS canDropS
    rw [hl]
    dsimp only
    rw [if_pos rfl, hd, root_split hX, show X.isEmpty = false by simpa using hXn, Bool.false_or]
    cases T.L.any (fun n => punder n.path s) <;> cases dir <;> rfl
  obtain ⟨R, hR⟩ : ∃ R, dropS T s dir = R := ⟨_, rfl⟩
  rw [hR] at hdrop ⊢
  have HDr := Lib.hid hdrop
  have hid : ∀ n ∈ T.L, decide (n.id = n0.id) = decide (n.path = s) := fun n hn => doc_drops hI h0 hn
  have hid1 := (hI.ids n0 (fnd_some h0).1).1
  have HLk := Lib.hid (doc_look s w (by unfold maxLen; omega) hT (by have := hI.few; omega) hl)
  have HPs := Lib.hid (path_size hI)
  have hfew := hI.few
  have htd : td < w.heap.size := by obtain ⟨a, c, h1, _⟩ := hT.ex; exact (Array.getElem?_eq_some_iff.1 h1).1
  have HT := Lib.hid hT
  have HId := Lib.hid hid
  obtain ⟨i0, hi, hz0, hz1, hz2⟩ := info_parts info_rnd
  obtain ⟨np0, q, d0⟩ := n0
  have hd : d0 = dir := hd
  subst hd
  have hq0 : (q == 0) = false := by rw [beq_eq_false_iff_ne]; dsimp only at hid1; omega
  have HLk : Hid (Calls Tryz.prog 16 #[.pointer (some ⟨td, 0, none⟩), .string s] w fun e w' => e = .returned (.tuple #[.int .i64 q, .bool d0, .int .i64 0]) ∧ Below w.heap.size w w') := HLk
  have HId : Hid (∀ n ∈ T.L, decide (n.id = q) = decide (n.path = s)) := HId
  clear hT hI h0 hl hX hXn hdrop hid hid1 hR
  cases d0
  all_goals
    go_enter Tryz.func27, Tryz.ntmps27
    go_wp2_with fail
    refine HLk.out.mono ?_
    rintro e w1 ⟨rfl, hB1⟩
    have HB1 := Lib.hid hB1
    clear hB1
    go_wp2
    go_loopw [11, 12] (fun v i wr => ∃ (k : Nat) (sv : Value), k ≤ T.L.length ∧ v = sv ∧ i = .int .i64 (k : Int) ∧ Hid (wr.ownsRow w.heap.size 53 3 sv ((T.L.take k).filter (keepB s)).length (cellsN ((T.L.take k).filter (keepB s)))) ∧ Hid (Below w.heap.size w wr) ∧ Hid (∀ j, j < k → punder (T.L.getD j default).path s = false)) (fun _ i _ => T.L.length - (intOf i).toNat)
    case atStart => exact ⟨0, _, by omega, rfl, rfl, Lib.hid (World.ownsRow_nil _ _ _ _), HB1, Lib.hid fun j hj => by omega⟩
    case round =>
      obtain ⟨k, sv, hk, hsv, rfl, HO, HB, HF⟩ := hrel
      have hsv' := hsv.symm
      subst hsv'
      by_cases hlt : k < T.L.length
      · obtain ⟨a, c, t1, t2, t3⟩ := (HT.out.below HB.out).ex
        have c0 : wr.cell? ⟨td, 0, none⟩ = some (.slice a T.L.length c) := by unfold World.cell?; rw [t1]; rfl
        obtain ⟨b, o, rfl, p0, p1, p2, hbl⟩ := t3.at_ hlt
        have hki : (k : Int) < (T.L.length : Int) := by omega
        have hkc : (k : Int) < (c : Int) := by omega
        have hmem : T.L.getD k default ∈ T.L := by simp [List.getD, hlt]
        have hpsz := HPs.out _ hmem
        have hidk := HId.out _ hmem
        have htk := take_keep hlt (keepB s)
        generalize hnd : T.L.getD k default = n at *
        have HNd := Lib.hid hnd
        obtain ⟨np, ni, nd⟩ := n
        dsimp only at p0 p1 p2 hpsz hidk
        have hud := ref_under np s wr (by unfold maxLen; omega) (by unfold maxLen; omega)
        have HTk := Lib.hid htk
        have htl := Nat.lt_of_lt_of_le htd HB.out.size
        have hul : ((T.L.take k).filter (keepB s)).length ≤ 64 := Nat.le_trans (List.length_filter_le _ _) (by rw [List.length_take]; omega)
        clear htk hmem hnd t1 t3
        cases hu : punder np s
        · rw [hu] at hud
          have HUd := Lib.hid hud
          have HF2 : Hid (∀ j, j < k + 1 → punder (T.L.getD j default).path s = false) := fun j hj => by
            by_cases e : j = k
            · subst e; rw [HNd.out]; exact hu
            · exact HF.out j (by omega)
          clear hud hu HF
          by_cases hp : np = s
          · have hq1 : ni = q := by simpa [hp] using hidk
            have hqn : (ni != q) = false := by rw [hq1]; simp
            have HK2 : Hid ((T.L.take (k + 1)).filter (keepB s) = (T.L.take k).filter (keepB s)) := by
              refine Lib.hid ?_
              rw [HTk.out]
              unfold keepB
              simp [hp]
            clear hidk hp hq1
            go_wp2_with fail
            with_reducible refine Calls.mono HUd.out ?_
            rintro e w3 ⟨rfl, hB3⟩
            have c3 := (World.cell?_of_block (hB3.block td htl) : w3.cell? ⟨td, 0, none⟩ = _).trans c0
            have p13 := (World.cell?_of_block (hB3.block b hbl) : w3.cell? ⟨b, o + k * 3 + 1, none⟩ = _).trans p1
            have HO3 := Lib.hid (own_below_any HO.out hB3)
            have HB3 := Lib.hid (blw HB.out hB3)
            clear hB3 c0 p0 p1 p2
            go_wp2
            exact ⟨⟨k + 1, sv, by omega, rfl, by go_num, by rw [HK2.out]; exact HO3, HB3, HF2⟩, by simp [intOf]; omega⟩
          · have hq1 : ni ≠ q := by simpa [hp] using hidk
            have hqn : (ni != q) = true := by simpa using hq1
            have HK2 : Hid ((T.L.take (k + 1)).filter (keepB s) = (T.L.take k).filter (keepB s) ++ [⟨np, ni, nd⟩]) := by
              refine Lib.hid ?_
              rw [HTk.out]
              unfold keepB
              simp [hp]
            clear hidk hp hq1
            go_wp2_with fail
            with_reducible refine Calls.mono HUd.out ?_
            rintro e W ⟨rfl, hB3⟩
            have c3 := (World.cell?_of_block (hB3.block td htl) : W.cell? ⟨td, 0, none⟩ = _).trans c0
            have p03 := (World.cell?_of_block (hB3.block b hbl) : W.cell? ⟨b, o + k * 3, none⟩ = _).trans p0
            have p13 := (World.cell?_of_block (hB3.block b hbl) : W.cell? ⟨b, o + k * 3 + 1, none⟩ = _).trans p1
            have p23 := (World.cell?_of_block (hB3.block b hbl) : W.cell? ⟨b, o + k * 3 + 2, none⟩ = _).trans p2
            have HO3 := Lib.hid (own_below_any HO.out hB3)
            have HB3 := Lib.hid (blw HB.out hB3)
            clear hB3 c0 p0 p1 p2
            go_wp2_with (at_builtin; refine wpList_append_own _ rfl (.tmp 68) (.tmp 76) 28 rfl w.heap.size 53 i0 _ 3 32 Tryz.underlying28 hi hz0 hz1 hz2 rfl (by decide) _ _ _ rfl (HO3.out.alloc _) ⟨W.heap.size, 0, none⟩ 1 1 [.string np, .int .i64 ni, .bool nd] rfl rfl (new3b _ _ _ _ _ _ rfl) (by intro u hu; simp at hu; rcases hu with rfl | rfl | rfl <;> rfl) (by unfold maxLen; omega) (by omega) (by have := HB3.out.size; simp; omega) ?_; intro v' w3 hown' hgrow hnil; clear hnil; have HO2 := Lib.hid hown'; have HG := Lib.hid hgrow; clear hown' hgrow)
            refine ⟨⟨k + 1, v', by omega, rfl, by go_num, ?_, ?_, HF2⟩, by simp [intOf]; omega⟩
            · have := HO2.out
              rw [HK2.out, cellsN_snoc, List.length_append, List.length_singleton]
              exact Lib.hid this
            · exact Lib.hid (grown_below (HB3.out.alloc HB3.out.size _) (by have := HB3.out.size; simp; omega) (HO3.out.alloc _) HG.out)
        · rw [hu] at hud
          have HUd := Lib.hid hud
          have HAny : Hid (T.L.any (fun n => punder n.path s) = true) := Lib.hid (List.any_eq_true.2 ⟨⟨np, ni, nd⟩, by rw [← HNd.out]; simp [List.getD, hlt], hu⟩)
          clear hud hu HF hidk
          go_wp2_with fail
          with_reducible refine Calls.mono HUd.out ?_
          rintro e w3 ⟨rfl, hB3⟩
          have HB3 := Lib.hid (blw HB.out hB3)
          clear hB3
          go_wp2
          go_ret2
          have hR : R = (T, 0, 8) := by rw [HDr.out, HAny.out]; rfl
          subst hR
          exact ⟨rfl, HT.out.below HB3.out, .of_below HB3.out⟩
      · obtain rfl : k = T.L.length := by omega
        have HNo : Hid (T.L.any (fun n => punder n.path s) = false) := Lib.hid (by
          rw [List.any_eq_false]
          intro n hn
          obtain ⟨j, hj, rfl⟩ := List.getElem_of_mem hn
          have e : T.L[j] = T.L.getD j default := by simp [List.getD, hj]
          rw [e, HF.out j hj]; decide)
        obtain ⟨a, c, t1, t2, t3⟩ := (HT.out.below HB.out).ex
        have c0 : wr.cell? ⟨td, 0, none⟩ = some (.slice a T.L.length c) := by unfold World.cell?; rw [t1]; rfl
        have f0 : wr.frozen? ⟨td, 0, none⟩ = false := by unfold World.frozen?; rw [t1]; simp
        have HT1 := Lib.hid t1
        have ho := HO.out
        rw [List.take_length] at ho
        obtain ⟨a2, c2, rfl, hc2, hS2⟩ := SlN.own ho
        have HS2 := Lib.hid hS2
        have hbase := Lib.hid (own_base ho)
        have hlt' : decide ((T.L.length : Int) < (T.L.length : Int)) = false := by simp
        clear hlt HF t1 t3 ho hS2
        go_wp2
        go_ret2
        have hR : R = (⟨T.L.filter (keepB s), T.nx⟩, q, 0) := by rw [HDr.out, HNo.out]; rfl
        subst hR
        refine ⟨rfl, DocP.mk2 (heap_setCell_at HT1.out 0 _) hc2 ?_ (fun b o e => Nat.lt_of_lt_of_le htd (hbase.out b o e)), (Turn.of_below HB.out).setCell (p := ⟨td, 0, none⟩) (.inl (by simp)) _⟩
        exact sln_set HS2.out (fun b o e => hbase.out b o e) htd
set_option maxRecDepth 100000 in
set_option maxHeartbeats 8000000 in
theorem doc_drop (s : ByteArray) (dir : Bool) (w : World) (hs : s.size ≤ 100000) {td : Nat} {T : TS} (hT : DocP w td T) (hI : TInv T) :
    Calls Tryz.prog 27 #[.pointer (some ⟨td, 0, none⟩), .string s, .bool dir] w fun e w' => e = .returned (.tuple #[.int .i64 (dropS T s dir).2.1, .int .i64 (dropS T s dir).2.2]) ∧ DocP w' td (dropS T s dir).1 ∧ Turn [td] w w' := by
  obtain ⟨i0, d0, x0, hl⟩ : ∃ i d x, lookS (fnd · T.L) s = (i, d, x) := ⟨_, _, _, rfl⟩
  have hlk := doc_look s w (by unfold maxLen; omega) hT (by have := hI.few; omega) hl
  have HT := Lib.hid hT
  by_cases h0 : x0 = 0
  · subst h0
    obtain ⟨X, hX, hor⟩ := lookS_ok hl
    have hgo : (d0 = dir → ¬ X = [] → Calls Tryz.prog 27 #[.pointer (some ⟨td, 0, none⟩), .string s, .bool dir] w fun e w' => e = .returned (.tuple #[.int .i64 (dropS T s dir).2.1, .int .i64 (dropS T s dir).2.2]) ∧ DocP w' td (dropS T s dir).1 ∧ Turn [td] w w') := fun hd hXn => by
      rcases hor with ⟨h1, _⟩ | ⟨_, n, h2, h3, h4⟩
      · exact absurd h1 hXn
      · subst h3
        subst h4
        exact doc_drop_loop s dir w hs hT hI h2 hl hd hX hXn
    by_cases hd : d0 = dir
    · by_cases hXn : X = []
      · have h5 : i0 = 0 ∧ d0 = true := by
          rcases hor with ⟨_, h1⟩ | ⟨h1, _⟩
          · exact h1
          · exact absurd hXn h1
        obtain ⟨rfl, rfl⟩ := h5
        subst hd
        have hdr : dropS T s true = (T, 0, 8) := by
          unfold dropS canDropS
          rw [hl, root_split hX, hXn]
          rfl
        rw [hdr]
        clear hT hI hl hX hor hgo hXn hdr
        go_enter Tryz.func27, Tryz.ntmps27
        go_wp2_with fail
        refine hlk.mono ?_
        rintro e w1 ⟨rfl, hB1⟩
        go_wp2
        go_ret2
        exact ⟨rfl, HT.out.below hB1, .of_below hB1⟩
      · exact hgo hd hXn
    · have hdr : dropS T s dir = (T, 0, if d0 then 6 else 7) := by
        unfold dropS canDropS
        rw [hl]
        cases d0 <;> cases dir
        · exact absurd rfl hd
        · rfl
        · rfl
        · exact absurd rfl hd
      rw [hdr]
      clear hT hI hl hX hor hgo hdr
      cases d0 <;> cases dir
      · exact absurd rfl hd
      all_goals first
        | (exact absurd rfl hd)
        | (clear hd
           go_enter Tryz.func27, Tryz.ntmps27
           go_wp2_with fail
           refine hlk.mono ?_
           rintro e w1 ⟨rfl, hB1⟩
           go_wp2
           go_ret2
           exact ⟨rfl, HT.out.below hB1, .of_below hB1⟩)
  · have hdr : dropS T s dir = (T, 0, x0) := by
      have hc : canDropS T.L s dir = x0 := by unfold canDropS; rw [hl]; dsimp only; rw [if_neg h0]
      unfold dropS
      rw [hc, if_neg h0]
    rw [hdr]
    have h1 : (x0 == 0) = false := by rw [beq_eq_false_iff_ne]; exact h0
    have h2 : (x0 != 0) = true := by simpa using h0
    clear hT hI hl hdr h0
    go_enter Tryz.func27, Tryz.ntmps27
    go_wp2_with fail
    refine hlk.mono ?_
    rintro e w1 ⟨rfl, hB1⟩
    go_wp2
    go_ret2
    exact ⟨rfl, HT.out.below hB1, .of_below hB1⟩
end Go.Proofs.YtahdmkmefeocmaaGreatDoor
