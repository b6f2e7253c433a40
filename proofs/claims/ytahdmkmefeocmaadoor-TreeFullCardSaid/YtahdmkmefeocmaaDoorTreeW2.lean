/- Walks of package tree: parent, Can, Make, Len, Next. -/
import Derived.Test.YtahdmkmefeocmaaDoorTreeW
namespace Go.Proofs.YtahdmkmefeocmaaDoor
open Go.RowKit Go.Lib
open Go.ChangeMaps (setBlock)

set_option maxRecDepth 100000 in
set_option maxHeartbeats 2000000 in
theorem tree_parent (s : ByteArray) (w : World) (hs : s.size ≤ maxLen) {tb mb : Nat} {T : TS} (hT : TreeP w tb mb T) (ha : Apart T.L) (hm : MLen w) {x : Int} (hx0 : parentS (fnd · T.L) s = x) :
    Calls Tryd.prog 28 #[.pointer (some ⟨tb, 0, none⟩), .string s] w fun e w' => e = .returned (.int .i64 x) ∧ Below w.heap.size w w' := by
  have HSp := Lib.hid (path_split s w hs hm)
  have HL : Hid (∀ W (p : ByteArray) {i0 : Int} {d0 : Bool} {x0 : Int}, Below w.heap.size w W → p.size ≤ maxLen → lookS (fnd · T.L) p = (i0, d0, x0) → Calls Tryd.prog 16 #[.pointer (some ⟨tb, 0, none⟩), .string p] W fun e w' => e = .returned (.tuple #[.int .i64 i0, .bool d0, .int .i64 x0]) ∧ Below W.heap.size W w') :=
    fun W p _ _ _ h hp hl => tree_look p W hp (hT.below h) ha (hm.below h) hl
  clear hT ha hm
  unfold parentS at hx0
  cases hx : psplit s with
  | none =>
    rw [hx] at hx0
    have HX := Lib.hid hx
    have HR := Lib.hid (show (3 : Int) = x from hx0)
    clear hx hx0
    go_enter Tryd.func28, Tryd.ntmps28
    go_wp2_with fail
    refine HSp.out.mono ?_
    intro e w1 hr
    obtain ⟨rfl, hB1⟩ := splitAns_none HX.out hr
    clear hr
    go_wp2_with fail
    go_ret
    exact ⟨by rw [← HR.out]; rfl, hB1⟩
  | some P =>
    rw [hx] at hx0
    have hx0 : aheadS (fnd · T.L) P = x := hx0
    have HX := Lib.hid hx
    have hP := (psplit_ok hx).1
    have h8 := hP.few
    have HP := Lib.hid hP
    clear hx hP
    by_cases h0 : P = []
    · subst h0
      have HR := Lib.hid (show (0 : Int) = x from hx0)
      clear hx0
      go_enter Tryd.func28, Tryd.ntmps28
      go_wp2_with fail
      refine HSp.out.mono ?_
      intro e w1 hr
      obtain ⟨a1, c1, rfl, hc1, hS1, hB1⟩ := splitAns_some HX.out hr
      clear hr
      go_wp2_with fail
      go_ret
      exact ⟨by rw [← HR.out]; rfl, hB1⟩
    · have hpos : 0 < P.length := List.length_pos_iff.2 h0
      have he : P.isEmpty = false := by cases P; exact absurd rfl h0; rfl
      obtain ⟨i, d, x1, hl⟩ : ∃ i d x1, lookS (fnd · T.L) (pjoin P.dropLast) = (i, d, x1) := ⟨_, _, _, rfl⟩
      have hr0 : (if x1 = 0 then (if d then (0 : Int) else 7) else x1) = x := by
        unfold aheadS at hx0
        rw [he, hl] at hx0
        simpa using hx0
      have HLk := Lib.hid hl
      have HR := Lib.hid hr0
      have d0 : ((P.length : Int) == 0) = false := by rw [beq_eq_false_iff_ne]; omega
      have v1 : IntKind.i64.wrap ((P.length : Int) - 1) = (P.length : Int) - 1 := IntWalk.i64_in _ (by omega)
      have v2 : ((P.length : Int) - 1).toNat = P.length - 1 := by omega
      have v3 : (0 : Int) ≤ (P.length : Int) - 1 := by omega
      have hdl : P.take (P.length - 1) = P.dropLast := List.dropLast_eq_take.symm
      have HDl := Lib.hid hdl
      clear hx0 hl hr0 h0 he hdl
      by_cases hx1 : x1 = 0
      · subst hx1
        cases d
        all_goals
          have HR2 := Lib.hid HR.out
          go_enter Tryd.func28, Tryd.ntmps28
          go_wp2_with fail
          refine HSp.out.mono ?_
          intro e w1 hr
          obtain ⟨a1, c1, rfl, hc1, hS1, hB1⟩ := splitAns_some HX.out hr
          clear hr
          have hj := join_take hS1 hc1 HP.out (k := P.length - 1) (by omega)
          rw [HDl.out] at hj
          have v4 : (P.length : Int) - 1 ≤ (c1 : Int) := by omega
          go_wp2_with fail
          refine hj.mono ?_
          rintro e w2 ⟨rfl, hB2⟩
          go_wp2_with fail
          refine (HL.out _ _ (blw hB1 hB2) (by have := HP.out.dropLast.short; unfold maxLen; omega) HLk.out).mono ?_
          rintro e w3 ⟨rfl, hB3⟩
          go_wp2_with fail
          go_ret
          exact ⟨by rw [← HR2.out]; rfl, blw (blw hB1 hB2) hB3⟩
      · have hx2 : (x1 == 0) = false := by rw [beq_eq_false_iff_ne]; exact hx1
        have HR2 := Lib.hid (show x1 = x by have := HR.out; rw [if_neg hx1] at this; exact this)
        clear hx1
        go_enter Tryd.func28, Tryd.ntmps28
        go_wp2_with fail
        refine HSp.out.mono ?_
        intro e w1 hr
        obtain ⟨a1, c1, rfl, hc1, hS1, hB1⟩ := splitAns_some HX.out hr
        clear hr
        have hj := join_take hS1 hc1 HP.out (k := P.length - 1) (by omega)
        rw [HDl.out] at hj
        have v4 : (P.length : Int) - 1 ≤ (c1 : Int) := by omega
        go_wp2_with fail
        refine hj.mono ?_
        rintro e w2 ⟨rfl, hB2⟩
        go_wp2_with fail
        refine (HL.out _ _ (blw hB1 hB2) (by have := HP.out.dropLast.short; unfold maxLen; omega) HLk.out).mono ?_
        rintro e w3 ⟨rfl, hB3⟩
        go_wp2_with fail
        go_ret
        exact ⟨by rw [← HR2.out]; rfl, blw (blw hB1 hB2) hB3⟩

theorem ndV_getD (o : Option Nd) : ∃ p i d, (o.map ndV).getD (.agg #[.string ⟨#[]⟩, .int .i64 0, .bool false]) = .agg #[.string p, .int .i64 i, .bool d] := by
  cases o with
  | none => exact ⟨_, _, _, rfl⟩
  | some n => exact ⟨_, _, _, rfl⟩
theorem beq_root (s : ByteArray) : (s.toList == [47]) = decide (s = rootP) := by
  have h := beq_bytes s rootP
  have e : rootP.toList = [47] := by rw [toList_data]; rfl
  rw [e] at h
  exact h
set_option maxRecDepth 100000 in
set_option maxHeartbeats 2000000 in
theorem tree_can (s : ByteArray) (w : World) (hs : s.size ≤ maxLen) {tb mb : Nat} {T : TS} (hT : TreeP w tb mb T) (ha : Apart T.L) (hm : MLen w) (hn : T.L.length ≤ 1000000) {x : Int} (hx0 : canS T.L s = x) :
    Calls Tryd.prog 18 #[.pointer (some ⟨tb, 0, none⟩), .string s] w fun e w' => e = .returned (.int .i64 x) ∧ Below w.heap.size w w' := by
  obtain ⟨y, hy⟩ : ∃ y, parentS (fnd · T.L) s = y := ⟨_, rfl⟩
  have hpar := tree_parent s w hs hT ha hm hy
  unfold canS at hx0
  rw [hy] at hx0
  have HTW : Hid (∀ W, Below w.heap.size w W → TreeP W tb mb T) := fun W h => hT.below h
  have HA := Lib.hid ha
  clear hT ha hm hy
  by_cases h0 : y = 0
  · subst h0
    rw [if_pos rfl] at hx0
    obtain ⟨p, i, d, hg⟩ := ndV_getD (fnd s T.L)
    have hroot := beq_root s
    cases hf : (fnd s T.L).isSome
    · rw [hf, Bool.false_or] at hx0
      cases hr : decide (s = rootP)
      · rw [hr] at hx0 hroot
        have hx0 : (if 64 ≤ T.L.length then (12 : Int) else 0) = x := by simpa using hx0
        by_cases hl : 64 ≤ T.L.length
        · have d1 : decide ((64 : Int) ≤ (T.L.length : Int)) = true := decide_eq_true (by omega)
          have HR := Lib.hid (show (12 : Int) = x by rw [← hx0, if_pos hl])
          clear hx0
          have HG := Lib.hid hg
          have HF := Lib.hid hf
          clear hg hf hr
          go_enter Tryd.func18, Tryd.ntmps18
          go_wp2_with fail
          refine hpar.mono ?_
          rintro e w1 ⟨rfl, hB1⟩
          have hT1 := HTW.out w1 hB1
          have hlk := hT1.look HA.out s
          rw [HG.out, HF.out] at hlk
          have hc0 := hT1.facts.1
          have htb := hT1.lt.1
          have hlen0 := fun ob (rt : TypeId) => TreeP.len (HTW.out (w1.alloc ob) (hB1.alloc hB1.size _)) rt
          clear hT1
          go_wp2
          go_ret
          exact ⟨by rw [← HR.out]; rfl, by first | exact (hB1.alloc hB1.size _) | exact below_drewN' (hB1.alloc hB1.size _) _⟩
        · have d1 : decide ((64 : Int) ≤ (T.L.length : Int)) = false := decide_eq_false (by omega)
          have HR := Lib.hid (show (0 : Int) = x by rw [← hx0, if_neg hl])
          clear hx0
          have HG := Lib.hid hg
          have HF := Lib.hid hf
          clear hg hf hr
          go_enter Tryd.func18, Tryd.ntmps18
          go_wp2_with fail
          refine hpar.mono ?_
          rintro e w1 ⟨rfl, hB1⟩
          have hT1 := HTW.out w1 hB1
          have hlk := hT1.look HA.out s
          rw [HG.out, HF.out] at hlk
          have hc0 := hT1.facts.1
          have htb := hT1.lt.1
          have hlen0 := fun ob (rt : TypeId) => TreeP.len (HTW.out (w1.alloc ob) (hB1.alloc hB1.size _)) rt
          clear hT1
          go_wp2
          go_ret
          exact ⟨by rw [← HR.out]; rfl, by first | exact (hB1.alloc hB1.size _) | exact below_drewN' (hB1.alloc hB1.size _) _⟩
      · rw [hr] at hx0 hroot
        have HR := Lib.hid (show (5 : Int) = x by rw [← hx0]; rfl)
        have HG := Lib.hid hg
        have HF := Lib.hid hf
        clear hg hf hr hx0
        go_enter Tryd.func18, Tryd.ntmps18
        go_wp2_with fail
        refine hpar.mono ?_
        rintro e w1 ⟨rfl, hB1⟩
        have hT1 := HTW.out w1 hB1
        have hlk := hT1.look HA.out s
        rw [HG.out, HF.out] at hlk
        have hc0 := hT1.facts.1
        clear hT1
        go_wp2
        go_ret
        exact ⟨by rw [← HR.out]; rfl, hB1.alloc hB1.size _⟩
    · rw [hf, Bool.true_or] at hx0
      have HR := Lib.hid (show (5 : Int) = x by rw [← hx0]; rfl)
      have HG := Lib.hid hg
      have HF := Lib.hid hf
      clear hg hf hx0 hroot
      go_enter Tryd.func18, Tryd.ntmps18
      go_wp2_with fail
      refine hpar.mono ?_
      rintro e w1 ⟨rfl, hB1⟩
      have hT1 := HTW.out w1 hB1
      have hlk := hT1.look HA.out s
      rw [HG.out, HF.out] at hlk
      have hc0 := hT1.facts.1
      clear hT1
      go_wp2
      go_ret
      exact ⟨by rw [← HR.out]; rfl, hB1.alloc hB1.size _⟩
  · rw [if_neg h0] at hx0
    have HR := Lib.hid hx0
    have h1 : (y == 0) = false := by rw [beq_eq_false_iff_ne]; exact h0
    clear hx0 h0
    go_enter Tryd.func18, Tryd.ntmps18
    go_wp2_with fail
    refine hpar.mono ?_
    rintro e w1 ⟨rfl, hB1⟩
    go_wp2
    go_ret
    exact ⟨by rw [← HR.out]; rfl, hB1⟩
end Go.Proofs.YtahdmkmefeocmaaDoor
