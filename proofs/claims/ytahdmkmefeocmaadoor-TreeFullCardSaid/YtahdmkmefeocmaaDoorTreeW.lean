/- Walks of package tree: Look. -/
import Derived.Test.YtahdmkmefeocmaaDoorTreeM
import Derived.Deep.RegionHeld3
import Derived.Deep.QuietTactic
import Derived.BigQuiet
import Derived.Outline
import Derived.Deep.Cut
namespace Go.Proofs.YtahdmkmefeocmaaDoor
open Go.RowKit Go.Lib

theorem pathok_join_len {L : List ByteArray} (h : PathOk L) : (join (L.map (·.data.toList)) [47]).length ≤ 281474976710656 := by
  have h1 := h.short
  unfold pjoin at h1
  rw [mkB_size, List.length_cons] at h1
  omega
theorem join_take {w : World} {a : Option Addr} {c : Nat} {P : List ByteArray} (hS : SlS w a P) (hc : P.length ≤ c) (hp : PathOk P) {k : Nat} (hk : k ≤ P.length) :
    Calls Tryd.prog 27 #[.slice a k c] w fun e w' => e = .returned (.string (pjoin (P.take k))) ∧ Below w.heap.size w w' := by
  have h := path_join a c (P.take k) w (hS.take k) (by rw [List.length_take]; omega) (by have := hp.few; rw [List.length_take]; omega) (pathok_join_len (hp.take k))
  rw [List.length_take, Nat.min_eq_left hk] at h
  exact h
theorem lookFrom_step (F : ByteArray → Option Nd) (P : List ByteArray) (k : Nat) (hk : k < P.length) (id : Int) (dir : Bool) :
    lookFrom F (P.take k) (P.drop k) id dir = if dir = false then (0, false, 7) else match F (pjoin (P.take (k + 1))) with
      | none => (0, false, 4)
      | some n => lookFrom F (P.take (k + 1)) (P.drop (k + 1)) n.id n.dir := by
  rw [List.drop_eq_getElem_cons hk]
  conv => lhs; unfold lookFrom
  rw [List.take_succ_eq_append_getElem hk]
  cases F (pjoin (P.take k ++ [P[k]])) <;> rfl

set_option maxRecDepth 100000 in
set_option maxHeartbeats 4000000 in
theorem tree_look (s : ByteArray) (w : World) (hs : s.size ≤ maxLen) {tb mb : Nat} {T : TS} (hT : TreeP w tb mb T) (ha : Apart T.L) (hm : MLen w) {i0 : Int} {d0 : Bool} {x0 : Int} (hl : lookS (fnd · T.L) s = (i0, d0, x0)) :
    Calls Tryd.prog 16 #[.pointer (some ⟨tb, 0, none⟩), .string s] w fun e w' => e = .returned (.tuple #[.int .i64 i0, .bool d0, .int .i64 x0]) ∧ Below w.heap.size w w' := by
  have HSp := Lib.hid (path_split s w hs hm)
  have HT := Lib.hid hT
  have HA := Lib.hid ha
  have HM := Lib.hid hm
  have hfac := hT.facts
  have htl := hT.lt
  clear hT ha hm
  unfold lookS at hl
  cases hx : psplit s with
  | none =>
    rw [hx] at hl
    have HX := Lib.hid hx
    have HL := Lib.hid hl
    clear hx hl
    go_enter Tryd.func16, Tryd.ntmps16
    go_wp2_with fail
    refine HSp.out.mono ?_
    intro e w1 hr
    obtain ⟨rfl, hB1⟩ := splitAns_none HX.out hr
    clear hr
    go_wp2_with fail
    go_ret3
    exact ⟨by obtain ⟨h1, h2⟩ := Prod.mk.inj HL.out; obtain ⟨h2, h3⟩ := Prod.mk.inj h2; subst h1; subst h2; subst h3; rfl, hB1⟩
  | some P =>
    rw [hx] at hl
    have HX := Lib.hid hx
    have hl : lookFrom (fnd · T.L) [] P 0 true = (i0, d0, x0) := hl
    have HL := Lib.hid hl
    have hP := (psplit_ok hx).1
    have h8 := hP.few
    have HP := Lib.hid hP
    clear hx hl hP
    go_enter Tryd.func16, Tryd.ntmps16
    go_wp2_with fail
    refine HSp.out.mono ?_
    intro e w1 hr
    obtain ⟨a1, c1, rfl, hc1, hS1, hB1⟩ := splitAns_some HX.out hr
    clear hr
    have HB1 := Lib.hid hB1
    clear hB1
    go_wp2
    go_loopw [25] (fun i wr => ∃ (k : Nat) (p : ByteArray) (id : Int) (dir : Bool), k ≤ P.length ∧ i = .int .i64 (k : Int) ∧ Hid (wr.heap[w1.heap.size]? = some (.cells #[.string p, .int .i64 id, .bool dir] 47 (0, 0))) ∧ Hid (Below w1.heap.size w1 wr) ∧ Hid (lookFrom (fnd · T.L) (P.take k) (P.drop k) id dir = (i0, d0, x0))) (fun i _ => P.length - (intOf i).toNat)
    case atStart => exact ⟨0, ⟨#[]⟩, 0, true, by omega, rfl, Lib.hid (heap_alloc_new _ _), Lib.hid ((Below.refl _ _).alloc (Nat.le_refl _) _), Lib.hid HL.out⟩
    case round =>
      obtain ⟨k, p, id, dir, hk, rfl, HN, HB, HF⟩ := hrel
      have hn2 : wr.cell? ⟨w1.heap.size, 2, none⟩ = some (.bool dir) := by unfold World.cell?; rw [HN.out]; rfl
      by_cases hlt : k < P.length
      · have hstep := lookFrom_step (fnd · T.L) P k hlt id dir
        have hki : (k : Int) < (P.length : Int) := by omega
        cases dir with
        | false =>
          have HR := Lib.hid (hstep.symm.trans HF.out)
          clear hstep
          go_wp2_with fail
          go_ret3
          exact ⟨by obtain ⟨h1, h2⟩ := Prod.mk.inj HR.out; obtain ⟨h2, h3⟩ := Prod.mk.inj h2; subst h1; subst h2; subst h3; rfl, HB1.out.trans (HB.out.mono HB1.out.size)⟩
        | true =>
          have hstep := hstep.symm.trans HF.out
          rw [if_neg (by decide)] at hstep
          have HTW : Hid (∀ W, Below w1.heap.size w1 W → TreeP W tb mb T) := fun W h => HT.out.below (blw HB1.out h)
          have HJ : Hid (∀ W, Below w1.heap.size w1 W → Calls Tryd.prog 27 #[.slice a1 ((k : Nat) + 1) c1] W fun e w' => e = .returned (.string (pjoin (P.take (k + 1)))) ∧ Below W.heap.size W w') := fun W h => join_take (hS1.below h) hc1 HP.out (k := k + 1) (by omega)
          have hc0 := (HTW.out wr HB.out).facts.1
          have v1 : IntKind.i64.wrap ((k : Int) + 1) = (k : Int) + 1 := IntWalk.i64_in _ (by omega)
          have v2 : ((k : Int) + 1).toNat = k + 1 := by omega
          have v3 : (0 : Int) ≤ (k : Int) + 1 := by omega
          have v4 : (k : Int) + 1 ≤ (c1 : Int) := by omega
          have hnb : w1.heap.size < wr.heap.size := (Array.getElem?_eq_some_iff.1 HN.out).1
          cases hfd : fnd (pjoin (P.take (k + 1))) T.L with
          | none =>
            have HFd := Lib.hid hfd
            have HR := Lib.hid (show ((0 : Int), false, (4 : Int)) = (i0, d0, x0) by rw [← hstep]; simp only [hfd])
            clear hstep hfd
            go_upto_region 13 with (fail)
            go_region_held3 (fun w' => w'.cell? ⟨tb, 0, none⟩ = some (.map (some mb))) (go_keep) (first | (go_at_call 27; refine (HJ.out _ (below_drewN' HB.out 1)).mono ?_; rintro e w2 ⟨rfl, hB2⟩; have HB2 := Lib.hid (blw (below_drewN' HB.out 1) hB2); have hlk := (HTW.out _ HB2.out).look HA.out (pjoin (P.take (k + 1))); rw [HFd.out] at hlk; have hcell2 : w2.cell? ⟨tb, 0, none⟩ = some (.map (some mb)) := (HTW.out _ HB2.out).facts.1; have HN2 := Lib.hid ((hB2.block w1.heap.size hnb).trans HN.out); clear hB2; obtain ⟨⟨f0, f1⟩, ⟨f2, f3⟩, f4, f5⟩ := b3_facts HN2.out (.string ⟨#[]⟩) (.int .i64 0); have hk3 := b3_keep (show tb ≠ w1.heap.size by have := HB1.out.size; omega) hcell2 (.string ⟨#[]⟩) (.int .i64 0) (.bool false)))
            go_wp2
            go_ret3
            exact ⟨by obtain ⟨h1, h2⟩ := Prod.mk.inj HR.out; obtain ⟨h2, h3⟩ := Prod.mk.inj h2; subst h1; subst h2; subst h3; rfl, b3_below HB1.out.size (blw HB1.out HB2.out) _ _ _⟩
          | some nd =>
            obtain ⟨np, ni, ndr⟩ := nd
            have HFd := Lib.hid hfd
            have HR := Lib.hid (show lookFrom (fnd · T.L) (P.take (k + 1)) (P.drop (k + 1)) ni ndr = (i0, d0, x0) by rw [← hstep]; simp only [hfd])
            clear hstep hfd
            go_upto_region 13 with (fail)
            go_region_held3 (fun w' => w'.cell? ⟨tb, 0, none⟩ = some (.map (some mb))) (go_keep) (first | (go_at_call 27; refine (HJ.out _ (below_drewN' HB.out 1)).mono ?_; rintro e w2 ⟨rfl, hB2⟩; have HB2 := Lib.hid (blw (below_drewN' HB.out 1) hB2); have hlk := (HTW.out _ HB2.out).look HA.out (pjoin (P.take (k + 1))); rw [HFd.out] at hlk; have hcell2 : w2.cell? ⟨tb, 0, none⟩ = some (.map (some mb)) := (HTW.out _ HB2.out).facts.1; have HN2 := Lib.hid ((hB2.block w1.heap.size hnb).trans HN.out); clear hB2; obtain ⟨⟨f0, f1⟩, ⟨f2, f3⟩, f4, f5⟩ := b3_facts HN2.out (.string np) (.int .i64 ni); have hk3 := b3_keep (show tb ≠ w1.heap.size by have := HB1.out.size; omega) hcell2 (.string np) (.int .i64 ni) (.bool ndr)))
            go_wp2
            exact ⟨⟨k + 1, np, ni, ndr, by omega, by go_num, Lib.hid (b3_end HN2.out _ _ _), Lib.hid (b3_below (Nat.le_refl _) HB2.out _ _ _), HR⟩, by simp [intOf]; omega⟩
      · obtain rfl : k = P.length := by omega
        have hR := HF.out
        rw [List.drop_length] at hR
        have HR := Lib.hid (show (id, dir, (0 : Int)) = (i0, d0, x0) from hR)
        have hn1 : wr.cell? ⟨w1.heap.size, 1, none⟩ = some (.int .i64 id) := by unfold World.cell?; rw [HN.out]; rfl
        have hlt' : decide ((P.length : Int) < (P.length : Int)) = false := by simp
        clear hR hlt
        go_wp2
        go_quiet (fail)
        go_wp2
        go_ret3
        exact ⟨by obtain ⟨h1, h2⟩ := Prod.mk.inj HR.out; obtain ⟨h2, h3⟩ := Prod.mk.inj h2; subst h1; subst h2; subst h3; rfl, below_drewN' (HB1.out.trans (HB.out.mono HB1.out.size)) _⟩
end Go.Proofs.YtahdmkmefeocmaaDoor
