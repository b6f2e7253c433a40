/- law13's Same, wherever the two trees lie. -/
import Derived.Test.YtahdmkmefeocmaaGreatDoorMDocN
namespace Go.Proofs.YtahdmkmefeocmaaGreatDoor
open Go.RowKit Go.Lib
open Go.ChangeMaps (setBlock)

structure BQ (w : World) (tb mb td : Nat) (T : TS) : Prop where
  t : TreeP w tb mb T
  d : DocP w td T
  i : TInv T
  m : MLen w
theorem BQ.below {w w' : World} {tb mb td : Nat} {T : TS} (h : BQ w tb mb td T) (hb : Below w.heap.size w w') : BQ w' tb mb td T :=
  ⟨h.t.below hb, h.d.below hb, h.i, h.m.below hb⟩
set_option maxRecDepth 100000 in
set_option maxHeartbeats 8000000 in
theorem law13_sameq (w : World) {tb mb td : Nat} {T : TS} (hB : BQ w tb mb td T) :
    Calls Tryz.prog 11 #[.pointer (some ⟨tb, 0, none⟩), .pointer (some ⟨td, 0, none⟩)] w fun e w' => e = .returned (.bool true) ∧ Below w.heap.size w w' := by
  have HB := Lib.hid hB
  have hfew := hB.i.few
  have HNo := Lib.hid (tree_nodes w hB.t hB.i)
  clear hB
  go_enter Tryz.func11, Tryz.ntmps11
  go_wp2_with fail
  refine HNo.out.mono ?_
  rintro e w1 ⟨an, cn, rfl, hcn, hSn, hB1⟩
  have HPa := Lib.hid (tree_paths w1 (HB.out.t.below hB1) HB.out.i)
  have HSn := Lib.hid hSn
  have HB1 := Lib.hid hB1
  clear hSn hB1
  go_wp2_with fail
  with_reducible refine Calls.mono HPa.out ?_
  rintro e w2 ⟨ap, cp, rfl, hcp, hSp, hB2⟩
  have HBP2 := Lib.hid ((HB.out.below HB1.out).below hB2)
  have HSn2 := Lib.hid (HSn.out.below hB2)
  have HSp2 := Lib.hid hSp
  have HB2 := Lib.hid (blw HB1.out hB2)
  clear hSp hB2 HSn HPa HNo HB1
  obtain ⟨a0, c0, ce, hac⟩ := HBP2.out.d.cell0
  obtain ⟨cn1, _⟩ := HBP2.out.d.cell1
  go_upto_region 2 with (fail)
  go_quiet ((first
    | (go_at_call 21; refine Calls.quiet_of_same (v := .int .i64 (T.L.length : Nat)) ((tree_len _ (HBP2.out.t.below (below_drewN (Below.refl _ _) _))).mono fun _ _ h => h))
    | (go_at_call 22; refine Calls.quiet_of_same (v := .int .i64 T.nx) ((tree_next _ (HBP2.out.t.below (below_drewN (Below.refl _ _) _))).mono fun _ _ h => h))))
  have HBd : Hid (Below w2.heap.size w2 (w2.drewN nq)) := Lib.hid (below_drewN (Below.refl _ _) _)
  generalize w2.drewN nq = w3 at *
  go_wp2
  go_loopw [7] (fun i wr => ∃ k : Nat, k ≤ T.L.length ∧ i = .int .i64 (k : Int) ∧ Hid (Below w2.heap.size w2 wr)) (fun i _ => T.L.length - (intOf i).toNat)
  case atStart => exact ⟨0, by omega, rfl, HBd⟩
  case round =>
    obtain ⟨k, hk, rfl, HBr⟩ := hrel
    by_cases hlt : k < T.L.length
    · have hBPr := HBP2.out.below HBr.out
      obtain ⟨a0, c0, t1, t2, t3⟩ := hBPr.d.ex
      have ce : wr.cell? ⟨td, 0, none⟩ = some (.slice a0 T.L.length c0) := by unfold World.cell?; rw [t1]; rfl
      obtain ⟨b, o, rfl, p0, p1, p2, hbl⟩ := t3.at_ hlt
      have hki : (k : Int) < (T.L.length : Int) := by omega
      have hkc : (k : Int) < (c0 : Int) := by omega
      have hkn : (k : Int) < (cn : Int) := by omega
      have hkp : (k : Int) < (cp : Int) := by omega
      have hmem : T.L.getD k default ∈ T.L := by simp [List.getD, hlt]
      have hlk := hBPr.i.look hmem
      have hgd : (T.L.map (·.path)).getD k default = (T.L.getD k default).path := by simp [List.getD, hlt]
      have hpsz := path_size hBPr.i _ hmem
      obtain ⟨bn, on, rfl, _⟩ := HSn2.out.at_ hlt
      obtain ⟨bp, op, rfl, _⟩ := HSp2.out.at_ (k := k) (by simpa using hlt)
      have HRn : Hid (∀ W, Below w2.heap.size w2 W → W.cell? ⟨bn, on + k * 3, none⟩ = some (.string (T.L.getD k default).path) ∧ W.cell? ⟨bn, on + k * 3 + 1, none⟩ = some (.int .i64 (T.L.getD k default).id) ∧ W.cell? ⟨bn, on + k * 3 + 2, none⟩ = some (.bool (T.L.getD k default).dir) ∧ W.cell? ⟨bp, op + k, none⟩ = some (.string (T.L.getD k default).path)) := fun W hW => by
        obtain ⟨b', o', e', q0, q1, q2, _⟩ := (HSn2.out.below hW).at_ hlt
        cases e'
        obtain ⟨b', o', e', q3, _⟩ := (HSp2.out.below hW).at_ (k := k) (by simpa using hlt)
        cases e'
        rw [hgd] at q3
        exact ⟨q0, q1, q2, q3⟩
      have HLk : Hid (∀ W, Below w2.heap.size w2 W → Calls Tryz.prog 14 #[.pointer (some ⟨tb, 0, none⟩), .string (T.L.getD k default).path] W fun e w' => e = .returned (.tuple #[.int .i64 (T.L.getD k default).id, .bool (T.L.getD k default).dir, .int .i64 0]) ∧ Below W.heap.size W w') := fun W hW => tree_look _ W (by unfold maxLen; omega) (HBP2.out.below hW).t HBP2.out.i.rises.apart (HBP2.out.below hW).m hlk
      generalize T.L.getD k default = n at *
      obtain ⟨np, ni, nd⟩ := n
      dsimp only at p0 p1 p2 HRn HLk
      clear hmem hlk hgd t1 t3 hBPr hpsz
      go_upto_region 8 with (fail)
      have HB0 : Hid (Below w2.heap.size w2 (wr.alloc (.cells #[.string np, .int .i64 ni, .bool nd] 53))) := Lib.hid (HBr.out.alloc HBr.out.size _)
      have hbx := heap_alloc_new wr (.cells #[.string np, .int .i64 ni, .bool nd] 53)
      have hlw : wr.heap.size < (wr.alloc (.cells #[.string np, .int .i64 ni, .bool nd] 53)).heap.size := by simp
      generalize hW : wr.alloc (.cells #[.string np, .int .i64 ni, .bool nd] 53) = W at *
      clear hW p0 p1 p2 ce
      obtain ⟨q0, q1, q2, q3⟩ := HRn.out W HB0.out
      obtain ⟨n0, n1, n2, _⟩ := b3_cells hbx
      have HBx := Lib.hid hbx
      clear hbx
      go_quiet (fail)
      have HB4 : Hid (Below w2.heap.size w2 (W.drewN nq)) := Lib.hid (below_drewN HB0.out _)
      have HBx4 : Hid ((W.drewN nq).heap[wr.heap.size]? = some (.cells #[.string np, .int .i64 ni, .bool nd] 53 (0, 0))) := HBx
      have hlw4 : wr.heap.size < (W.drewN nq).heap.size := hlw
      clear q0 q1 q2 q3 n0 n1 n2 hlw HBx HB0
      generalize W.drewN nq = W4 at *
      obtain ⟨n0, n1, n2, _⟩ := b3_cells HBx4.out
      go_wp2_with fail
      with_reducible refine Calls.mono (HLk.out _ HB4.out) ?_
      rintro e w5 ⟨rfl, hB5⟩
      have HB5 := Lib.hid (HB4.out.trans (hB5.mono HB4.out.size))
      have hbx5 := (hB5.block wr.heap.size hlw4).trans HBx4.out
      clear n0 n1 n2
      obtain ⟨n0, n1, n2, _⟩ := b3_cells hbx5
      clear hbx5 hB5
      go_wp2
      exact ⟨⟨k + 1, by omega, by go_num, HB5⟩, by simp [intOf]; omega⟩
    · obtain rfl : k = T.L.length := by omega
      have hlt' : decide ((T.L.length : Int) < (T.L.length : Int)) = false := by simp
      clear hlt
      go_wp2
      go_ret
      exact ⟨rfl, blw HB2.out HBr.out⟩
end Go.Proofs.YtahdmkmefeocmaaGreatDoor
