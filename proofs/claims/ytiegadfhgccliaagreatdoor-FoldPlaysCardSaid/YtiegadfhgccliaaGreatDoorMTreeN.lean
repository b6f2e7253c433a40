/- Walks of the document's state: NewState, Body, drop. -/
import Derived.Test.YtiegadfhgccliaaGreatDoorMTreeW7
import Derived.Test.YtiegadfhgccliaaGreatDoorMDocD
import Derived.Test.YtiegadfhgccliaaGreatDoorMDocL
import Derived.Test.YtiegadfhgccliaaGreatDoorMFoldM
import Derived.Deep.RegionLaw
import Derived.BigRegion
namespace Go.Proofs.YtiegadfhgccliaaGreatDoor
open Go.RowKit Go.Lib Go.Maps
open Go.ChangeMaps (setBlock)
open Go.WideElems (Fit rd rg rg_of)

/-- How an element reads where nobody asks. -/
def rAny : Value → Option (DataW Unit × List MemPlace) := fun _ => some (.nil, [])
def keyB : Value → List UInt8
  | .string s => s.data.toList
  | _ => []
theorem keys_of {P : Program} {k : TypeId} {R : Value → Option (DataW Unit × List MemPlace)} {es : List MapEntry} (h : ∀ x ∈ es, ∃ s : ByteArray, x.key = .string s ∧ rd P k R x = some (.string s.data.toList, .nil)) :
    (es.map (rg P k R)).map (fun p => strOf p.1) = (es.map fun e => (e.key, e.val)).map fun q => keyB q.1 := by
  rw [List.map_map, List.map_map]
  refine List.map_congr_left fun x hx => ?_
  obtain ⟨s, h1, h2⟩ := h x hx
  show strOf (rg P k R x).1 = keyB x.key
  rw [rg_of h2, h1]
  rfl
theorem TreeAt.owns {w : World} {tb mb : Nat} {L : List Nd} {nx : Int} (h : TreeAt w tb mb L nx) (hs : ∀ n ∈ L, n.path.size ≤ maxLen) (hn : L.length ≤ maxLen) :
    ∃ D : DataW Unit, w.ownsMap Tryz.prog 9 rAny mb L.length D ∧ (strKeys D).Perm (raws (L.map (·.path))) ∧ Maps.size D = L.length := by
  obtain ⟨es, clock, hb, hst, hM⟩ := h.map
  have hl : es.size = L.length := by
    have := congrArg List.length hM
    simpa [ents] using this
  have hrd : ∀ x ∈ es.toList, ∃ s : ByteArray, x.key = .string s ∧ rd Tryz.prog 9 rAny x = some (.string s.data.toList, .nil) := by
    intro x hx
    obtain ⟨p, hp, e1, _⟩ := es_keys (K := strKey) hM x hx
    obtain ⟨n, hn1, rfl⟩ := List.mem_map.1 hp
    have e1 : x.key = .string n.path := e1
    refine ⟨n.path, e1, ?_⟩
    have hsz := hs n hn1
    have hk : keyOf Tryz.prog 9 x.key = some (.string n.path.data.toList) := by
      rw [e1]
      unfold keyOf
      rw [Tryz.underlying9]
      simp [mapKey, hsz]
    simp [rd, hk, rAny]
  refine ⟨_, ⟨es, clock, hb, ⟨by omega, hst, fun x hx => ?_⟩, by omega, rfl⟩, ?_, ?_⟩
  · obtain ⟨s, _, h2⟩ := hrd x hx
    exact ⟨_, h2⟩
  · show (((es.toList.map (rg Tryz.prog 9 rAny)).foldr DataW.insert []).map fun p => strOf p.1).Perm _
    have hp := (Go.WideShapes.sorted_perm (es.toList.map (rg Tryz.prog 9 rAny))).map (fun p => strOf p.1)
    refine hp.trans ?_
    have e : (es.toList.map (rg Tryz.prog 9 rAny)).map (fun p => strOf p.1) = raws (L.map (·.path)) := by
      have e1 := keys_of hrd
      have e2 : (es.toList.map fun e => (e.key, e.val)).map (fun q => keyB q.1) = raws (L.map (·.path)) := by
        rw [hM]
        unfold ents raws
        rw [List.map_map, List.map_map, List.map_map]
        rfl
      exact e1.trans e2
    exact e ▸ List.Perm.refl _
  · show ((es.toList.map (rg Tryz.prog 9 rAny)).foldr DataW.insert []).length = L.length
    rw [(Go.WideShapes.sorted_perm _).length_eq, List.length_map, Array.length_toList, hl]
theorem path_small {T : TS} (h : TInv T) : ∀ n ∈ T.L, n.path.size ≤ maxLen := fun n hn => by
  have := path_size h n hn
  unfold maxLen
  omega
theorem sorted_paths {T : TS} (h : TInv T) {ss : List (List UInt8)} (hp : ss.Perm (raws (T.L.map (·.path)))) : (ss.mergeSort (fun x y => decide (x ≤ y))).map encStr = (T.L.map (·.path)).map Value.string := by
  have h1 : (ss.map mkB).Perm (T.L.map (·.path)) := by
    have := hp.map mkB
    rw [raws, List.map_map] at this
    have e : (T.L.map (·.path)).map (mkB ∘ fun x : ByteArray => x.data.toList) = T.L.map (·.path) := by
      conv => rhs; rw [← List.map_id (T.L.map (·.path))]
      exact List.map_congr_left fun x _ => mkB_of x
    rw [e] at this
    exact this
  have h2 := sort_uniq h1 (List.pairwise_map.2 h.rises)
  unfold sortB at h2
  have e : (ss.map mkB).map (·.data.toList) = ss := by
    rw [List.map_map]
    conv => rhs; rw [← List.map_id ss]
    exact List.map_congr_left fun x _ => mkB_toList x
  rw [e] at h2
  rw [← h2, List.map_map]
  refine List.map_congr_left fun x _ => ?_
  rfl
set_option maxRecDepth 100000 in
set_option maxHeartbeats 4000000 in
/-- Paths. -/
theorem tree_paths (w : World) {tb mb : Nat} {T : TS} (hT : TreeP w tb mb T) (hI : TInv T) :
    Calls Tryz.prog 38 #[.pointer (some ⟨tb, 0, none⟩)] w fun e w' => ∃ a c, e = .returned (.slice a T.L.length c) ∧ T.L.length ≤ c ∧ SlS w' a (T.L.map (·.path)) ∧ Below w.heap.size w w' := by
  obtain ⟨L, hp, hA⟩ := hT
  have hlen := hp.length_eq
  have hfew := hI.few
  obtain ⟨D, hown, hkeys, hsz⟩ := hA.owns (fun n hn => path_small hI n (hp.mem_iff.1 hn)) (by unfold maxLen; omega)
  have hc0 := hA.c0
  have HSo : Hid (∀ ss : List (List UInt8), ss.Perm (strKeys D) → (ss.mergeSort (fun x y => decide (x ≤ y))).map encStr = (T.L.map (·.path)).map Value.string ∧ ss.length = T.L.length) := fun ss hss => by
    have h1 : ss.Perm (raws (T.L.map (·.path))) := by
      refine (hss.trans hkeys).trans ?_
      unfold raws
      exact (hp.map _).map _
    refine ⟨sorted_paths hI h1, ?_⟩
    rw [h1.length_eq]
    simp [raws]
  have HOwn := Lib.hid hown
  have hsz1 : Maps.size D ≤ maxLen := by unfold maxLen; omega
  have hsz2 : Maps.size D * 16 ≤ 140737488355328 := by omega
  clear hown hkeys hp hA hI
  refine (callsIn_wide (n := 6)).1 ?_
  have hfK : Fence.wide.fn 68 := trivial
  have hfS : Fence.wide.fn 67 := trivial
  refine callsIn_of_wp Tryz.func38 rfl trivial ?_ rfl
  simp only [Tryz.ntmps38, List.size_toArray, List.length_cons, List.length_nil, Nat.reduceAdd, Nat.reduceSub, Array.replicate_succ, Array.replicate_zero, List.push_toArray, List.append_toArray, List.nil_append, List.cons_append]
  gi_wp2_with (first
    | (gi_at_call 68; refine (Tryz.maps_Keys_68 _ _).mono ?_; rintro e w' ⟨rfl, rfl⟩)
    | (gi_at_call 67; refine (Tryz.slices_Sorted_keys_67_68 mb L.length D rAny w HOwn.out hsz1 hsz2).mono ?_; rintro e w' ⟨v, ss, rfl, hS, hrow, hnil, hb⟩))
  go_ret
  obtain ⟨h1, h2⟩ := HSo.out ss hS
  rw [h1, h2] at hrow
  have hl : (T.L.map (·.path)).length = T.L.length := by simp
  rw [← hl] at hrow
  obtain ⟨a, c, rfl, hc, hSl⟩ := SlS.own hrow
  rw [hl] at hc
  rw [hl]
  exact ⟨a, c, rfl, hc, hSl, ((Below.refl _ w).alloc (Nat.le_refl _) _).trans (hb.mono (by simp))⟩
end Go.Proofs.YtiegadfhgccliaaGreatDoor
namespace Go.Proofs.YtiegadfhgccliaaGreatDoor
open Go.RowKit Go.Lib Go.Maps
open Go.ChangeMaps (setBlock)

set_option maxRecDepth 100000 in
set_option maxHeartbeats 4000000 in
/-- Nodes. -/
theorem tree_nodes (w : World) {tb mb : Nat} {T : TS} (hT : TreeP w tb mb T) (hI : TInv T) :
    Calls Tryz.prog 15 #[.pointer (some ⟨tb, 0, none⟩)] w fun e w' => ∃ a c, e = .returned (.slice a T.L.length c) ∧ T.L.length ≤ c ∧ SlN w' a T.L ∧ Below w.heap.size w w' := by
  have HPa := Lib.hid (tree_paths w hT hI)
  have HT := Lib.hid hT
  have HI := Lib.hid hI
  have hfew := hI.few
  have HAp := Lib.hid hI.rises.apart
  obtain ⟨i0, hi, hz0, hz1, hz2⟩ := info_parts info_nd
  clear hT hI
  go_enter Tryz.func15, Tryz.ntmps15
  go_wp2_with fail
  refine HPa.out.mono ?_
  rintro e w1 ⟨ap, cp, rfl, hcp, hS1, hB1⟩
  have HB1 := Lib.hid hB1
  have HS1 := Lib.hid hS1
  clear hB1 hS1
  go_wp2
  go_loopw [3, 9] (fun v i wr => ∃ (k : Nat) (sv : Value), k ≤ T.L.length ∧ v = sv ∧ i = .int .i64 (k : Int) ∧ Hid (wr.ownsRow w1.heap.size 51 3 sv k (cellsN (T.L.take k))) ∧ Hid (Below w1.heap.size w1 wr)) (fun _ i _ => T.L.length - (intOf i).toNat)
  case atStart => exact ⟨0, _, by omega, rfl, rfl, Lib.hid (World.ownsRow_nil _ _ _ _), Lib.hid (Below.refl _ _)⟩
  case round =>
    obtain ⟨k, sv, hk, hsv, rfl, HO, HB⟩ := hrel
    have hsv' := hsv.symm
    subst hsv'
    by_cases hlt : k < T.L.length
    · have hB0 := blw HB1.out HB.out
      have hTP := HT.out.below hB0
      obtain ⟨hc0, _, _⟩ := hTP.facts
      obtain ⟨b, o, rfl, p0, _⟩ := (HS1.out.below HB.out).at_ (k := k) (by simpa using hlt)
      have hki : (k : Int) < (T.L.length : Int) := by omega
      have hkc : (k : Int) < (cp : Int) := by omega
      have hgd : (T.L.map (·.path)).getD k default = (T.L.getD k default).path := by simp [List.getD, hlt]
      have hmem : T.L.getD k default ∈ T.L := by simp [List.getD, hlt]
      have hlk := hTP.look1 HAp.out (T.L.getD k default).path
      rw [fnd_mem HAp.out hmem] at hlk
      have hsn : cellsN (T.L.take (k + 1)) = cellsN (T.L.take k) ++ [.string (T.L.getD k default).path, .int .i64 (T.L.getD k default).id, .bool (T.L.getD k default).dir] := by
        rw [← cellsN_snoc, List.take_succ_eq_append_getElem hlt]
        congr 2
        simp [List.getD, hlt]
      rw [hgd] at p0
      have HSn := Lib.hid hsn
      generalize T.L.getD k default = n at *
      obtain ⟨np, ni, nd⟩ := n
      replace hlk : (Instr.lookup 97 (.map (some mb)) (.string np) false).run Tryz.prog wr = .ok (.agg #[.string np, .int .i64 ni, .bool nd]) wr := hlk
      dsimp only at p0
      clear hsn hgd hmem hTP hB0
      go_wp2_with (at_builtin; refine wpList_append_own _ rfl (.tmp 13) (.tmp 20) 42 rfl w1.heap.size 51 i0 _ 3 32 Tryz.underlying42 hi hz0 hz1 hz2 rfl (by decide) _ _ _ rfl (HO.out.alloc _) ⟨wr.heap.size, 0, none⟩ 1 1 [.string np, .int .i64 ni, .bool nd] rfl rfl (new3b _ _ _ _ _ _ rfl) (by intro u hu; simp at hu; rcases hu with rfl | rfl | rfl <;> rfl) (by unfold maxLen; omega) (by omega) (by have := HB.out.size; simp; omega) ?_; intro v' w3 hown' hgrow hnil; clear hnil; have HO2 := Lib.hid hown'; have HG := Lib.hid hgrow; clear hown' hgrow)
      refine ⟨⟨k + 1, v', by omega, rfl, by go_num, ?_, ?_⟩, by simp [intOf]; omega⟩
      · have := HO2.out
        rw [HSn.out]
        exact Lib.hid this
      · exact Lib.hid (grown_below (HB.out.alloc HB.out.size _) (by have := HB.out.size; simp; omega) (HO.out.alloc _) HG.out)
    · obtain rfl : k = T.L.length := by omega
      have hlt' : decide ((T.L.length : Int) < (T.L.length : Int)) = false := by simp
      have ho := HO.out
      rw [List.take_length] at ho
      obtain ⟨a2, c2, rfl, hc2, hS2⟩ := SlN.own ho
      have HS2 := Lib.hid hS2
      clear hlt ho hS2 HO
      go_wp2
      go_ret
      exact ⟨a2, c2, rfl, hc2, HS2.out, blw HB1.out HB.out⟩
end Go.Proofs.YtiegadfhgccliaaGreatDoor
namespace Go.Proofs.YtiegadfhgccliaaGreatDoor
open Go.RowKit Go.Lib
open Go.ChangeMaps (setBlock)

theorem doc_rename (src dst : ByteArray) (w : World) (hs : src.size ≤ 100000) (hd : dst.size ≤ 100000) {td : Nat} {dx : DX} {T : TS} (hT : DocP dx w td T) (hI : TInv T) :
    Calls Tryz.prog 77 #[.pointer (some ⟨td, 0, none⟩), .string src, .string dst] w fun e w' => e = .returned (.tuple #[.int .i64 (renS T src dst).2.1, .int .i64 (renS T src dst).2.2]) ∧ DocP dx w' td (renS T src dst).1 ∧ Turn [td] w w' := by
  cases hX : psplit src with
  | none => exact doc_ren_bad src dst w hs hd hT (.inl hX)
  | some X =>
    cases hY : psplit dst with
    | none => exact doc_ren_bad src dst w hs hd hT (.inr hY)
    | some Y =>
      obtain ⟨i, d, g, hl⟩ : ∃ i d g, lookS (fnd · T.L) src = (i, d, g) := ⟨_, _, _, rfl⟩
      obtain ⟨a, ha⟩ : ∃ a, aheadS (fnd · T.L) Y = a := ⟨_, rfl⟩
      by_cases hno : g ≠ 0 ∨ X = [] ∨ punder dst src = true ∨ a ≠ 0 ∨ src = dst ∨ (Y.isEmpty || thereS T.L dst d) = true
      · exact doc_ren_no src dst w hs hd hT hI hX hY hl ha hno
      · rw [not_or, not_or, not_or, not_or, not_or, Decidable.not_not, Decidable.not_not] at hno
        obtain ⟨h1, h2, h3, h4, h5, h6⟩ := hno
        subst h1
        subst h4
        obtain ⟨P, hP, hor⟩ := lookS_ok hl
        rw [hX] at hP
        cases hP
        rcases hor with ⟨h, _⟩ | ⟨_, n0, hf, hi, hdd⟩
        · exact absurd h h2
        · subst hi
          subst hdd
          exact doc_ren_loop src dst w hs hd hT hI hX hY hf hl h2 (by simpa using h3) ha h5 (by simpa using h6)

end Go.Proofs.YtiegadfhgccliaaGreatDoor
namespace Go.Proofs.YtiegadfhgccliaaGreatDoor
open Go.RowKit Go.Lib
open Go.ChangeMaps (setBlock)

structure BQ (dx : DX) (w : World) (tb mb td : Nat) (T : TS) : Prop where
  t : TreeP w tb mb T
  d : DocP dx w td T
  i : TInv T
  m : MLen w
theorem BQ.below {w w' : World} {tb mb td : Nat} {T : TS} {dx : DX} (h : BQ dx w tb mb td T) (hb : Below w.heap.size w w') : BQ dx w' tb mb td T :=
  ⟨h.t.below hb, h.d.below hb, h.i, h.m.below hb⟩
set_option maxRecDepth 100000 in
set_option maxHeartbeats 8000000 in
theorem law13_sameq (w : World) {tb mb td : Nat} {T : TS} {dx : DX} (hB : BQ dx w tb mb td T) :
    Calls Tryz.prog 52 #[.pointer (some ⟨tb, 0, none⟩), .pointer (some ⟨td, 0, none⟩)] w fun e w' => e = .returned (.bool true) ∧ Below w.heap.size w w' := by
  have HB := Lib.hid hB
  have hfew := hB.i.few
  have HNo := Lib.hid (tree_nodes w hB.t hB.i)
  clear hB
  go_enter Tryz.func52, Tryz.ntmps52
  go_wp2_with fail
  refine HNo.out.mono ?_
  rintro e w1 ⟨an, cn, rfl, hcn, hSn, hB1⟩
  have HPa := Lib.hid (tree_paths w1 (HB.out.t.below hB1) HB.out.i)
  have HSn := Lib.hid hSn
  have HB1 := Lib.hid hB1
  clear hSn hB1
  go_wp2_with fail
  with_reducible refine Calls.mono HPa.out ?_
  rintro e w2 ⟨ap, cp, rfl, hcp, hSp, hB2⟩
  have HBP2 := Lib.hid ((HB.out.below HB1.out).below hB2)
  have HSn2 := Lib.hid (HSn.out.below hB2)
  have HSp2 := Lib.hid hSp
  have HB2 := Lib.hid (blw HB1.out hB2)
  clear hSp hB2 HSn HPa HNo HB1
  obtain ⟨a0, c0, ce, hac⟩ := HBP2.out.d.cell0
  obtain ⟨cn1, _⟩ := HBP2.out.d.cell1
  go_upto_region 2 with (fail)
  go_quiet ((first
    | (go_at_call 84; refine Calls.quiet_of_same (v := .int .i64 (T.L.length : Nat)) ((tree_len _ (HBP2.out.t.below (below_drewN (Below.refl _ _) _))).mono fun _ _ h => h))
    | (go_at_call 17; refine Calls.quiet_of_same (v := .int .i64 T.nx) ((tree_next _ (HBP2.out.t.below (below_drewN (Below.refl _ _) _))).mono fun _ _ h => h))))
  have HBd : Hid (Below w2.heap.size w2 (w2.drewN nq)) := Lib.hid (below_drewN (Below.refl _ _) _)
  generalize w2.drewN nq = w3 at *
  go_wp2
  go_loopw [7] (fun i wr => ∃ k : Nat, k ≤ T.L.length ∧ i = .int .i64 (k : Int) ∧ Hid (Below w2.heap.size w2 wr)) (fun i _ => T.L.length - (intOf i).toNat)
  case atStart => exact ⟨0, by omega, rfl, HBd⟩
  case round =>
    obtain ⟨k, hk, rfl, HBr⟩ := hrel
    by_cases hlt : k < T.L.length
    · have hBPr := HBP2.out.below HBr.out
      obtain ⟨a0, c0, t1, t2, t3⟩ := hBPr.d.ex
      have ce : wr.cell? ⟨td, 0, none⟩ = some (.slice a0 T.L.length c0) := by unfold World.cell?; rw [t1]; rfl
      obtain ⟨b, o, rfl, p0, p1, p2, hbl⟩ := t3.at_ hlt
      have hki : (k : Int) < (T.L.length : Int) := by omega
      have hkc : (k : Int) < (c0 : Int) := by omega
      have hkn : (k : Int) < (cn : Int) := by omega
      have hkp : (k : Int) < (cp : Int) := by omega
      have hmem : T.L.getD k default ∈ T.L := by simp [List.getD, hlt]
      have hlk := hBPr.i.look hmem
      have hgd : (T.L.map (·.path)).getD k default = (T.L.getD k default).path := by simp [List.getD, hlt]
      have hpsz := path_size hBPr.i _ hmem
      obtain ⟨bn, on, rfl, _⟩ := HSn2.out.at_ hlt
      obtain ⟨bp, op, rfl, _⟩ := HSp2.out.at_ (k := k) (by simpa using hlt)
      have HRn : Hid (∀ W, Below w2.heap.size w2 W → W.cell? ⟨bn, on + k * 3, none⟩ = some (.string (T.L.getD k default).path) ∧ W.cell? ⟨bn, on + k * 3 + 1, none⟩ = some (.int .i64 (T.L.getD k default).id) ∧ W.cell? ⟨bn, on + k * 3 + 2, none⟩ = some (.bool (T.L.getD k default).dir) ∧ W.cell? ⟨bp, op + k, none⟩ = some (.string (T.L.getD k default).path)) := fun W hW => by
        obtain ⟨b', o', e', q0, q1, q2, _⟩ := (HSn2.out.below hW).at_ hlt
        cases e'
        obtain ⟨b', o', e', q3, _⟩ := (HSp2.out.below hW).at_ (k := k) (by simpa using hlt)
        cases e'
        rw [hgd] at q3
        exact ⟨q0, q1, q2, q3⟩
      have HLk : Hid (∀ W, Below w2.heap.size w2 W → Calls Tryz.prog 57 #[.pointer (some ⟨tb, 0, none⟩), .string (T.L.getD k default).path] W fun e w' => e = .returned (.tuple #[.int .i64 (T.L.getD k default).id, .bool (T.L.getD k default).dir, .int .i64 0]) ∧ Below W.heap.size W w') := fun W hW => tree_look _ W (by unfold maxLen; omega) (HBP2.out.below hW).t HBP2.out.i.rises.apart (HBP2.out.below hW).m hlk
      generalize T.L.getD k default = n at *
      obtain ⟨np, ni, nd⟩ := n
      dsimp only at p0 p1 p2 HRn HLk
      clear hmem hlk hgd t1 t3 hBPr hpsz
      go_upto_region 8 with (fail)
      have HB0 : Hid (Below w2.heap.size w2 (wr.alloc (.cells #[.string np, .int .i64 ni, .bool nd] 114))) := Lib.hid (HBr.out.alloc HBr.out.size _)
      have hbx := heap_alloc_new wr (.cells #[.string np, .int .i64 ni, .bool nd] 114)
      have hlw : wr.heap.size < (wr.alloc (.cells #[.string np, .int .i64 ni, .bool nd] 114)).heap.size := by simp
      generalize hW : wr.alloc (.cells #[.string np, .int .i64 ni, .bool nd] 114) = W at *
      clear hW p0 p1 p2 ce
      obtain ⟨q0, q1, q2, q3⟩ := HRn.out W HB0.out
      obtain ⟨n0, n1, n2, _⟩ := b3_cells hbx
      have HBx := Lib.hid hbx
      clear hbx
      go_quiet (fail)
      have HB4 : Hid (Below w2.heap.size w2 (W.drewN nq)) := Lib.hid (below_drewN HB0.out _)
      have HBx4 : Hid ((W.drewN nq).heap[wr.heap.size]? = some (.cells #[.string np, .int .i64 ni, .bool nd] 114 (0, 0))) := HBx
      have hlw4 : wr.heap.size < (W.drewN nq).heap.size := hlw
      clear q0 q1 q2 q3 n0 n1 n2 hlw HBx HB0
      generalize W.drewN nq = W4 at *
      obtain ⟨n0, n1, n2, _⟩ := b3_cells HBx4.out
      go_wp2_with fail
      with_reducible refine Calls.mono (HLk.out _ HB4.out) ?_
      rintro e w5 ⟨rfl, hB5⟩
      have HB5 := Lib.hid (HB4.out.trans (hB5.mono HB4.out.size))
      have hbx5 := (hB5.block wr.heap.size hlw4).trans HBx4.out
      clear n0 n1 n2
      obtain ⟨n0, n1, n2, _⟩ := b3_cells hbx5
      clear hbx5 hB5
      go_wp2
      exact ⟨⟨k + 1, by omega, by go_num, HB5⟩, by simp [intOf]; omega⟩
    · obtain rfl : k = T.L.length := by omega
      have hlt' : decide ((T.L.length : Int) < (T.L.length : Int)) = false := by simp
      clear hlt
      go_wp2
      go_ret
      exact ⟨rfl, blw HB2.out HBr.out⟩
end Go.Proofs.YtiegadfhgccliaaGreatDoor
namespace Go.Proofs.YtiegadfhgccliaaGreatDoor
open Go.RowKit Go.Lib
open Go.ChangeMaps (setBlock)

instance : Inhabited FileM := ⟨⟨0, ⟨0, []⟩, none, 0⟩⟩
def encF : EncK FileM where
  enc f := [.int .i64 f.id, .int .i64 f.bd.size, .slice f.a f.bd.parts.length f.c]
  K := 3
  pos := by decide
  len _ := rfl
  one x u hu := by
    simp at hu
    rcases hu with rfl | rfl | rfl <;> rfl
def dxS (a : Option Addr) (n c : Nat) : DX := ⟨[.slice a n c], 66, fun v hv s e => by
  simp at hv
  subst hv
  cases e⟩
/-- Blocks turned; all rows of nodes stand. -/
structure TurnD (bs : List Nat) (w w' : World) : Prop where
  t : Turn bs w w'
  n : ∀ a L, SlN w a L → SlN w' a L
theorem TurnD.refl (bs : List Nat) (w : World) : TurnD bs w w := ⟨.refl _ _, fun _ _ h => h⟩
theorem TurnD.trans {bs : List Nat} {a b c : World} (h : TurnD bs a b) (k : TurnD bs b c) : TurnD bs a c := ⟨h.t.trans k.t, fun x L hs => k.n x L (h.n x L hs)⟩
theorem TurnD.of_below {bs : List Nat} {a b : World} (h : Below a.heap.size a b) : TurnD bs a b := ⟨.of_below h, fun _ _ hs => hs.below h⟩
theorem TurnD.of_turn {bs : List Nat} {a b : World} (h : Turn bs a b) (hn : ∀ x ∈ bs, NoStr a x) : TurnD bs a b := ⟨h, fun _ _ hs => hs.turnS h hn⟩
theorem TurnD.mono {bs cs : List Nat} {a b : World} (h : TurnD bs a b) (hs : ∀ x ∈ bs, x ∈ cs) : TurnD cs a b := ⟨h.t.mono hs, h.n⟩
theorem DocP.turnD {bs : List Nat} {w w' : World} {td : Nat} {dx : DX} {T : TS} (h : DocP dx w td T) (ht : TurnD bs w w') (h1 : td ∉ bs) : DocP dx w' td T := by
  have e := ht.t.block td h.lt h1
  obtain ⟨a, c, g1, g2, g3⟩ := h.ex
  exact ⟨⟨a, c, e.trans g1, g2, ht.n _ _ g3⟩⟩
theorem own_keep {w w' : World} {base : Nat} {e : TypeId} {size : Nat} {a : Option Addr} {n c : Nat} {xs : List Value} (h : w.ownsRow base e size (.slice a n c) n xs) (hb : ∀ g ∈ abl a, w'.heap[g]? = w.heap[g]?) : w'.ownsRow base e size (.slice a n c) n xs := by
  refine ⟨h.1, ?_⟩
  rcases h.2 with h2 | ⟨g, cap, cur, e1, h1, hg, h3⟩
  · exact .inl h2
  · refine .inr ⟨g, cap, cur, e1, h1, ?_, h3⟩
    obtain ⟨e2, _, _⟩ := Value.slice.inj e1
    subst e2
    exact (hb g (by simp [abl])).trans hg
theorem own_type {w : World} {base : Nat} {e : TypeId} {size : Nat} {a : Option Addr} {n c : Nat} {xs : List Value} (h : w.ownsRow base e size (.slice a n c) n xs) : ∀ g ∈ abl a, base ≤ g ∧ ∃ cur, w.heap[g]? = some (.cells cur e (0, 0)) := by
  intro g hg
  rcases h.2 with ⟨e1, _⟩ | ⟨g', cap, cur, e1, h1, hb, h3⟩
  · obtain ⟨e2, _, _⟩ := Value.slice.inj e1
    subst e2
    simp [abl] at hg
  · obtain ⟨e2, _, _⟩ := Value.slice.inj e1
    subst e2
    simp [abl] at hg
    subst hg
    exact ⟨h1, cur, hb⟩
/-- The document's state. -/
structure DocS (w : World) (base sd : Nat) (fa : Option Addr) (S : FS) : Prop where
  ex : ∃ (F : List FileM) (c : Nat), F.map FileM.pair = S.fs ∧ DocP (dxS fa F.length c) w sd S.t ∧ w.ownsRow base 70 3 (.slice fa F.length c) F.length (encF.cells F) ∧ ∀ f ∈ F, f.ok w
  lb : base ≤ sd
theorem DocS.lt {w : World} {base sd : Nat} {fa : Option Addr} {S : FS} (h : DocS w base sd fa S) : sd < w.heap.size := by
  obtain ⟨F, c, _, h2, _⟩ := h.ex
  exact h2.lt
theorem DocS.row {w : World} {base sd : Nat} {fa : Option Addr} {S : FS} (h : DocS w base sd fa S) : ∀ g ∈ abl fa, base ≤ g ∧ g < w.heap.size ∧ g ≠ sd := by
  obtain ⟨F, c, _, h2, h3, _⟩ := h.ex
  intro g hg
  obtain ⟨h4, cur, h5⟩ := own_type h3 g hg
  refine ⟨h4, (Array.getElem?_eq_some_iff.1 h5).1, ?_⟩
  obtain ⟨a, c2, h6, _⟩ := h2.ex
  rintro rfl
  rw [h5] at h6
  simp [dxS] at h6
theorem DocS.nostr {w : World} {base sd : Nat} {fa : Option Addr} {S : FS} (h : DocS w base sd fa S) : NoStr w sd := by
  obtain ⟨F, c, _, h2, _⟩ := h.ex
  exact h2.nostr
theorem DocS.nopt {w : World} {base sd : Nat} {fa : Option Addr} {S : FS} (h : DocS w base sd fa S) : ∀ x ∈ sd :: abl fa, NoPt w x := by
  obtain ⟨F, c, _, h2, h3, _⟩ := h.ex
  obtain ⟨a, c2, h6, _⟩ := h2.ex
  intro x hx
  rcases List.mem_cons.1 hx with rfl | hx
  · exact .of_cells h6 (show 66 ≠ 40 by decide) (show 66 ≠ 87 by decide)
  · obtain ⟨_, cur, h5⟩ := own_type h3 x hx
    exact .of_cells h5 (by decide) (by decide)
theorem DocS.turn {bs : List Nat} {w w' : World} {base sd : Nat} {fa : Option Addr} {S : FS} (h : DocS w base sd fa S) (ht : TurnD bs w w') (h1 : sd ∉ bs) (h2 : ∀ g ∈ abl fa, g ∉ bs) (h3 : ∀ b ∈ bs, NoPt w b) : DocS w' base sd fa S := by
  have hr := h.row
  obtain ⟨F, c, f1, f2, f3, f4⟩ := h.ex
  exact ⟨⟨F, c, f1, f2.turnD ht h1, own_keep f3 fun g hg => ht.t.block g (hr g hg).2.1 (h2 g hg), fun f hf => ⟨(f4 f hf).1.turnP ht.t h3, (f4 f hf).2⟩⟩, h.lb⟩
theorem DocS.below {w w' : World} {base sd : Nat} {fa : Option Addr} {S : FS} (h : DocS w base sd fa S) (hb : Below w.heap.size w w') : DocS w' base sd fa S := h.turn (bs := []) (.of_below hb) (by simp) (by simp) (by simp)
/-- What its tree's methods turn. -/
theorem DocS.tree {w : World} {base sd : Nat} {fa : Option Addr} {S : FS} (h : DocS w base sd fa S) : ∃ dx, DocP dx w sd S.t ∧ ∀ w' T', Turn [sd] w w' → DocP dx w' sd T' → DocS w' base sd fa ⟨T', S.fs⟩ ∧ TurnD [sd] w w' := by
  have hr := h.row
  have hn := h.nopt
  have hs := h.nostr
  obtain ⟨F, c, f1, f2, f3, f4⟩ := h.ex
  refine ⟨_, f2, fun w' T' ht hD => ⟨⟨⟨F, c, f1, hD, own_keep f3 fun g hg => ht.block g (hr g hg).2.1 (by simpa using (hr g hg).2.2), fun f hf => ⟨(f4 f hf).1.turnP ht ?_, (f4 f hf).2⟩⟩, h.lb⟩, .of_turn ht (by simpa using hs)⟩⟩
  intro x hx
  exact hn x (by simp only [List.mem_singleton] at hx; simp [hx])
theorem DocP.cell2 {w : World} {td : Nat} {a : Option Addr} {n c : Nat} {T : TS} (h : DocP (dxS a n c) w td T) : w.cell? ⟨td, 2, none⟩ = some (.slice a n c) ∧ w.frozen? ⟨td, 2, none⟩ = false := by
  obtain ⟨a1, c1, h1, _⟩ := h.ex
  constructor
  · unfold World.cell?; rw [h1]; rfl
  · unfold World.frozen?; rw [h1]; simp
/-- A file's cells. -/
theorem rowF_at {w : World} {base : Nat} {fa : Option Addr} {F : List FileM} {c : Nat} (h : w.ownsRow base 70 3 (.slice fa F.length c) F.length (encF.cells F)) {k : Nat} (hk : k < F.length) :
    ∃ g, fa = some ⟨g, 0, none⟩ ∧ w.cell? ⟨g, k * 3, none⟩ = some (.int .i64 (F.getD k default).id) ∧ w.cell? ⟨g, k * 3 + 1, none⟩ = some (.int .i64 (F.getD k default).bd.size) ∧ w.cell? ⟨g, k * 3 + 2, none⟩ = some (.slice (F.getD k default).a (F.getD k default).bd.parts.length (F.getD k default).c) ∧ g < w.heap.size ∧ F.length ≤ c := by
  rcases h.2 with ⟨e1, e2⟩ | ⟨g, cap, cur, e1, h1, hg, h3, h4, h5, h6⟩
  · omega
  · obtain ⟨rfl, _, rfl⟩ := Value.slice.inj e1
    have e : F[k] = F.getD k default := by simp [List.getD, hk]
    have hc : ∀ j u, (encF.enc (F.getD k default))[j]? = some u → w.cell? ⟨g, k * 3 + j, none⟩ = some u := fun j u hu => by
      have hj : j < 3 := (List.getElem?_eq_some_iff.1 hu).1
      have h7 := cellsK_get encF hk j hj
      rw [e, hu] at h7
      have h8 := h.cells (g := g) rfl _ _ h7
      unfold Addr.add at h8
      by_cases h9 : k * encF.K + j = 0
      · rw [if_pos h9] at h8
        have h9 : k * 3 + j = 0 := h9
        rw [h9]; exact h8
      · rw [if_neg h9, show encF.K = 3 from rfl] at h8
        simpa using h8
    exact ⟨g, rfl, hc 0 _ rfl, hc 1 _ rfl, hc 2 _ rfl, (Array.getElem?_eq_some_iff.1 hg).1, h3⟩
end Go.Proofs.YtiegadfhgccliaaGreatDoor
namespace Go.Proofs.YtiegadfhgccliaaGreatDoor
open Go.RowKit Go.Lib
open Go.ChangeMaps (setBlock)

theorem info_fl : (Tryz.prog.info? 70).map (fun i => (i.zero, i.size, i.bytes)) = some (some (.agg #[.int .i64 0, .int .i64 0, .slice none 0 0]), 3, 40) := by kernel_rfl
theorem DocS.mono {w : World} {base b2 sd : Nat} {fa : Option Addr} {S : FS} (h : DocS w base sd fa S) (hb : b2 ≤ base) : DocS w b2 sd fa S := by
  obtain ⟨F, c, f1, f2, f3, f4⟩ := h.ex
  refine ⟨⟨F, c, f1, f2, ⟨f3.1, ?_⟩, f4⟩, Nat.le_trans hb h.lb⟩
  rcases f3.2 with h0 | ⟨g, cap, cur, e1, h1, r⟩
  · exact .inl h0
  · exact .inr ⟨g, cap, cur, e1, Nat.le_trans hb h1, r⟩
set_option maxRecDepth 100000 in
set_option maxHeartbeats 4000000 in
theorem doc_new (w : World) : Calls Tryz.prog 18 #[] w fun e w' => e = .returned (.pointer (some ⟨w.heap.size, 0, none⟩)) ∧ DocS w' w.heap.size w.heap.size none ⟨⟨[], 1⟩, []⟩ ∧ Below w.heap.size w w' ∧ w'.heap.size = w.heap.size + 1 := by
  go_enter Tryz.func18, Tryz.ntmps18
  go_wp2
  go_ret
  refine ⟨rfl, ⟨⟨[], 0, rfl, ⟨⟨none, 0, heap_alloc_new w _, Nat.le_refl _, .inl rfl⟩⟩, World.ownsRow_nil _ _ _ _, by simp⟩, Nat.le_refl _⟩, (Below.refl _ _).alloc (Nat.le_refl _) _, by simp⟩
set_option maxRecDepth 100000 in
set_option maxHeartbeats 4000000 in
/-- Body: the place of a file's body; nil: no file's. -/
theorem doc_body (id : Int) (w : World) {base sd : Nat} {T : TS} {fa : Option Addr} {F : List FileM} {c : Nat} (hD : DocP (dxS fa F.length c) w sd T) (hO : w.ownsRow base 70 3 (.slice fa F.length c) F.length (encF.cells F)) (hl : F.length ≤ 1000000) :
    Calls Tryz.prog 49 #[.pointer (some ⟨sd, 0, none⟩), .int .i64 id] w fun e w' => w' = w ∧ (((∀ f ∈ F, f.id ≠ id) ∧ e = .returned (.pointer none)) ∨ ∃ k g, k < F.length ∧ (F.getD k default).id = id ∧ (∀ j, j < k → (F.getD j default).id ≠ id) ∧ fa = some ⟨g, 0, none⟩ ∧ e = .returned (.pointer (some ⟨g, k * 3 + 1, none⟩))) := by
  have HO := Lib.hid hO
  have HD := Lib.hid hD
  obtain ⟨c2, _⟩ := hD.cell2
  clear hD hO
  go_enter Tryz.func49, Tryz.ntmps49
  go_wp2
  go_loopw [5] (fun i wr => ∃ k : Nat, k ≤ F.length ∧ i = .int .i64 (k : Int) ∧ wr = w ∧ Hid (∀ j, j < k → (F.getD j default).id ≠ id)) (fun i _ => F.length - (intOf i).toNat)
  case atStart => exact ⟨0, by omega, rfl, rfl, Lib.hid fun j hj => by omega⟩
  case round =>
    obtain ⟨k, hk, rfl, rfl, HF⟩ := hrel
    by_cases hlt : k < F.length
    · obtain ⟨g, rfl, p0, _, _, _, hcc⟩ := rowF_at HO.out hlt
      have hki : (k : Int) < (F.length : Int) := by omega
      have hkc : (k : Int) < (c : Int) := by omega
      generalize hfi : (F.getD k default).id = fi at *
      by_cases he : fi = id
      · subst he
        have HE : Hid ((F.getD k default).id = fi) := Lib.hid hfi
        clear hfi
        go_wp2
        go_ret
        exact ⟨rfl, .inr ⟨k, g, hlt, HE.out, HF.out, rfl, rfl⟩⟩
      · have HF2 : Hid (∀ j, j < k + 1 → (F.getD j default).id ≠ id) := fun j hj => by
          by_cases e : j = k
          · subst e; rw [hfi]; exact he
          · exact HF.out j (by omega)
        clear hfi HF
        go_wp2
        exact ⟨⟨k + 1, by omega, by go_num, trivial, HF2⟩, by simp [intOf]; omega⟩
    · obtain rfl : k = F.length := by omega
      have hlt' : decide ((F.length : Int) < (F.length : Int)) = false := by simp
      clear hlt
      go_wp2
      go_ret
      refine ⟨rfl, .inl ⟨fun f hf => ?_, rfl⟩⟩
      obtain ⟨j, hj, rfl⟩ := List.getElem_of_mem hf
      have := HF.out j hj
      simpa [List.getD, hj] using this
theorem wpList_append_any {P : Program} (w : World) {ops : Array Oper} {rest : List Oper} {o : Oper} {a : Act} {Q : Exit → Act → World → Prop} (hgd : o.guard = none) (s x : Operand) (t : TypeId)
    (ho : o.op = .call { callee := .builtin .append, args := #[s, x], argTypes := #[t, t] })
    (base : Nat) (e : TypeId) (i : TypeInfo) (z : Value) (size bytes : Nat) (ht : P.underlying t = some (.slice e)) (hi : P.info? e = some i) (hz : i.zero = some z)
    (hsize : i.size = size) (hby : i.bytes = bytes) (hzs : z.cells.size = size) (hsz : 0 < size)
    (v : Value) (n : Nat) (xs : List Value) (hs : a.eval s = v) (hown : w.ownsRow base e size v n xs)
    (ad : Option Addr) (m c : Nat) (news : List Value) (hx : a.eval x = .slice ad m c) (hl : news.length = m * size) (hnews : ∀ j u, news[j]? = some u → ∃ b, ad = some b ∧ w.cell? (b.add j) = some u) (h1 : ∀ u ∈ news, u.oneCell' = true)
    (h63 : n + m ≤ maxLen) (hbytes : (n + m) * bytes ≤ 140737488355328) (hbase : base ≤ w.heap.size)
    (h : ∀ v' w', w'.ownsRow base e size v' (n + m) (xs ++ news) → w.grownBy w' v.ownBlock → (v'.ownBlock = v.ownBlock ∨ v'.ownBlock = some w.heap.size) → wpList P ops Q rest (a.put o.dst v') w') : wpList P ops Q (o :: rest) a w :=
  wpList_plain hgd fun _ hK => by
    obtain ⟨v', w', hr, h2, h3, h4⟩ := run_append_any (P := P) w t o.type e base i z size bytes ht hi hz hsize hby hzs hsz v n xs hown ad m c news hl hnews h1 h63 hbytes hbase
    unfold Oper.wp execOp
    simp only [ho, resolve, invoke, builtin, Sem.run_bind, Sem.run_pure, Result.andThen_ok, List.map_toArray, List.map_cons, List.map_nil, hs, hx, hr]
    exact hK _ _ (h v' w' h2 h3 h4)
theorem take_keepA {α : Type} [Inhabited α] {L : List α} {k : Nat} (hk : k < L.length) (p : α → Bool) : (L.take (k + 1)).filter p = (L.take k).filter p ++ (if p (L.getD k default) then [L.getD k default] else []) := by
  have e : L.take (k + 1) = L.take k ++ [L.getD k default] := by
    rw [List.take_succ_eq_append_getElem hk]
    congr 2
    simp [List.getD, hk]
  rw [e, List.filter_append, List.filter_cons, List.filter_nil]
def keepF (id : Int) (f : FileM) : Bool := !decide (f.id = id)
theorem keepF_map (id : Int) (F : List FileM) : (F.filter (keepF id)).map FileM.pair = dropF (F.map FileM.pair) id := by
  unfold dropF
  rw [List.filter_map]
  rfl
theorem dxs_set2 {w : World} {sd : Nat} {fa a2 : Option Addr} {n c n2 c2 : Nat} {s x : Value} {t : TypeId} {f : Nat × Nat} (h : w.heap[sd]? = some (.cells (dC (dxS fa n c) s x) t f)) : (w.setCell ⟨sd, 2, none⟩ (.slice a2 n2 c2)).heap[sd]? = some (.cells (dC (dxS a2 n2 c2) s x) t f) := by
  rw [heap_setCell_at h 2 _]
  unfold dC dxS
  simp
/-- 's.Files = l'. -/
theorem DocS.setfiles {w W : World} {base sd n c : Nat} {fa : Option Addr} {T : TS} {F : List FileM} {v : Value} (hsd : sd < w.heap.size) (hlb : base ≤ sd) (hn : TurnD [sd] w W) (hD : DocP (dxS fa n c) W sd T) {b0 : Nat} (hb0 : w.heap.size ≤ b0) (hO : W.ownsRow b0 70 3 v F.length (encF.cells F)) (hok : ∀ f ∈ F, f.ok W) :
    ∃ a2 c2, v = .slice a2 F.length c2 ∧ DocS (W.setCell ⟨sd, 2, none⟩ v) base sd a2 ⟨T, F.map FileM.pair⟩ ∧ TurnD [sd] w (W.setCell ⟨sd, 2, none⟩ v) ∧ ∀ g ∈ abl a2, w.heap.size ≤ g := by
  obtain ⟨a2, c2, rfl, hc2, _, _⟩ := SlK.own (E := encF) hO
  obtain ⟨a, c0, h1, h2, h3⟩ := hD.ex
  have hns : NoStr W sd := hD.nostr
  have hnp : NoPt W sd := .of_cells h1 (show 66 ≠ 40 by decide) (show 66 ≠ 87 by decide)
  have ht : Turn [sd] W (W.setCell ⟨sd, 2, none⟩ (.slice a2 F.length c2)) := (Turn.refl _ _).setCell (p := ⟨sd, 2, none⟩) (.inl (by simp)) _
  have hty := own_type hO
  refine ⟨a2, c2, rfl, ⟨⟨F, c2, rfl, ⟨⟨a, c0, dxs_set2 h1, h2, h3.turnS ht (by simpa using hns)⟩⟩, ?_, fun f hf => ⟨(hok f hf).1.turnP ht (by simpa using hnp), (hok f hf).2⟩⟩, hlb⟩, hn.trans (.of_turn ht (by simpa using hns)), fun g hg => Nat.le_trans hb0 (hty g hg).1⟩
  have := own_keep (w' := W.setCell ⟨sd, 2, none⟩ (.slice a2 F.length c2)) hO fun g hg => ht.block g (Array.getElem?_eq_some_iff.1 (hty g hg).2.choose_spec).1 (by have := (hty g hg).1; simp; omega)
  refine ⟨this.1, ?_⟩
  rcases this.2 with h0 | ⟨g, cap, cur, e1, h4, r⟩
  · exact .inl h0
  · exact .inr ⟨g, cap, cur, e1, by omega, r⟩
set_option maxRecDepth 100000 in
set_option maxHeartbeats 4000000 in
/-- drop. -/
theorem doc_dropf (id : Int) (w : World) {base sd : Nat} {fa : Option Addr} {S : FS} (hS : DocS w base sd fa S) (hl : S.fs.length ≤ 1000000) :
    Calls Tryz.prog 78 #[.pointer (some ⟨sd, 0, none⟩), .int .i64 id] w fun e w' => e = .returned (.tuple #[]) ∧ ∃ fa', DocS w' base sd fa' ⟨S.t, dropF S.fs id⟩ ∧ TurnD [sd] w w' ∧ ∀ g ∈ abl fa', w.heap.size ≤ g := by
  have hlb := hS.lb
  obtain ⟨F, c, f1, f2, f3, f4⟩ := hS.ex
  have hFl : F.length ≤ 1000000 := by rw [← f1, List.length_map] at hl; exact hl
  obtain ⟨i0, hi, hz0, hz1, hz2⟩ := info_parts info_fl
  have hsd := f2.lt
  have HD := Lib.hid f2
  have HO := Lib.hid f3
  have HF4 := Lib.hid f4
  have HE := Lib.hid f1
  clear f1 f2 f3 f4 hS hl
  go_enter Tryz.func78, Tryz.ntmps78
  go_wp2
  go_loopw [4, 5] (fun v i wr => ∃ k : Nat, k ≤ F.length ∧ i = .int .i64 (k : Int) ∧ Hid (wr.ownsRow w.heap.size 70 3 v ((F.take k).filter (keepF id)).length (encF.cells ((F.take k).filter (keepF id)))) ∧ Hid (Below w.heap.size w wr)) (fun _ i _ => F.length - (intOf i).toNat)
  case atStart => exact ⟨0, by omega, rfl, Lib.hid (World.ownsRow_nil _ _ _ _), Lib.hid (Below.refl _ _)⟩
  case round =>
    obtain ⟨k, hk, rfl, HOr, HB⟩ := hrel
    obtain ⟨c2, fz2⟩ := (HD.out.below HB.out).cell2
    by_cases hlt : k < F.length
    · obtain ⟨g, rfl, p0, p1, p2, hgl, hcc⟩ := rowF_at (own_below_any HO.out HB.out) hlt
      have hki : (k : Int) < (F.length : Int) := by omega
      have hkc : (k : Int) < (c : Int) := by omega
      have htk := take_keepA hlt (keepF id)
      have hul : ((F.take k).filter (keepF id)).length ≤ 1000000 := Nat.le_trans (List.length_filter_le _ _) (by rw [List.length_take]; omega)
      generalize F.getD k default = f at *
      obtain ⟨fi, ⟨fsz, fps⟩, fpa, fpc⟩ := f
      dsimp only at p0 p1 p2
      have HTk := Lib.hid htk
      clear htk
      by_cases he : fi = id
      · have hq : (fi != id) = false := by simp [he]
        have HK2 : Hid ((F.take (k + 1)).filter (keepF id) = (F.take k).filter (keepF id)) := Lib.hid (by rw [HTk.out]; simp [keepF, he])
        clear he
        go_wp2
        exact ⟨⟨k + 1, by omega, by go_num, by rw [HK2.out]; exact HOr, HB⟩, by simp [intOf]; omega⟩
      · have hq : (fi != id) = true := by simpa using he
        have HK2 : Hid ((F.take (k + 1)).filter (keepF id) = (F.take k).filter (keepF id) ++ [⟨fi, ⟨fsz, fps⟩, fpa, fpc⟩]) := Lib.hid (by rw [HTk.out]; simp [keepF, he])
        clear he
        go_wp2_with (at_builtin; refine wpList_append_own _ rfl (.tmp 25) (.tmp 33) 64 rfl w.heap.size 70 i0 _ 3 40 Tryz.underlying64 hi hz0 hz1 hz2 rfl (by decide) _ _ _ rfl (HOr.out.alloc _) ⟨wr.heap.size, 0, none⟩ 1 1 [.int .i64 fi, .int .i64 fsz, .slice fpa fps.length fpc] rfl rfl (new3b _ _ _ _ _ _ rfl) (by intro u hu; simp at hu; rcases hu with rfl | rfl | rfl <;> rfl) (by unfold maxLen; omega) (by omega) (by have := HB.out.size; simp; omega) ?_; intro v' w3 hown' hgrow hnil; clear hnil; have HO2 := Lib.hid hown'; have HG := Lib.hid hgrow; clear hown' hgrow)
        refine ⟨⟨k + 1, by omega, by go_num, ?_, ?_⟩, by simp [intOf]; omega⟩
        · have := HO2.out
          rw [HK2.out, cellsK_snoc, List.length_append, List.length_singleton]
          exact Lib.hid this
        · exact Lib.hid (grown_below (HB.out.alloc HB.out.size _) (by have := HB.out.size; simp; omega) (HOr.out.alloc _) HG.out)
    · obtain rfl : k = F.length := by omega
      have hlt' : decide ((F.length : Int) < (F.length : Int)) = false := by simp
      have ho := HOr.out
      rw [List.take_length] at ho
      obtain ⟨a0, c0, rfl, _, _, _⟩ := SlK.own (E := encF) ho
      have HE2 := Lib.hid (DocS.setfiles hsd hlb (.of_below HB.out) (HD.out.below HB.out) (Nat.le_refl _) ho fun f hf => ⟨((HF4.out f (List.mem_filter.1 hf).1).1).below HB.out, (HF4.out f (List.mem_filter.1 hf).1).2⟩)
      have hsdl := Nat.lt_of_lt_of_le hsd HB.out.size
      clear hlt ho HOr
      go_wp2
      all_goals (first | go_end0 | refine bodyPost_ret (results_none rfl _ _ _) rfl ?_)
      obtain ⟨a2, c3, hv, h1, h2, h3⟩ := HE2.out
      rw [keepF_map, HE.out] at h1
      exact ⟨rfl, a2, h1, h2, h3⟩
end Go.Proofs.YtiegadfhgccliaaGreatDoor
