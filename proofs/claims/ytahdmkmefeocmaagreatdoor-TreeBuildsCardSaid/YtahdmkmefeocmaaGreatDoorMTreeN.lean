/- Walks of package tree: Nodes. -/
import Derived.Test.YtahdmkmefeocmaaGreatDoorMTreeK
import Derived.Test.YtahdmkmefeocmaaGreatDoorMIter
import Derived.Test.YtahdmkmefeocmaaGreatDoorMNews
namespace Go.Proofs.YtahdmkmefeocmaaGreatDoor
open Go.RowKit Go.Lib Go.Maps
open Go.ChangeMaps (setBlock)
open Go.WideElems (Fit rd rg rg_of)

/-- How an element reads where nobody asks. -/
def rAny : Value → Option (DataW Unit × List MemPlace) := fun _ => some (.nil, [])
def keyB : Value → List UInt8
  | .string s => s.data.toList
  | _ => []
theorem keys_of {P : Program} {k : TypeId} {R : Value → Option (DataW Unit × List MemPlace)} {es : List MapEntry} (h : ∀ x ∈ es, ∃ s : ByteArray, x.key = .string s ∧ rd P k R x = some (.string s.data.toList, .nil)) :
    (es.map (rg P k R)).map (fun p => strOf p.1) = (es.map fun e => (e.key, e.val)).map fun q => keyB q.1 := by
  rw [List.map_map, List.map_map]
  refine List.map_congr_left fun x hx => ?_
  obtain ⟨s, h1, h2⟩ := h x hx
  show strOf (rg P k R x).1 = keyB x.key
  rw [rg_of h2, h1]
  rfl
theorem TreeAt.owns {w : World} {tb mb : Nat} {L : List Nd} {nx : Int} (h : TreeAt w tb mb L nx) (hs : ∀ n ∈ L, n.path.size ≤ maxLen) (hn : L.length ≤ maxLen) :
    ∃ D : DataW Unit, w.ownsMap Tryz.prog 9 rAny mb L.length D ∧ (strKeys D).Perm (raws (L.map (·.path))) ∧ Maps.size D = L.length := by
  obtain ⟨es, clock, hb, hst, hM⟩ := h.map
  have hl : es.size = L.length := by
    have := congrArg List.length hM
    simpa [ents] using this
  have hrd : ∀ x ∈ es.toList, ∃ s : ByteArray, x.key = .string s ∧ rd Tryz.prog 9 rAny x = some (.string s.data.toList, .nil) := by
    intro x hx
    obtain ⟨p, hp, e1, _⟩ := es_keys (K := strKey) hM x hx
    obtain ⟨n, hn1, rfl⟩ := List.mem_map.1 hp
    have e1 : x.key = .string n.path := e1
    refine ⟨n.path, e1, ?_⟩
    have hsz := hs n hn1
    have hk : keyOf Tryz.prog 9 x.key = some (.string n.path.data.toList) := by
      rw [e1]
      unfold keyOf
      rw [Tryz.underlying9]
      simp [mapKey, hsz]
    simp [rd, hk, rAny]
  refine ⟨_, ⟨es, clock, hb, ⟨by omega, hst, fun x hx => ?_⟩, by omega, rfl⟩, ?_, ?_⟩
  · obtain ⟨s, _, h2⟩ := hrd x hx
    exact ⟨_, h2⟩
  · show (((es.toList.map (rg Tryz.prog 9 rAny)).foldr DataW.insert []).map fun p => strOf p.1).Perm _
    have hp := (Go.WideShapes.sorted_perm (es.toList.map (rg Tryz.prog 9 rAny))).map (fun p => strOf p.1)
    refine hp.trans ?_
    have e : (es.toList.map (rg Tryz.prog 9 rAny)).map (fun p => strOf p.1) = raws (L.map (·.path)) := by
      have e1 := keys_of hrd
      have e2 : (es.toList.map fun e => (e.key, e.val)).map (fun q => keyB q.1) = raws (L.map (·.path)) := by
        rw [hM]
        unfold ents raws
        rw [List.map_map, List.map_map, List.map_map]
        rfl
      exact e1.trans e2
    exact e ▸ List.Perm.refl _
  · show ((es.toList.map (rg Tryz.prog 9 rAny)).foldr DataW.insert []).length = L.length
    rw [(Go.WideShapes.sorted_perm _).length_eq, List.length_map, Array.length_toList, hl]
theorem path_small {T : TS} (h : TInv T) : ∀ n ∈ T.L, n.path.size ≤ maxLen := fun n hn => by
  have := path_size h n hn
  unfold maxLen
  omega
theorem sorted_paths {T : TS} (h : TInv T) {ss : List (List UInt8)} (hp : ss.Perm (raws (T.L.map (·.path)))) : (ss.mergeSort (fun x y => decide (x ≤ y))).map encStr = (T.L.map (·.path)).map Value.string := by
  have h1 : (ss.map mkB).Perm (T.L.map (·.path)) := by
    have := hp.map mkB
    rw [raws, List.map_map] at this
    have e : (T.L.map (·.path)).map (mkB ∘ fun x : ByteArray => x.data.toList) = T.L.map (·.path) := by
      conv => rhs; rw [← List.map_id (T.L.map (·.path))]
      exact List.map_congr_left fun x _ => mkB_of x
    rw [e] at this
    exact this
  have h2 := sort_uniq h1 (List.pairwise_map.2 h.rises)
  unfold sortB at h2
  have e : (ss.map mkB).map (·.data.toList) = ss := by
    rw [List.map_map]
    conv => rhs; rw [← List.map_id ss]
    exact List.map_congr_left fun x _ => mkB_toList x
  rw [e] at h2
  rw [← h2, List.map_map]
  refine List.map_congr_left fun x _ => ?_
  rfl
set_option maxRecDepth 100000 in
set_option maxHeartbeats 4000000 in
/-- Paths. -/
theorem tree_paths (w : World) {tb mb : Nat} {T : TS} (hT : TreeP w tb mb T) (hI : TInv T) :
    Calls Tryz.prog 30 #[.pointer (some ⟨tb, 0, none⟩)] w fun e w' => ∃ a c, e = .returned (.slice a T.L.length c) ∧ T.L.length ≤ c ∧ SlS w' a (T.L.map (·.path)) ∧ Below w.heap.size w w' := by
  obtain ⟨L, hp, hA⟩ := hT
  have hlen := hp.length_eq
  have hfew := hI.few
  obtain ⟨D, hown, hkeys, hsz⟩ := hA.owns (fun n hn => path_small hI n (hp.mem_iff.1 hn)) (by unfold maxLen; omega)
  have hc0 := hA.c0
  have HSo : Hid (∀ ss : List (List UInt8), ss.Perm (strKeys D) → (ss.mergeSort (fun x y => decide (x ≤ y))).map encStr = (T.L.map (·.path)).map Value.string ∧ ss.length = T.L.length) := fun ss hss => by
    have h1 : ss.Perm (raws (T.L.map (·.path))) := by
      refine (hss.trans hkeys).trans ?_
      unfold raws
      exact (hp.map _).map _
    refine ⟨sorted_paths hI h1, ?_⟩
    rw [h1.length_eq]
    simp [raws]
  have HOwn := Lib.hid hown
  have hsz1 : Maps.size D ≤ maxLen := by unfold maxLen; omega
  have hsz2 : Maps.size D * 16 ≤ 140737488355328 := by omega
  clear hown hkeys hp hA hI
  refine (callsIn_wide (n := 6)).1 ?_
  have hfK : Fence.wide.fn 55 := trivial
  have hfS : Fence.wide.fn 54 := trivial
  refine callsIn_of_wp Tryz.func30 rfl trivial ?_ rfl
  simp only [Tryz.ntmps30, List.size_toArray, List.length_cons, List.length_nil, Nat.reduceAdd, Nat.reduceSub, Array.replicate_succ, Array.replicate_zero, List.push_toArray, List.append_toArray, List.nil_append, List.cons_append]
  gi_wp2_with (first
    | (gi_at_call 55; refine (Tryz.maps_Keys_55 _ _).mono ?_; rintro e w' ⟨rfl, rfl⟩)
    | (gi_at_call 54; refine (Tryz.slices_Sorted_keys_54_55 mb L.length D rAny w HOwn.out hsz1 hsz2).mono ?_; rintro e w' ⟨v, ss, rfl, hS, hrow, hnil, hb⟩))
  go_ret
  obtain ⟨h1, h2⟩ := HSo.out ss hS
  rw [h1, h2] at hrow
  have hl : (T.L.map (·.path)).length = T.L.length := by simp
  rw [← hl] at hrow
  obtain ⟨a, c, rfl, hc, hSl⟩ := SlS.own hrow
  rw [hl] at hc
  rw [hl]
  exact ⟨a, c, rfl, hc, hSl, ((Below.refl _ w).alloc (Nat.le_refl _) _).trans (hb.mono (by simp))⟩
end Go.Proofs.YtahdmkmefeocmaaGreatDoor
namespace Go.Proofs.YtahdmkmefeocmaaGreatDoor
open Go.RowKit Go.Lib Go.Maps
open Go.ChangeMaps (setBlock)

set_option maxRecDepth 100000 in
set_option maxHeartbeats 4000000 in
/-- Nodes. -/
theorem tree_nodes (w : World) {tb mb : Nat} {T : TS} (hT : TreeP w tb mb T) (hI : TInv T) :
    Calls Tryz.prog 23 #[.pointer (some ⟨tb, 0, none⟩)] w fun e w' => ∃ a c, e = .returned (.slice a T.L.length c) ∧ T.L.length ≤ c ∧ SlN w' a T.L ∧ Below w.heap.size w w' := by
  have HPa := Lib.hid (tree_paths w hT hI)
  have HT := Lib.hid hT
  have HI := Lib.hid hI
  have hfew := hI.few
  have HAp := Lib.hid hI.rises.apart
  obtain ⟨i0, hi, hz0, hz1, hz2⟩ := info_parts info_nd
  clear hT hI
  go_enter Tryz.func23, Tryz.ntmps23
  go_wp2_with fail
  refine HPa.out.mono ?_
  rintro e w1 ⟨ap, cp, rfl, hcp, hS1, hB1⟩
  have HB1 := Lib.hid hB1
  have HS1 := Lib.hid hS1
  clear hB1 hS1
  go_wp2
  go_loopw [3, 9] (fun v i wr => ∃ (k : Nat) (sv : Value), k ≤ T.L.length ∧ v = sv ∧ i = .int .i64 (k : Int) ∧ Hid (wr.ownsRow w1.heap.size 54 3 sv k (cellsN (T.L.take k))) ∧ Hid (Below w1.heap.size w1 wr)) (fun _ i _ => T.L.length - (intOf i).toNat)
  case atStart => exact ⟨0, _, by omega, rfl, rfl, Lib.hid (World.ownsRow_nil _ _ _ _), Lib.hid (Below.refl _ _)⟩
  case round =>
    obtain ⟨k, sv, hk, hsv, rfl, HO, HB⟩ := hrel
    have hsv' := hsv.symm
    subst hsv'
    by_cases hlt : k < T.L.length
    · have hB0 := blw HB1.out HB.out
      have hTP := HT.out.below hB0
      obtain ⟨hc0, _, _⟩ := hTP.facts
      obtain ⟨b, o, rfl, p0, _⟩ := (HS1.out.below HB.out).at_ (k := k) (by simpa using hlt)
      have hki : (k : Int) < (T.L.length : Int) := by omega
      have hkc : (k : Int) < (cp : Int) := by omega
      have hgd : (T.L.map (·.path)).getD k default = (T.L.getD k default).path := by simp [List.getD, hlt]
      have hmem : T.L.getD k default ∈ T.L := by simp [List.getD, hlt]
      have hlk := hTP.look1 HAp.out (T.L.getD k default).path
      rw [fnd_mem HAp.out hmem] at hlk
      have hsn : cellsN (T.L.take (k + 1)) = cellsN (T.L.take k) ++ [.string (T.L.getD k default).path, .int .i64 (T.L.getD k default).id, .bool (T.L.getD k default).dir] := by
        rw [← cellsN_snoc, List.take_succ_eq_append_getElem hlt]
        congr 2
        simp [List.getD, hlt]
      rw [hgd] at p0
      have HSn := Lib.hid hsn
      generalize T.L.getD k default = n at *
      obtain ⟨np, ni, nd⟩ := n
      replace hlk : (Instr.lookup 61 (.map (some mb)) (.string np) false).run Tryz.prog wr = .ok (.agg #[.string np, .int .i64 ni, .bool nd]) wr := hlk
      dsimp only at p0
      clear hsn hgd hmem hTP hB0
      go_wp2_with (at_builtin; refine wpList_append_own _ rfl (.tmp 13) (.tmp 20) 51 rfl w1.heap.size 54 i0 _ 3 32 Tryz.underlying51 hi hz0 hz1 hz2 rfl (by decide) _ _ _ rfl (HO.out.alloc _) ⟨wr.heap.size, 0, none⟩ 1 1 [.string np, .int .i64 ni, .bool nd] rfl rfl (new3b _ _ _ _ _ _ rfl) (by intro u hu; simp at hu; rcases hu with rfl | rfl | rfl <;> rfl) (by unfold maxLen; omega) (by omega) (by have := HB.out.size; simp; omega) ?_; intro v' w3 hown' hgrow hnil; clear hnil; have HO2 := Lib.hid hown'; have HG := Lib.hid hgrow; clear hown' hgrow)
      refine ⟨⟨k + 1, v', by omega, rfl, by go_num, ?_, ?_⟩, by simp [intOf]; omega⟩
      · have := HO2.out
        rw [HSn.out]
        exact Lib.hid this
      · exact Lib.hid (grown_below (HB.out.alloc HB.out.size _) (by have := HB.out.size; simp; omega) (HO.out.alloc _) HG.out)
    · obtain rfl : k = T.L.length := by omega
      have hlt' : decide ((T.L.length : Int) < (T.L.length : Int)) = false := by simp
      have ho := HO.out
      rw [List.take_length] at ho
      obtain ⟨a2, c2, rfl, hc2, hS2⟩ := SlN.own ho
      have HS2 := Lib.hid hS2
      clear hlt ho hS2 HO
      go_wp2
      go_ret
      exact ⟨a2, c2, rfl, hc2, HS2.out, blw HB1.out HB.out⟩
end Go.Proofs.YtahdmkmefeocmaaGreatDoor
