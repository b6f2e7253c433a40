/-
  DERIVED: THE SHELF's CONTRACTS AT THIS DUMP, IN PLAIN WORDS (tools/lay-plain.mjs out of 'TryzCloneBT.lean', which tools/lay-shelf.mjs wrote): THE SAME DECLARATIONS UNDER THE SAME NAMES: 'import', 'namespace', 'open', 'def', 'theorem' AND NOTHING ELSE: no command of the shelf's: FOR A HAND-IN. Each laying: the table of numbers ('.._ren') and one theorem, a field a fact of the dump's own or the kernel's comparison; each contract: ONE APPLICATION.
-/
import Derived.Test.YtiegadfhgccliaaGreatDoorMTreeW5
import Derived.Lib.IndexAny
import Derived.Shelf.SlIter.Nil
import Derived.Shelf.SortM.Plain
import Derived.Shelf.SortM.SortNone
import Derived.Ground.GgzProg
import Derived.Ground.SlgmProg
import Derived.Test.YtiegadfhgccliaaGreatDoorProg
import Derived.Test.YtiegadfhgccliaaGreatDoorMTreeW
import Derived.Test.YtiegadfhgccliaaGreatDoorMTreeW8
import Derived.Shelf.SlMaps.Clone
import Derived.Ground.SlmcProg
import Derived.Deep.RegionHeld3
namespace Go.Proofs.YtiegadfhgccliaaGreatDoor
open Go.Lib
set_option linter.unusedVariables false

def aheadB (s : ByteArray) : ByteArray := ⟨(trimSuffix s.data.toList [47]).toArray⟩ ++ ⟨#[47]⟩
def restB (a p : ByteArray) : ByteArray := ⟨(trimPrefix p.data.toList a.data.toList).toArray⟩
def inB (a p : ByteArray) : Bool := hasPrefix p.data.toList a.data.toList && !decide (0 ≤ indexByte (restB a p).data.toList 47)
def sortB (L : List ByteArray) : List ByteArray := ((L.map (·.data.toList)).mergeSort fun x y => decide (x ≤ y)).map mkB
theorem sort_uniq {L M : List ByteArray} (hp : L.Perm M) (hM : M.Pairwise fun a b => ltB a b = true) : sortB L = M := by
  unfold sortB
  have h1 : ((L.map (·.data.toList)).mergeSort fun x y => decide (x ≤ y)) = raws M := by
    refine List.Perm.eq_of_pairwise (le := fun a b : List UInt8 => a ≤ b) (fun a b _ _ => List.le_antisymm) ?_ ?_ ?_
    · have := List.pairwise_mergeSort (le := fun x y : List UInt8 => decide (x ≤ y)) (fun a b c h1 h2 => by simp at h1 h2 ⊢; exact List.le_trans h1 h2) (fun a b => by simp; exact List.le_total a b) (L.map (·.data.toList))
      exact this.imp fun h => by simpa using h
    · refine List.pairwise_map.2 (hM.imp fun {a b} h => ?_)
      unfold ltB at h
      exact List.le_of_lt (by simpa using h)
    · exact (List.mergeSort_perm _ _).trans (hp.map _)
  rw [h1]
  unfold raws
  rw [List.map_map]
  conv => rhs; rw [← List.map_id M]
  exact List.map_congr_left fun x _ => mkB_of x
/-- The rows that List gathers. -/
def gotB (a : ByteArray) (L : List Nd) : List ByteArray := (L.filter fun n => inB a n.path).map fun n => restB a n.path
end Go.Proofs.YtiegadfhgccliaaGreatDoor
namespace Go.Proofs
open Go.Shelf
open Go.RowKit Go.Maps Go.Sort Go.Shelf
def Tryz.keys68_ren : Go.Shelf.Ren := ⟨fun | 7 => 68 | 10 => 98 | n => n, fun | 23 => 97 | 26 => 9 | 3 => 51 | 28 => 133 | 0 => 0 | 27 => 132 | 33 => 104 | 4 => 4 | n => n, fun | n => n⟩
theorem Tryz.keys68 : Go.Proofs.SlLaysZ.n7 Tryz.prog Tryz.keys68_ren := {
  mixed := by kernel_rfl
  f7 := ⟨Tryz.f68.name, by decide, Tryz.func68.trans (congrArg some (by kernel_rfl))⟩
  f10 := ⟨Tryz.f98.name, by decide, Tryz.func98.trans (congrArg some (by kernel_rfl))⟩
  t0 := Tryz.underlying0
  a0 := Tryz.isAgg0
  z0 := Tryz.sizeOf0
  v0 := Tryz.zeroValue0
  t4 := Tryz.underlying4
  a4 := Tryz.isAgg4
  z4 := Tryz.sizeOf4
  v4 := Tryz.zeroValue4
  t23 := Tryz.underlying97
  a23 := Tryz.isAgg97
  z23 := Tryz.sizeOf97
  v23 := Tryz.zeroValue97
  t26 := Tryz.underlying9
  a26 := Tryz.isAgg9
  z26 := Tryz.sizeOf9
  v26 := Tryz.zeroValue9
  t27 := Tryz.underlying132
  a27 := Tryz.isAgg132
  z27 := Tryz.sizeOf132
  v27 := Tryz.zeroValue132
  t28 := Tryz.underlying133
  a28 := Tryz.isAgg133
  z28 := Tryz.sizeOf133
  v28 := Tryz.zeroValue133
  t33 := Tryz.underlying104
  a33 := Tryz.isAgg104
  z33 := Tryz.sizeOf104
  v33 := Tryz.zeroValue104 }
def Tryz.sorted67_ren : Go.Shelf.Ren := ⟨fun | 6 => 67 | 8 => 96 | 9 => 97 | 11 => 120 | 13 => 95 | 12 => 121 | 23 => 118 | 24 => 119 | 14 => 134 | 15 => 135 | 16 => 136 | 17 => 137 | 18 => 138 | 19 => 139 | 20 => 140 | 21 => 141 | 22 => 142 | 25 => 149 | 26 => 129 | 27 => 130 | 28 => 150 | 29 => 151 | 30 => 152 | 31 => 159 | n => n, fun | 26 => 9 | 28 => 133 | 24 => 95 | 0 => 0 | 3 => 3 | 37 => 156 | 48 => 174 | 50 => 176 | 4 => 4 | 40 => 166 | 39 => 165 | 45 => 171 | 5 => 5 | 9 => 9 | 51 => 190 | 55 => 194 | 57 => 204 | 58 => 142 | 33 => 104 | n => n, fun | n => n⟩
theorem Tryz.sorted67 : Go.Proofs.SlLaysZ.n6 Tryz.prog Tryz.sorted67_ren := {
  mixed := by kernel_rfl
  f6 := ⟨Tryz.f67.name, by decide, Tryz.func67.trans (congrArg some (by kernel_rfl))⟩
  f8 := ⟨Tryz.f96.name, by decide, Tryz.func96.trans (congrArg some (by kernel_rfl))⟩
  f11 := ⟨Tryz.f120.name, by decide, Tryz.func120.trans (congrArg some (by kernel_rfl))⟩
  t0 := Tryz.underlying0
  a0 := Tryz.isAgg0
  z0 := Tryz.sizeOf0
  v0 := Tryz.zeroValue0
  t24 := Tryz.underlying95
  a24 := Tryz.isAgg95
  z24 := Tryz.sizeOf95
  v24 := Tryz.zeroValue95
  t26 := Tryz.underlying9
  a26 := Tryz.isAgg9
  z26 := Tryz.sizeOf9
  v26 := Tryz.zeroValue9
  t28 := Tryz.underlying133
  a28 := Tryz.isAgg133
  z28 := Tryz.sizeOf133
  v28 := Tryz.zeroValue133
  i26 := by kernel_rfl }
def Tryz.sort97_ren : Go.Shelf.Ren := ⟨fun | 6 => 97 | 8 => 95 | 9 => 121 | 19 => 118 | 20 => 119 | 21 => 134 | 22 => 135 | 23 => 136 | 24 => 137 | 25 => 138 | 26 => 139 | 27 => 140 | 28 => 141 | 29 => 142 | 36 => 149 | 31 => 129 | 32 => 130 | 37 => 150 | 38 => 151 | 39 => 152 | 41 => 159 | n => n, fun | 27 => 95 | 29 => 9 | 3 => 3 | 32 => 156 | 26 => 95 | 0 => 0 | 44 => 174 | 46 => 176 | 4 => 4 | 36 => 166 | 35 => 165 | 41 => 171 | 5 => 5 | 9 => 9 | 53 => 190 | 57 => 194 | 63 => 204 | 64 => 142 | n => n, fun | n => n⟩
theorem Tryz.sort97 : Go.Proofs.SlLaysM.n6 Tryz.prog Tryz.sort97_ren := {
  mixed := by kernel_rfl
  f6 := ⟨Tryz.f97.name, by decide, Tryz.func97.trans (congrArg some (by kernel_rfl))⟩
  f8 := Tryz.func95.trans (congrArg some (by kernel_rfl))
  f9 := ⟨Tryz.f121.name, by decide, Tryz.func121.trans (congrArg some (by kernel_rfl))⟩
  f19 := Tryz.func118.trans (congrArg some (by kernel_rfl))
  f20 := Tryz.func119.trans (congrArg some (by kernel_rfl))
  f21 := ⟨Tryz.f134.name, by decide, Tryz.func134.trans (congrArg some (by kernel_rfl))⟩
  f22 := ⟨Tryz.f135.name, by decide, Tryz.func135.trans (congrArg some (by kernel_rfl))⟩
  f23 := ⟨Tryz.f136.name, by decide, Tryz.func136.trans (congrArg some (by kernel_rfl))⟩
  f24 := ⟨Tryz.f137.name, by decide, Tryz.func137.trans (congrArg some (by kernel_rfl))⟩
  f25 := ⟨Tryz.f138.name, by decide, Tryz.func138.trans (congrArg some (by kernel_rfl))⟩
  f26 := ⟨Tryz.f139.name, by decide, Tryz.func139.trans (congrArg some (by kernel_rfl))⟩
  f27 := ⟨Tryz.f140.name, by decide, Tryz.func140.trans (congrArg some (by kernel_rfl))⟩
  f28 := ⟨Tryz.f141.name, by decide, Tryz.func141.trans (congrArg some (by kernel_rfl))⟩
  f29 := ⟨Tryz.f142.name, by decide, Tryz.func142.trans (congrArg some (by kernel_rfl))⟩
  f31 := Tryz.func129.trans (congrArg some (by kernel_rfl))
  f32 := Tryz.func130.trans (congrArg some (by kernel_rfl))
  f36 := ⟨Tryz.f149.name, by decide, Tryz.func149.trans (congrArg some (by kernel_rfl))⟩
  f37 := ⟨Tryz.f150.name, by decide, Tryz.func150.trans (congrArg some (by kernel_rfl))⟩
  f38 := ⟨Tryz.f151.name, by decide, Tryz.func151.trans (congrArg some (by kernel_rfl))⟩
  f39 := ⟨Tryz.f152.name, by decide, Tryz.func152.trans (congrArg some (by kernel_rfl))⟩
  f41 := ⟨Tryz.f159.name, by decide, Tryz.func159.trans (congrArg some (by kernel_rfl))⟩
  t0 := Tryz.underlying0
  a0 := Tryz.isAgg0
  z0 := Tryz.sizeOf0
  v0 := Tryz.zeroValue0
  t3 := Tryz.underlying3
  a3 := Tryz.isAgg3
  z3 := Tryz.sizeOf3
  v3 := Tryz.zeroValue3
  t4 := Tryz.underlying4
  a4 := Tryz.isAgg4
  z4 := Tryz.sizeOf4
  v4 := Tryz.zeroValue4
  t5 := Tryz.underlying5
  a5 := Tryz.isAgg5
  z5 := Tryz.sizeOf5
  v5 := Tryz.zeroValue5
  t9 := Tryz.underlying9
  a9 := Tryz.isAgg9
  z9 := Tryz.sizeOf9
  v9 := Tryz.zeroValue9
  t26 := Tryz.underlying95
  a26 := Tryz.isAgg95
  z26 := Tryz.sizeOf95
  v26 := Tryz.zeroValue95
  t27 := Tryz.underlying95
  a27 := Tryz.isAgg95
  z27 := Tryz.sizeOf95
  v27 := Tryz.zeroValue95
  t29 := Tryz.underlying9
  a29 := Tryz.isAgg9
  z29 := Tryz.sizeOf9
  v29 := Tryz.zeroValue9
  t32 := Tryz.underlying156
  a32 := Tryz.isAgg156
  z32 := Tryz.sizeOf156
  v32 := Tryz.zeroValue156
  t35 := Tryz.underlying165
  a35 := Tryz.isAgg165
  z35 := Tryz.sizeOf165
  v35 := Tryz.zeroValue165
  t36 := Tryz.underlying166
  a36 := Tryz.isAgg166
  z36 := Tryz.sizeOf166
  v36 := Tryz.zeroValue166
  t41 := Tryz.underlying171
  a41 := Tryz.isAgg171
  z41 := Tryz.sizeOf171
  v41 := Tryz.zeroValue171
  t44 := Tryz.underlying174
  a44 := Tryz.isAgg174
  z44 := Tryz.sizeOf174
  v44 := Tryz.zeroValue174
  t46 := Tryz.underlying176
  a46 := Tryz.isAgg176
  z46 := Tryz.sizeOf176
  v46 := Tryz.zeroValue176
  t53 := Tryz.underlying190
  a53 := Tryz.isAgg190
  z53 := Tryz.sizeOf190
  v53 := Tryz.zeroValue190
  t57 := Tryz.underlying194
  a57 := Tryz.isAgg194
  z57 := Tryz.sizeOf194
  v57 := Tryz.zeroValue194
  t63 := Tryz.underlying204
  a63 := Tryz.isAgg204
  z63 := Tryz.sizeOf204
  v63 := Tryz.zeroValue204
  t64 := Tryz.underlying142
  a64 := Tryz.isAgg142
  z64 := Tryz.sizeOf142
  v64 := Tryz.zeroValue142 }
theorem Tryz.sorts67 (m : Nat) : AnyZ.SortsIn Tryz.prog Tryz.sorted67_ren Fence.wide m :=
  ⟨fun blk off cap ss W hH hblk hsz => callsIn_wide.2 (AnyM.slices_Sort_string Tryz.sort97 blk off cap ss W hH hblk hsz),
   fun p cap W => callsIn_wide.2 (AnyM.slices_Sort_string_none Tryz.sort97 p cap W)⟩
theorem Tryz.maps_Keys_68 (mb : Option Nat) (W : World) : CallsIn Fence.wide 5 Tryz.prog 68 #[.map mb] W fun e w' => e = .returned (.func (.func 98) #[] #[.pointer (some ⟨W.heap.size, 0, none⟩)]) ∧ w' = W.alloc (.cells #[.map mb] 97) :=
  AnyZ.keys_in Tryz.keys68 Fence.wide 5 trivial rfl mb W
set_option maxHeartbeats 1000000 in
theorem Tryz.slices_Sorted_keys_67_68 {H : Type} (b nn : Nat) (D0 : DataW H) (R : Value → Option (DataW H × List MemPlace)) (w : World) (hown : w.ownsMap Tryz.prog 9 R b nn D0) (hmax : Maps.size D0 ≤ maxLen) (hbytes : Maps.size D0 * 16 ≤ 140737488355328) :
    CallsIn Fence.wide 5 Tryz.prog 67 #[.func (.func 98) #[] #[.pointer (some ⟨w.heap.size, 0, none⟩)]] (w.alloc (.cells #[.map (some b)] 97)) fun e w' => ∃ (v : Value) (ss : List (List UInt8)), e = .returned v ∧ ss.Perm (strKeys D0) ∧
      w'.ownsRow (w.alloc (.cells #[.map (some b)] 97)).heap.size 9 1 v ss.length ((ss.mergeSort (fun x y => decide (x ≤ y))).map encStr) ∧ (v = .slice none 0 0 ↔ ss = []) ∧ Below (w.alloc (.cells #[.map (some b)] 97)).heap.size (w.alloc (.cells #[.map (some b)] 97)) w' := by
  have hbl := hown.lt
  have hseq : SeqGives Fence.wide 2 Tryz.prog 98 #[.pointer (some ⟨w.heap.size, 0, none⟩)] encStr (fun ss => ss.Perm (strKeys D0)) (Maps.size D0) (w.alloc (.cells #[.map (some b)] 97)) :=
    AnyZ.keys_gives (ρ := Tryz.keys68_ren) { Tryz.keys68 with } Fence.wide _ trivial rfl (by omega) w.heap.size b nn D0 _ (by simp) (by simp) (by
      obtain ⟨es, clock, hb, Ft, hs, hD⟩ := hown
      exact ⟨es, clock, (Below.heap_alloc _ _ b hbl).trans hb, Ft, hs, hD⟩)
  exact AnyZ.sorted_in Tryz.sorted67 Fence.wide 5 trivial trivial trivial trivial rfl (by omega) (Tryz.sorts67 _) (enters_of Tryz.func97 (by kernel_rfl) rfl) 98 #[.pointer (some ⟨w.heap.size, 0, none⟩)] trivial (enters_of Tryz.func98 (by kernel_rfl) rfl) _ _ hmax hbytes _ hseq
end Go.Proofs
namespace Go.Proofs.YtiegadfhgccliaaGreatDoor
open Go.RowKit Go.Lib

theorem RdN.take {w : World} {b o : Nat} {L : List Nd} (h : RdN w b o L) (k : Nat) : RdN w b o (L.take k) := by
  refine ⟨fun j hj => ?_, h.lt⟩
  rw [List.length_take] at hj
  have e : (L.take k).getD j default = L.getD j default := by simp [List.getD, show j < k by omega]
  rw [e]
  exact h.at_ j (by omega)
theorem RdN.drop {w : World} {b o : Nat} {L : List Nd} (h : RdN w b o L) (k : Nat) : RdN w b (o + k * 3) (L.drop k) := by
  refine ⟨fun j hj => ?_, h.lt⟩
  rw [List.length_drop] at hj
  have e : (L.drop k).getD j default = L.getD (k + j) default := by simp [List.getD]
  rw [e, show o + k * 3 + j * 3 = o + (k + j) * 3 by omega]
  exact h.at_ (k + j) (by omega)
end Go.Proofs.YtiegadfhgccliaaGreatDoor
namespace Go.Proofs.YtiegadfhgccliaaGreatDoor
open Go.RowKit Go.Lib Go.Maps
open Go.ChangeMaps (setBlock)
open Go.WideElems (Fit rd rg rg_of)

/-- How an element reads where nobody asks. -/
def rAny : Value → Option (DataW Unit × List MemPlace) := fun _ => some (.nil, [])
def keyB : Value → List UInt8
  | .string s => s.data.toList
  | _ => []
theorem keys_of {P : Program} {k : TypeId} {R : Value → Option (DataW Unit × List MemPlace)} {es : List MapEntry} (h : ∀ x ∈ es, ∃ s : ByteArray, x.key = .string s ∧ rd P k R x = some (.string s.data.toList, .nil)) :
    (es.map (rg P k R)).map (fun p => strOf p.1) = (es.map fun e => (e.key, e.val)).map fun q => keyB q.1 := by
  rw [List.map_map, List.map_map]
  refine List.map_congr_left fun x hx => ?_
  obtain ⟨s, h1, h2⟩ := h x hx
  show strOf (rg P k R x).1 = keyB x.key
  rw [rg_of h2, h1]
  rfl
theorem TreeAt.owns {w : World} {tb mb : Nat} {L : List Nd} {nx : Int} (h : TreeAt w tb mb L nx) (hs : ∀ n ∈ L, n.path.size ≤ maxLen) (hn : L.length ≤ maxLen) :
    ∃ D : DataW Unit, w.ownsMap Tryz.prog 9 rAny mb L.length D ∧ (strKeys D).Perm (raws (L.map (·.path))) ∧ Maps.size D = L.length := by
  obtain ⟨es, clock, hb, hst, hM⟩ := h.map
  have hl : es.size = L.length := by
    have := congrArg List.length hM
    simpa [ents] using this
  have hrd : ∀ x ∈ es.toList, ∃ s : ByteArray, x.key = .string s ∧ rd Tryz.prog 9 rAny x = some (.string s.data.toList, .nil) := by
    intro x hx
    obtain ⟨p, hp, e1, _⟩ := es_keys (K := strKey) hM x hx
    obtain ⟨n, hn1, rfl⟩ := List.mem_map.1 hp
    have e1 : x.key = .string n.path := e1
    refine ⟨n.path, e1, ?_⟩
    have hsz := hs n hn1
    have hk : keyOf Tryz.prog 9 x.key = some (.string n.path.data.toList) := by
      rw [e1]
      unfold keyOf
      rw [Tryz.underlying9]
      simp [mapKey, hsz]
    simp [rd, hk, rAny]
  refine ⟨_, ⟨es, clock, hb, ⟨by omega, hst, fun x hx => ?_⟩, by omega, rfl⟩, ?_, ?_⟩
  · obtain ⟨s, _, h2⟩ := hrd x hx
    exact ⟨_, h2⟩
  · show (((es.toList.map (rg Tryz.prog 9 rAny)).foldr DataW.insert []).map fun p => strOf p.1).Perm _
    have hp := (Go.WideShapes.sorted_perm (es.toList.map (rg Tryz.prog 9 rAny))).map (fun p => strOf p.1)
    refine hp.trans ?_
    have e : (es.toList.map (rg Tryz.prog 9 rAny)).map (fun p => strOf p.1) = raws (L.map (·.path)) := by
      have e1 := keys_of hrd
      have e2 : (es.toList.map fun e => (e.key, e.val)).map (fun q => keyB q.1) = raws (L.map (·.path)) := by
        rw [hM]
        unfold ents raws
        rw [List.map_map, List.map_map, List.map_map]
        rfl
      exact e1.trans e2
    exact e ▸ List.Perm.refl _
  · show ((es.toList.map (rg Tryz.prog 9 rAny)).foldr DataW.insert []).length = L.length
    rw [(Go.WideShapes.sorted_perm _).length_eq, List.length_map, Array.length_toList, hl]
theorem path_small {T : TS} (h : TInv T) : ∀ n ∈ T.L, n.path.size ≤ maxLen := fun n hn => by
  have := path_size h n hn
  unfold maxLen
  omega
theorem sorted_paths {T : TS} (h : TInv T) {ss : List (List UInt8)} (hp : ss.Perm (raws (T.L.map (·.path)))) : (ss.mergeSort (fun x y => decide (x ≤ y))).map encStr = (T.L.map (·.path)).map Value.string := by
  have h1 : (ss.map mkB).Perm (T.L.map (·.path)) := by
    have := hp.map mkB
    rw [raws, List.map_map] at this
    have e : (T.L.map (·.path)).map (mkB ∘ fun x : ByteArray => x.data.toList) = T.L.map (·.path) := by
      conv => rhs; rw [← List.map_id (T.L.map (·.path))]
      exact List.map_congr_left fun x _ => mkB_of x
    rw [e] at this
    exact this
  have h2 := sort_uniq h1 (List.pairwise_map.2 h.rises)
  unfold sortB at h2
  have e : (ss.map mkB).map (·.data.toList) = ss := by
    rw [List.map_map]
    conv => rhs; rw [← List.map_id ss]
    exact List.map_congr_left fun x _ => mkB_toList x
  rw [e] at h2
  rw [← h2, List.map_map]
  refine List.map_congr_left fun x _ => ?_
  rfl
set_option maxRecDepth 100000 in
set_option maxHeartbeats 4000000 in
/-- Paths. -/
theorem tree_paths (w : World) {tb mb : Nat} {T : TS} (hT : TreeP w tb mb T) (hI : TInv T) :
    Calls Tryz.prog 38 #[.pointer (some ⟨tb, 0, none⟩)] w fun e w' => ∃ a c, e = .returned (.slice a T.L.length c) ∧ T.L.length ≤ c ∧ SlS w' a (T.L.map (·.path)) ∧ Below w.heap.size w w' := by
  obtain ⟨L, hp, hA⟩ := hT
  have hlen := hp.length_eq
  have hfew := hI.few
  obtain ⟨D, hown, hkeys, hsz⟩ := hA.owns (fun n hn => path_small hI n (hp.mem_iff.1 hn)) (by unfold maxLen; omega)
  have hc0 := hA.c0
  have HSo : Hid (∀ ss : List (List UInt8), ss.Perm (strKeys D) → (ss.mergeSort (fun x y => decide (x ≤ y))).map encStr = (T.L.map (·.path)).map Value.string ∧ ss.length = T.L.length) := fun ss hss => by
    have h1 : ss.Perm (raws (T.L.map (·.path))) := by
      refine (hss.trans hkeys).trans ?_
      unfold raws
      exact (hp.map _).map _
    refine ⟨sorted_paths hI h1, ?_⟩
    rw [h1.length_eq]
    simp [raws]
  have HOwn := Lib.hid hown
  have hsz1 : Maps.size D ≤ maxLen := by unfold maxLen; omega
  have hsz2 : Maps.size D * 16 ≤ 140737488355328 := by omega
  clear hown hkeys hp hA hI
  refine (callsIn_wide (n := 6)).1 ?_
  have hfK : Fence.wide.fn 68 := trivial
  have hfS : Fence.wide.fn 67 := trivial
  refine callsIn_of_wp Tryz.func38 rfl trivial ?_ rfl
  simp only [Tryz.ntmps38, List.size_toArray, List.length_cons, List.length_nil, Nat.reduceAdd, Nat.reduceSub, Array.replicate_succ, Array.replicate_zero, List.push_toArray, List.append_toArray, List.nil_append, List.cons_append]
  gi_wp2_with (first
    | (gi_at_call 68; refine (Tryz.maps_Keys_68 _ _).mono ?_; rintro e w' ⟨rfl, rfl⟩)
    | (gi_at_call 67; refine (Tryz.slices_Sorted_keys_67_68 mb L.length D rAny w HOwn.out hsz1 hsz2).mono ?_; rintro e w' ⟨v, ss, rfl, hS, hrow, hnil, hb⟩))
  go_ret
  obtain ⟨h1, h2⟩ := HSo.out ss hS
  rw [h1, h2] at hrow
  have hl : (T.L.map (·.path)).length = T.L.length := by simp
  rw [← hl] at hrow
  obtain ⟨a, c, rfl, hc, hSl⟩ := SlS.own hrow
  rw [hl] at hc
  rw [hl]
  exact ⟨a, c, rfl, hc, hSl, ((Below.refl _ w).alloc (Nat.le_refl _) _).trans (hb.mono (by simp))⟩
end Go.Proofs.YtiegadfhgccliaaGreatDoor
namespace Go.Proofs.YtiegadfhgccliaaGreatDoor
open Go.RowKit Go.Lib Go.Maps
open Go.ChangeMaps (setBlock)

set_option maxRecDepth 100000 in
set_option maxHeartbeats 4000000 in
/-- Nodes. -/
theorem tree_nodes (w : World) {tb mb : Nat} {T : TS} (hT : TreeP w tb mb T) (hI : TInv T) :
    Calls Tryz.prog 15 #[.pointer (some ⟨tb, 0, none⟩)] w fun e w' => ∃ a c, e = .returned (.slice a T.L.length c) ∧ T.L.length ≤ c ∧ SlN w' a T.L ∧ Below w.heap.size w w' := by
  have HPa := Lib.hid (tree_paths w hT hI)
  have HT := Lib.hid hT
  have HI := Lib.hid hI
  have hfew := hI.few
  have HAp := Lib.hid hI.rises.apart
  obtain ⟨i0, hi, hz0, hz1, hz2⟩ := info_parts info_nd
  clear hT hI
  go_enter Tryz.func15, Tryz.ntmps15
  go_wp2_with fail
  refine HPa.out.mono ?_
  rintro e w1 ⟨ap, cp, rfl, hcp, hS1, hB1⟩
  have HB1 := Lib.hid hB1
  have HS1 := Lib.hid hS1
  clear hB1 hS1
  go_wp2
  go_loopw [3, 9] (fun v i wr => ∃ (k : Nat) (sv : Value), k ≤ T.L.length ∧ v = sv ∧ i = .int .i64 (k : Int) ∧ Hid (wr.ownsRow w1.heap.size 51 3 sv k (cellsN (T.L.take k))) ∧ Hid (Below w1.heap.size w1 wr)) (fun _ i _ => T.L.length - (intOf i).toNat)
  case atStart => exact ⟨0, _, by omega, rfl, rfl, Lib.hid (World.ownsRow_nil _ _ _ _), Lib.hid (Below.refl _ _)⟩
  case round =>
    obtain ⟨k, sv, hk, hsv, rfl, HO, HB⟩ := hrel
    have hsv' := hsv.symm
    subst hsv'
    by_cases hlt : k < T.L.length
    · have hB0 := blw HB1.out HB.out
      have hTP := HT.out.below hB0
      obtain ⟨hc0, _, _⟩ := hTP.facts
      obtain ⟨b, o, rfl, p0, _⟩ := (HS1.out.below HB.out).at_ (k := k) (by simpa using hlt)
      have hki : (k : Int) < (T.L.length : Int) := by omega
      have hkc : (k : Int) < (cp : Int) := by omega
      have hgd : (T.L.map (·.path)).getD k default = (T.L.getD k default).path := by simp [List.getD, hlt]
      have hmem : T.L.getD k default ∈ T.L := by simp [List.getD, hlt]
      have hlk := hTP.look1 HAp.out (T.L.getD k default).path
      rw [fnd_mem HAp.out hmem] at hlk
      have hsn : cellsN (T.L.take (k + 1)) = cellsN (T.L.take k) ++ [.string (T.L.getD k default).path, .int .i64 (T.L.getD k default).id, .bool (T.L.getD k default).dir] := by
        rw [← cellsN_snoc, List.take_succ_eq_append_getElem hlt]
        congr 2
        simp [List.getD, hlt]
      rw [hgd] at p0
      have HSn := Lib.hid hsn
      generalize T.L.getD k default = n at *
      obtain ⟨np, ni, nd⟩ := n
      replace hlk : (Instr.lookup 97 (.map (some mb)) (.string np) false).run Tryz.prog wr = .ok (.agg #[.string np, .int .i64 ni, .bool nd]) wr := hlk
      dsimp only at p0
      clear hsn hgd hmem hTP hB0
      go_wp2_with (at_builtin; refine wpList_append_own _ rfl (.tmp 13) (.tmp 20) 42 rfl w1.heap.size 51 i0 _ 3 32 Tryz.underlying42 hi hz0 hz1 hz2 rfl (by decide) _ _ _ rfl (HO.out.alloc _) ⟨wr.heap.size, 0, none⟩ 1 1 [.string np, .int .i64 ni, .bool nd] rfl rfl (new3b _ _ _ _ _ _ rfl) (by intro u hu; simp at hu; rcases hu with rfl | rfl | rfl <;> rfl) (by unfold maxLen; omega) (by omega) (by have := HB.out.size; simp; omega) ?_; intro v' w3 hown' hgrow hnil; clear hnil; have HO2 := Lib.hid hown'; have HG := Lib.hid hgrow; clear hown' hgrow)
      refine ⟨⟨k + 1, v', by omega, rfl, by go_num, ?_, ?_⟩, by simp [intOf]; omega⟩
      · have := HO2.out
        rw [HSn.out]
        exact Lib.hid this
      · exact Lib.hid (grown_below (HB.out.alloc HB.out.size _) (by have := HB.out.size; simp; omega) (HO.out.alloc _) HG.out)
    · obtain rfl : k = T.L.length := by omega
      have hlt' : decide ((T.L.length : Int) < (T.L.length : Int)) = false := by simp
      have ho := HO.out
      rw [List.take_length] at ho
      obtain ⟨a2, c2, rfl, hc2, hS2⟩ := SlN.own ho
      have HS2 := Lib.hid hS2
      clear hlt ho hS2 HO
      go_wp2
      go_ret
      exact ⟨a2, c2, rfl, hc2, HS2.out, blw HB1.out HB.out⟩
end Go.Proofs.YtiegadfhgccliaaGreatDoor
namespace Go.Proofs
open Go.Shelf
def Tryz.clone65_ren : Go.Shelf.Ren := ⟨fun | 5 => 65 | 7 => 66 | n => n, fun | 23 => 97 | 25 => 9 | 3 => 51 | 4 => 4 | 20 => 20 | n => n, fun | n => n⟩
theorem Tryz.clone65 : Go.Proofs.SlLaysW.n5 Tryz.prog Tryz.clone65_ren := {
  mixed := by kernel_rfl
  f5 := ⟨Tryz.f65.name, by decide, Tryz.func65.trans (congrArg some (by kernel_rfl))⟩
  f7 := Tryz.func66.trans (congrArg some (by kernel_rfl))
  t4 := Tryz.underlying4
  a4 := Tryz.isAgg4
  z4 := Tryz.sizeOf4
  v4 := Tryz.zeroValue4
  t20 := Tryz.underlying20
  a20 := Tryz.isAgg20
  z20 := Tryz.sizeOf20
  v20 := Tryz.zeroValue20
  t23 := Tryz.underlying97
  a23 := Tryz.isAgg97
  z23 := Tryz.sizeOf97
  v23 := Tryz.zeroValue97 }
end Go.Proofs
namespace Go.Proofs.YtiegadfhgccliaaGreatDoor
open Go.RowKit Go.Lib
open Go.ChangeMaps (setBlock)

set_option maxRecDepth 100000 in
set_option maxHeartbeats 4000000 in
/-- Copy. -/
theorem tree_copy (w : World) {tb mb : Nat} {T : TS} (hT : TreeP w tb mb T) :
    Calls Tryz.prog 36 #[.pointer (some ⟨tb, 0, none⟩)] w fun e w' => ∃ cb cm, e = .returned (.pointer (some ⟨cb, 0, none⟩)) ∧ TreeP w' cb cm T ∧ w.heap.size ≤ cb ∧ w.heap.size ≤ cm ∧ Below w.heap.size w w' := by
  obtain ⟨L, hp, hA⟩ := hT
  obtain ⟨es, clock, hb, hst, hM⟩ := hA.map
  have hc0 := hA.c0
  have hc1 := hA.c1
  have htb := hA.lt
  have HC : Hid (∀ W : World, W.heap[mb]? = some (.map es clock) → Calls Tryz.prog 65 #[.map (some mb)] W fun e w' => e = .returned (.map (some W.heap.size)) ∧ w' = W.alloc (.map es clock)) := fun W h => AnyW.maps_Clone Tryz.clone65 mb es clock W h
  have HBk := Lib.hid hb
  have HP := Lib.hid hp
  have HSt := Lib.hid hst
  have HM := Lib.hid hM
  clear hb hp hst hM hA
  go_enter Tryz.func36, Tryz.ntmps36
  go_upto_region 3 with (fail)
  go_region_held3 (fun w' => w'.cell? ⟨tb, 0, none⟩ = some (.map (some mb)) ∧ w'.cell? ⟨tb, 1, none⟩ = some (.int .i64 T.nx)) (first | go_keep | (go_split_ands; exact ⟨hc0, hc1⟩)) (first | (go_at_call 65; refine (HC.out _ (by exact HBk.out)).mono ?_; rintro e w' ⟨rfl, rfl⟩))
  all_goals
    go_wp2
    go_ret
    have hsz : (w.alloc (.map es clock)).heap.size = w.heap.size + 1 := by simp
    have h1 := heap_alloc_new (w.alloc (.map es clock)) (.cells #[.map (some w.heap.size), .int .i64 T.nx] 99)
    rw [hsz] at h1
    have h2 := (((Below.refl (w.alloc (.map es clock)).heap.size _).alloc (Nat.le_refl _) (.cells #[.map (some w.heap.size), .int .i64 T.nx] 99)).block w.heap.size (by omega)).trans (heap_alloc_new w (.map es clock))
    have hB := ((Below.refl w.heap.size w).alloc (Nat.le_refl _) (.map es clock)).alloc (by omega) (.cells #[.map (some w.heap.size), .int .i64 T.nx] 99)
    exact ⟨w.heap.size + 1, w.heap.size, rfl, ⟨L, HP.out, ⟨h1, ⟨es, clock, h2, HSt.out, HM.out⟩⟩⟩, by omega, Nat.le_refl _, below_drewN' hB 1⟩
end Go.Proofs.YtiegadfhgccliaaGreatDoor
namespace Go.Proofs
open Go.Shelf
def Tryz.clone37_ren : Go.Shelf.Ren := ⟨fun | 5 => 37 | 7 => 66 | n => n, fun | 23 => 78 | 25 => 3 | 3 => 47 | 4 => 4 | 20 => 20 | n => n, fun | n => n⟩
theorem Tryz.clone37 : Go.Proofs.SlLaysW.n5 Tryz.prog Tryz.clone37_ren := {
  mixed := by kernel_rfl
  f5 := ⟨Tryz.f37.name, by decide, Tryz.func37.trans (congrArg some (by kernel_rfl))⟩
  f7 := Tryz.func66.trans (congrArg some (by kernel_rfl))
  t4 := Tryz.underlying4
  a4 := Tryz.isAgg4
  z4 := Tryz.sizeOf4
  v4 := Tryz.zeroValue4
  t20 := Tryz.underlying20
  a20 := Tryz.isAgg20
  z20 := Tryz.sizeOf20
  v20 := Tryz.zeroValue20
  t23 := Tryz.underlying78
  a23 := Tryz.isAgg78
  z23 := Tryz.sizeOf78
  v23 := Tryz.zeroValue78 }
end Go.Proofs
