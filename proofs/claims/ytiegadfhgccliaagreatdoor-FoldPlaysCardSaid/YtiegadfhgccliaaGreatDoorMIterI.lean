/- Rising rows of numbers; the pieces that parts use. Plain, and as a map's keys. -/
import Derived.Shelf.SlIterI.Nil
import Derived.Shelf.SortM.Plain
import Derived.Shelf.SortM.SortNone
import Derived.Ground.GgzProg
import Derived.Ground.SlgmProg
import Derived.Test.YtiegadfhgccliaaGreatDoorProg
import Derived.Test.YtiegadfhgccliaaGreatDoorMFoldM
namespace Go.Proofs
open Go.Shelf
open Go.RowKit Go.Maps Go.Sort Go.Shelf
def Tryz.keys35_ren : Go.Shelf.Ren := ⟨fun | 7 => 35 | 10 => 64 | n => n, fun | 23 => 88 | 26 => 3 | 3 => 4 | 28 => 92 | 0 => 0 | 27 => 91 | 33 => 128 | 4 => 4 | n => n, fun | n => n⟩
theorem Tryz.keys35 : Go.Proofs.SlLaysZI.n7 Tryz.prog Tryz.keys35_ren := {
  mixed := by kernel_rfl
  f7 := ⟨Tryz.f35.name, by decide, Tryz.func35.trans (congrArg some (by kernel_rfl))⟩
  f10 := ⟨Tryz.f64.name, by decide, Tryz.func64.trans (congrArg some (by kernel_rfl))⟩
  t0 := Tryz.underlying0
  a0 := Tryz.isAgg0
  z0 := Tryz.sizeOf0
  v0 := Tryz.zeroValue0
  t4 := Tryz.underlying4
  a4 := Tryz.isAgg4
  z4 := Tryz.sizeOf4
  v4 := Tryz.zeroValue4
  t23 := Tryz.underlying88
  a23 := Tryz.isAgg88
  z23 := Tryz.sizeOf88
  v23 := Tryz.zeroValue88
  t26 := Tryz.underlying3
  a26 := Tryz.isAgg3
  z26 := Tryz.sizeOf3
  v26 := Tryz.zeroValue3
  t27 := Tryz.underlying91
  a27 := Tryz.isAgg91
  z27 := Tryz.sizeOf91
  v27 := Tryz.zeroValue91
  t28 := Tryz.underlying92
  a28 := Tryz.isAgg92
  z28 := Tryz.sizeOf92
  v28 := Tryz.zeroValue92
  t33 := Tryz.underlying128
  a33 := Tryz.isAgg128
  z33 := Tryz.sizeOf128
  v33 := Tryz.zeroValue128 }
def Tryz.sorted34_ren : Go.Shelf.Ren := ⟨fun | 6 => 34 | 8 => 62 | 9 => 63 | 11 => 93 | 13 => 95 | 12 => 94 | 23 => 118 | 24 => 119 | 14 => 109 | 15 => 110 | 16 => 111 | 17 => 112 | 18 => 113 | 19 => 114 | 20 => 115 | 21 => 116 | 22 => 117 | 25 => 128 | 26 => 129 | 27 => 130 | 28 => 131 | 29 => 132 | 30 => 133 | 31 => 148 | n => n, fun | 26 => 3 | 28 => 92 | 24 => 37 | 0 => 0 | 3 => 3 | 37 => 156 | 48 => 174 | 50 => 176 | 4 => 4 | 40 => 166 | 39 => 165 | 45 => 171 | 5 => 5 | 9 => 9 | 51 => 190 | 55 => 194 | 57 => 204 | 58 => 142 | 33 => 128 | n => n, fun | n => n⟩
theorem Tryz.sorted34 : Go.Proofs.SlLaysZI.n6 Tryz.prog Tryz.sorted34_ren := {
  mixed := by kernel_rfl
  f6 := ⟨Tryz.f34.name, by decide, Tryz.func34.trans (congrArg some (by kernel_rfl))⟩
  f8 := ⟨Tryz.f62.name, by decide, Tryz.func62.trans (congrArg some (by kernel_rfl))⟩
  f11 := ⟨Tryz.f93.name, by decide, Tryz.func93.trans (congrArg some (by kernel_rfl))⟩
  t0 := Tryz.underlying0
  a0 := Tryz.isAgg0
  z0 := Tryz.sizeOf0
  v0 := Tryz.zeroValue0
  t24 := Tryz.underlying37
  a24 := Tryz.isAgg37
  z24 := Tryz.sizeOf37
  v24 := Tryz.zeroValue37
  t26 := Tryz.underlying3
  a26 := Tryz.isAgg3
  z26 := Tryz.sizeOf3
  v26 := Tryz.zeroValue3
  t28 := Tryz.underlying92
  a28 := Tryz.isAgg92
  z28 := Tryz.sizeOf92
  v28 := Tryz.zeroValue92
  i26 := by kernel_rfl }
def Tryz.sort63_ren : Go.Shelf.Ren := ⟨fun | 5 => 63 | 8 => 95 | 7 => 94 | 19 => 118 | 20 => 119 | 10 => 109 | 11 => 110 | 12 => 111 | 13 => 112 | 14 => 113 | 15 => 114 | 16 => 115 | 17 => 116 | 18 => 117 | 30 => 128 | 31 => 129 | 32 => 130 | 33 => 131 | 34 => 132 | 35 => 133 | 40 => 148 | n => n, fun | 23 => 37 | 25 => 3 | 3 => 3 | 32 => 156 | 22 => 37 | 0 => 0 | 44 => 174 | 46 => 176 | 4 => 4 | 36 => 166 | 35 => 165 | 41 => 171 | 5 => 5 | 9 => 9 | 53 => 190 | 57 => 194 | 63 => 204 | 64 => 142 | n => n, fun | n => n⟩
theorem Tryz.sort63 : Go.Proofs.SlLaysM.n5 Tryz.prog Tryz.sort63_ren := {
  mixed := by kernel_rfl
  f5 := ⟨Tryz.f63.name, by decide, Tryz.func63.trans (congrArg some (by kernel_rfl))⟩
  f7 := ⟨Tryz.f94.name, by decide, Tryz.func94.trans (congrArg some (by kernel_rfl))⟩
  f8 := Tryz.func95.trans (congrArg some (by kernel_rfl))
  f10 := ⟨Tryz.f109.name, by decide, Tryz.func109.trans (congrArg some (by kernel_rfl))⟩
  f11 := ⟨Tryz.f110.name, by decide, Tryz.func110.trans (congrArg some (by kernel_rfl))⟩
  f12 := ⟨Tryz.f111.name, by decide, Tryz.func111.trans (congrArg some (by kernel_rfl))⟩
  f13 := ⟨Tryz.f112.name, by decide, Tryz.func112.trans (congrArg some (by kernel_rfl))⟩
  f14 := ⟨Tryz.f113.name, by decide, Tryz.func113.trans (congrArg some (by kernel_rfl))⟩
  f15 := ⟨Tryz.f114.name, by decide, Tryz.func114.trans (congrArg some (by kernel_rfl))⟩
  f16 := ⟨Tryz.f115.name, by decide, Tryz.func115.trans (congrArg some (by kernel_rfl))⟩
  f17 := ⟨Tryz.f116.name, by decide, Tryz.func116.trans (congrArg some (by kernel_rfl))⟩
  f18 := ⟨Tryz.f117.name, by decide, Tryz.func117.trans (congrArg some (by kernel_rfl))⟩
  f19 := Tryz.func118.trans (congrArg some (by kernel_rfl))
  f20 := Tryz.func119.trans (congrArg some (by kernel_rfl))
  f30 := ⟨Tryz.f128.name, by decide, Tryz.func128.trans (congrArg some (by kernel_rfl))⟩
  f31 := Tryz.func129.trans (congrArg some (by kernel_rfl))
  f32 := Tryz.func130.trans (congrArg some (by kernel_rfl))
  f33 := ⟨Tryz.f131.name, by decide, Tryz.func131.trans (congrArg some (by kernel_rfl))⟩
  f34 := ⟨Tryz.f132.name, by decide, Tryz.func132.trans (congrArg some (by kernel_rfl))⟩
  f35 := ⟨Tryz.f133.name, by decide, Tryz.func133.trans (congrArg some (by kernel_rfl))⟩
  f40 := ⟨Tryz.f148.name, by decide, Tryz.func148.trans (congrArg some (by kernel_rfl))⟩
  t0 := Tryz.underlying0
  a0 := Tryz.isAgg0
  z0 := Tryz.sizeOf0
  v0 := Tryz.zeroValue0
  t3 := Tryz.underlying3
  a3 := Tryz.isAgg3
  z3 := Tryz.sizeOf3
  v3 := Tryz.zeroValue3
  t4 := Tryz.underlying4
  a4 := Tryz.isAgg4
  z4 := Tryz.sizeOf4
  v4 := Tryz.zeroValue4
  t5 := Tryz.underlying5
  a5 := Tryz.isAgg5
  z5 := Tryz.sizeOf5
  v5 := Tryz.zeroValue5
  t9 := Tryz.underlying9
  a9 := Tryz.isAgg9
  z9 := Tryz.sizeOf9
  v9 := Tryz.zeroValue9
  t22 := Tryz.underlying37
  a22 := Tryz.isAgg37
  z22 := Tryz.sizeOf37
  v22 := Tryz.zeroValue37
  t23 := Tryz.underlying37
  a23 := Tryz.isAgg37
  z23 := Tryz.sizeOf37
  v23 := Tryz.zeroValue37
  t25 := Tryz.underlying3
  a25 := Tryz.isAgg3
  z25 := Tryz.sizeOf3
  v25 := Tryz.zeroValue3
  t32 := Tryz.underlying156
  a32 := Tryz.isAgg156
  z32 := Tryz.sizeOf156
  v32 := Tryz.zeroValue156
  t35 := Tryz.underlying165
  a35 := Tryz.isAgg165
  z35 := Tryz.sizeOf165
  v35 := Tryz.zeroValue165
  t36 := Tryz.underlying166
  a36 := Tryz.isAgg166
  z36 := Tryz.sizeOf166
  v36 := Tryz.zeroValue166
  t41 := Tryz.underlying171
  a41 := Tryz.isAgg171
  z41 := Tryz.sizeOf171
  v41 := Tryz.zeroValue171
  t44 := Tryz.underlying174
  a44 := Tryz.isAgg174
  z44 := Tryz.sizeOf174
  v44 := Tryz.zeroValue174
  t46 := Tryz.underlying176
  a46 := Tryz.isAgg176
  z46 := Tryz.sizeOf176
  v46 := Tryz.zeroValue176
  t53 := Tryz.underlying190
  a53 := Tryz.isAgg190
  z53 := Tryz.sizeOf190
  v53 := Tryz.zeroValue190
  t57 := Tryz.underlying194
  a57 := Tryz.isAgg194
  z57 := Tryz.sizeOf194
  v57 := Tryz.zeroValue194
  t63 := Tryz.underlying204
  a63 := Tryz.isAgg204
  z63 := Tryz.sizeOf204
  v63 := Tryz.zeroValue204
  t64 := Tryz.underlying142
  a64 := Tryz.isAgg142
  z64 := Tryz.sizeOf142
  v64 := Tryz.zeroValue142 }
theorem Tryz.sorts34 (m : Nat) : AnyZI.SortsIn Tryz.prog Tryz.sorted34_ren Fence.wide m :=
  ⟨fun blk off cap ss W hH hblk hsz => callsIn_wide.2 (AnyM.slices_Sort_int Tryz.sort63 blk off cap ss W hH hblk hsz),
   fun p cap W => callsIn_wide.2 (AnyM.slices_Sort_int_none Tryz.sort63 p cap W)⟩
theorem Tryz.maps_Keys_35 (mb : Option Nat) (W : World) : CallsIn Fence.wide 5 Tryz.prog 35 #[.map mb] W fun e w' => e = .returned (.func (.func 64) #[] #[.pointer (some ⟨W.heap.size, 0, none⟩)]) ∧ w' = W.alloc (.cells #[.map mb] 88) :=
  AnyZI.keys_in Tryz.keys35 Fence.wide 5 trivial rfl mb W
set_option maxHeartbeats 1000000 in
theorem Tryz.slices_Sorted_keys_34_35 {H : Type} (b nn : Nat) (D0 : DataW H) (R : Value → Option (DataW H × List MemPlace)) (w : World) (hown : w.ownsMap Tryz.prog 3 R b nn D0) (hmax : Maps.size D0 ≤ maxLen) (hbytes : Maps.size D0 * 8 ≤ 140737488355328) :
    CallsIn Fence.wide 5 Tryz.prog 34 #[.func (.func 64) #[] #[.pointer (some ⟨w.heap.size, 0, none⟩)]] (w.alloc (.cells #[.map (some b)] 88)) fun e w' => ∃ (v : Value) (ss : List Int), e = .returned v ∧ ss.Perm (intKeys D0) ∧
      w'.ownsRow (w.alloc (.cells #[.map (some b)] 88)).heap.size 3 1 v ss.length ((ss.mergeSort (fun x y => decide (x ≤ y))).map encZ) ∧ (v = .slice none 0 0 ↔ ss = []) ∧ Below (w.alloc (.cells #[.map (some b)] 88)).heap.size (w.alloc (.cells #[.map (some b)] 88)) w' := by
  have hbl := hown.lt
  have hseq : SeqGives Fence.wide 2 Tryz.prog 64 #[.pointer (some ⟨w.heap.size, 0, none⟩)] encZ (fun ss => ss.Perm (intKeys D0)) (Maps.size D0) (w.alloc (.cells #[.map (some b)] 88)) :=
    AnyZI.keys_gives (ρ := Tryz.keys35_ren) { Tryz.keys35 with } Fence.wide _ trivial rfl (by omega) w.heap.size b nn D0 _ (by simp) (by simp) (by
      obtain ⟨es, clock, hb, Ft, hs, hD⟩ := hown
      exact ⟨es, clock, (Below.heap_alloc _ _ b hbl).trans hb, Ft, hs, hD⟩)
  exact AnyZI.sorted_in Tryz.sorted34 Fence.wide 5 trivial trivial trivial trivial rfl (by omega) (Tryz.sorts34 _) (enters_of Tryz.func63 (by kernel_rfl) rfl) 64 #[.pointer (some ⟨w.heap.size, 0, none⟩)] trivial (enters_of Tryz.func64 (by kernel_rfl) rfl) _ _ hmax hbytes _ hseq
end Go.Proofs
namespace Go.Proofs.YtiegadfhgccliaaGreatDoor
open Go.RowKit Go.Lib Go.Maps
open Go.ChangeMaps (setBlock)
open Go.WideElems (Fit rd rg rg_of)

def RiseI (l : List Int) : Prop := l.Pairwise fun a b => a < b
def insI (n : Int) : List Int → List Int
  | [] => [n]
  | m :: r => if m < n then m :: insI n r else if m = n then m :: r else n :: m :: r
theorem insI_mem {n x : Int} : ∀ {l : List Int}, x ∈ insI n l ↔ x = n ∨ x ∈ l
  | [] => by simp [insI]
  | m :: r => by
    unfold insI
    split
    · rw [List.mem_cons, insI_mem, List.mem_cons]
      constructor
      · rintro (h | h | h)
        · exact .inr (.inl h)
        · exact .inl h
        · exact .inr (.inr h)
      · rintro (h | h | h)
        · exact .inr (.inl h)
        · exact .inl h
        · exact .inr (.inr h)
    · split
      · rename_i h
        subst h
        rw [List.mem_cons]
        constructor
        · rintro (h | h)
          · exact .inl h
          · exact .inr (.inr h)
        · rintro (h | h | h)
          · exact .inl h
          · exact .inl h
          · exact .inr h
      · rw [List.mem_cons]
theorem insI_rise {n : Int} : ∀ {l : List Int}, RiseI l → RiseI (insI n l)
  | [], _ => by simp [insI, RiseI]
  | m :: r, h => by
    obtain ⟨h1, h2⟩ := List.pairwise_cons.1 h
    unfold insI
    split
    · refine List.pairwise_cons.2 ⟨fun x hx => ?_, insI_rise h2⟩
      rcases insI_mem.1 hx with rfl | hx
      · assumption
      · exact h1 x hx
    · split
      · exact h
      · refine List.pairwise_cons.2 ⟨fun x hx => ?_, h⟩
        rcases List.mem_cons.1 hx with rfl | hx
        · omega
        · have := h1 x hx; omega
theorem RiseI.nodup {l : List Int} (h : RiseI l) : l.Nodup := h.imp fun h e => by subst e; exact absurd h (Int.lt_irrefl _)
theorem riseI_uniq {a b : List Int} (ha : RiseI a) (hb : RiseI b) (h : ∀ x, x ∈ a ↔ x ∈ b) : a = b :=
  List.Perm.eq_of_pairwise (le := fun a b : Int => a < b) (fun a b _ _ h1 h2 => by omega) ha hb ((List.perm_ext_iff_of_nodup ha.nodup hb.nodup).2 h)
def usesB (L : List Bp) (U : List Int) : List Int := L.foldl (fun U p => insI p.ch U) U
theorem usesB_mem {x : Int} : ∀ {L : List Bp} {U : List Int}, x ∈ usesB L U ↔ x ∈ U ∨ ∃ p ∈ L, p.ch = x
  | [], U => by simp [usesB]
  | p :: r, U => by
    show x ∈ usesB r (insI p.ch U) ↔ _
    rw [usesB_mem, insI_mem]
    constructor
    · rintro ((h | h) | ⟨q, h1, h2⟩)
      · exact .inr ⟨p, by simp, h.symm⟩
      · exact .inl h
      · exact .inr ⟨q, by simp [h1], h2⟩
    · rintro (h | ⟨q, h1, h2⟩)
      · exact .inl (.inr h)
      · rcases List.mem_cons.1 h1 with rfl | h1
        · exact .inl (.inl h2.symm)
        · exact .inr ⟨q, h1, h2⟩
theorem usesB_rise : ∀ {L : List Bp} {U : List Int}, RiseI U → RiseI (usesB L U)
  | [], _, h => h
  | _ :: r, _, h => usesB_rise (L := r) (insI_rise h)
theorem rise_nil : RiseI [] := List.Pairwise.nil
def usesS (fs : List (Int × Bd)) (U : List Int) : List Int := fs.foldl (fun U f => usesB f.2.parts U) U
theorem usesS_mem {x : Int} : ∀ {L : List (Int × Bd)} {U : List Int}, x ∈ usesS L U ↔ x ∈ U ∨ ∃ f ∈ L, ∃ p ∈ f.2.parts, p.ch = x
  | [], U => by simp [usesS]
  | f :: r, U => by
    show x ∈ usesS r (usesB f.2.parts U) ↔ _
    rw [usesS_mem, usesB_mem]
    constructor
    · rintro ((h | h) | ⟨q, h1, h2⟩)
      · exact .inl h
      · exact .inr ⟨f, by simp, h⟩
      · exact .inr ⟨q, by simp [h1], h2⟩
    · rintro (h | ⟨q, h1, h2⟩)
      · exact .inl (.inl h)
      · rcases List.mem_cons.1 h1 with rfl | h1
        · exact .inl (.inr h2)
        · exact .inr ⟨q, h1, h2⟩
theorem usesS_rise : ∀ {L : List (Int × Bd)} {U : List Int}, RiseI U → RiseI (usesS L U)
  | [], _, h => h
  | _ :: r, _, h => usesS_rise (L := r) (usesB_rise h)
/-- A set of numbers as a map. -/
def addK (k : Int) (K : List Int) : List Int := if k ∈ K then K else K ++ [k]
theorem addK_mem {k x : Int} {K : List Int} : x ∈ addK k K ↔ x = k ∨ x ∈ K := by
  unfold addK
  split
  · constructor
    · exact .inr
    · rintro (rfl | h) <;> assumption
  · rw [List.mem_append, List.mem_singleton]; exact Or.comm
theorem addK_len (k : Int) (K : List Int) : (addK k K).length ≤ K.length + 1 := by
  unfold addK
  split
  · omega
  · simp
def entsB (K : List Int) : List (Int × Value) := K.map fun k => (k, Value.bool true)
theorem mput_true (k : Int) (K : List Int) : mput k (.bool true) (entsB K) = entsB (addK k K) := by
  unfold mput entsB addK
  by_cases h : k ∈ K
  · rw [if_pos h, if_pos (by rw [List.any_eq_true]; exact ⟨(k, .bool true), List.mem_map.2 ⟨k, h, rfl⟩, by simp⟩), List.map_map]
    refine List.map_congr_left fun x _ => ?_
    show (if x = k then (k, Value.bool true) else (x, Value.bool true)) = (x, Value.bool true)
    split
    · rename_i e; rw [e]
    · rfl
  · rw [if_neg h, if_neg (by
      rw [List.any_eq_true]
      rintro ⟨p, hp, e⟩
      obtain ⟨x, hx, rfl⟩ := List.mem_map.1 hp
      exact h (by have : x = k := by simpa using e
                  rw [← this]; exact hx)), List.map_append]
    rfl
theorem sorted_keys {K U ss : List Int} (hK : K.Nodup) (hs : ss.Perm K) (hU : RiseI U) (h : ∀ x, x ∈ K ↔ x ∈ U) : ss.mergeSort (fun x y => decide (x ≤ y)) = U := by
  have hp := (List.mergeSort_perm ss (fun x y : Int => decide (x ≤ y))).trans hs
  have h1 := List.pairwise_mergeSort (le := fun x y : Int => decide (x ≤ y)) (fun a b c h1 h2 => by simp at h1 h2 ⊢; omega) (fun a b => by simp; omega) ss
  have hn : (ss.mergeSort (fun x y => decide (x ≤ y))).Nodup := hp.nodup_iff.2 hK
  have hr : RiseI (ss.mergeSort (fun x y => decide (x ≤ y))) := by
    refine (h1.and hn).imp fun {a b} h => ?_
    have h2 : a ≤ b := by simpa using h.1
    have := h.2
    omega
  exact riseI_uniq hr hU fun x => by rw [hp.mem_iff]; exact h x

/-! ### Rows of numbers -/
def encI : EncK Int where
  enc x := [.int .i64 x]
  K := 1
  pos := by decide
  len _ := rfl
  one x u hu := by
    simp at hu
    subst hu; rfl
abbrev SlI (w : World) (a : Option Addr) (L : List Int) : Prop := SlK encI w a L
theorem SlI_at {w : World} {a : Option Addr} {L : List Int} (h : SlI w a L) {k : Nat} (hk : k < L.length) : ∃ b o, a = some ⟨b, o, none⟩ ∧ w.cell? ⟨b, o + k, none⟩ = some (.int .i64 (L.getD k default)) ∧ b < w.heap.size := by
  obtain ⟨b, o, e, h1, h2⟩ := h.at_ hk
  have := h1 0 _ rfl
  have e1 : encI.K = 1 := rfl
  rw [e1, Nat.mul_one, Nat.add_zero] at this
  exact ⟨b, o, e, this, h2⟩
theorem cellsI (L : List Int) : encI.cells L = L.map (Value.int .i64) := by
  induction L with
  | nil => rfl
  | cons x r ih => unfold EncK.cells at *; rw [List.flatMap_cons, ih]; rfl
/-- What slices.Sorted(maps.Keys(m)) asks of a map of numbers. -/
def keyI : Value → Int
  | .int .i64 n => n
  | _ => 0
theorem keysK : ∀ K : List Int, ((entsB K).map fun p => (intKey.enc p.1, p.2)).map (fun q => keyI q.1) = K
  | [] => rfl
  | k :: r => congrArg (k :: ·) (keysK r)
def rAnyI : Value → Option (DataW Unit × List MemPlace) := fun _ => some (.nil, [])
theorem keysI_of {P : Program} {k : TypeId} {R : Value → Option (DataW Unit × List MemPlace)} {es : List MapEntry} (h : ∀ x ∈ es, ∃ s : Int, x.key = .int .i64 s ∧ rd P k R x = some (.int .i64 s, .nil)) :
    (es.map (rg P k R)).map (fun p => Go.intOf p.1) = (es.map fun e => (e.key, e.val)).map fun q => keyI q.1 := by
  rw [List.map_map, List.map_map]
  refine List.map_congr_left fun x hx => ?_
  obtain ⟨s, h1, h2⟩ := h x hx
  show Go.intOf (rg P k R x).1 = keyI x.key
  rw [rg_of h2, h1]
  rfl
theorem MapIs.ownsI {w : World} {mb : Nat} {K : List Int} (h : MapIs intKey w mb (entsB K)) (hw : ∀ k ∈ K, -9223372036854775808 ≤ k ∧ k ≤ 9223372036854775807) (hn : K.length ≤ maxLen) :
    ∃ D : DataW Unit, w.ownsMap Tryz.prog 3 rAnyI mb K.length D ∧ (intKeys D).Perm K ∧ Maps.size D = K.length := by
  obtain ⟨es, clock, hb, hst, hM⟩ := h
  have hl : es.size = K.length := by
    have := congrArg List.length hM
    simpa [entsB] using this
  have hrd : ∀ x ∈ es.toList, ∃ s : Int, x.key = .int .i64 s ∧ rd Tryz.prog 3 rAnyI x = some (.int .i64 s, .nil) := by
    intro x hx
    obtain ⟨p, hp, e1, _⟩ := es_keys (K := intKey) hM x hx
    obtain ⟨k, hk1, rfl⟩ := List.mem_map.1 hp
    have e1 : x.key = .int .i64 k := e1
    refine ⟨k, e1, ?_⟩
    have hsz := hw k hk1
    have hwf : (Lit.int .i64 k).wf = true := by
      show (decide (IntKind.i64.min ≤ k) && decide (k ≤ IntKind.i64.max)) = true
      rw [show IntKind.i64.min = -9223372036854775808 by decide, show IntKind.i64.max = 9223372036854775807 by decide, decide_eq_true hsz.1, decide_eq_true hsz.2]
      rfl
    have hk : keyOf Tryz.prog 3 x.key = some (.int .i64 k) := by
      rw [e1]
      unfold keyOf
      rw [Tryz.underlying3]
      simp [mapKey, hwf]
    simp [rd, hk, rAnyI]
  refine ⟨_, ⟨es, clock, hb, ⟨by omega, hst, fun x hx => ?_⟩, by omega, rfl⟩, ?_, ?_⟩
  · obtain ⟨s, _, h2⟩ := hrd x hx
    exact ⟨_, h2⟩
  · show (((es.toList.map (rg Tryz.prog 3 rAnyI)).foldr DataW.insert []).map fun p => Go.intOf p.1).Perm _
    have hp := (Go.WideShapes.sorted_perm (es.toList.map (rg Tryz.prog 3 rAnyI))).map (fun p => Go.intOf p.1)
    refine hp.trans ?_
    have e1 := keysI_of hrd
    have e2 : (es.toList.map fun e => (e.key, e.val)).map (fun q => keyI q.1) = K := (congrArg (List.map fun q => keyI q.1) hM).trans (keysK K)
    exact (e1.trans e2) ▸ List.Perm.refl _
  · show ((es.toList.map (rg Tryz.prog 3 rAnyI)).foldr DataW.insert []).length = K.length
    rw [(Go.WideShapes.sorted_perm _).length_eq, List.length_map, Array.length_toList, hl]
end Go.Proofs.YtiegadfhgccliaaGreatDoor
