/- Walks of package path: Join, Under. -/
import Derived.Test.YtiegadfhgccliaaGreatDoorRows
import Derived.WalkKit
import Derived.WalkSpells
import Derived.WalkLawsBesides
import Derived.Lib.Hide
import Derived.RegionTactic
import Derived.BigRegion
import Derived.OwnWalk
import Derived.Laws.AppendOwn
import Derived.IntWalk
import Derived.Below
import Derived.Shelf.Strings.Builder1
import Derived.Shelf.Strings.Builder2
import Derived.Shelf.Strings.OnBuilder
import Derived.Shelf.Small.Bits
import Derived.Shelf.Small.Wraps
import Derived.Shelf.Strings.Builder2Cap
import Derived.Shelf.Strconv.Itoa0
import Derived.Shelf.Strings.Search1
import Derived.Shelf.Strings.Search2
import Derived.Shelf.Strings.Search3
import Derived.Shelf.Strings.Count
import Derived.Shelf.LaysM
import Derived.Shelf.Strings.Shaped
import Derived.Shelf.Sort.Plain
import Derived.Shelf.Strings.Prefix
import Derived.Shelf.Strings.Split
import Derived.Shelf.Unicode.DecodeSlow
import Derived.Shelf.Slices.In.SortNone
import Derived.Ground.SlgnProg
import Derived.Shelf.SlicesE.Equal
import Derived.Ground.SlgfProg
import Derived.Shelf.SlicesE.IndexFunc
import Derived.Test.YtiegadfhgccliaaGreatDoorProg
import Derived.Test.YtiegadfhgccliaaGreatDoorMName
import Derived.Room.Shelf.Join48
import Derived.Outline
namespace Go.Proofs.YtiegadfhgccliaaGreatDoor
open Go.RowKit Go.Lib

theorem blw {a b c : World} (h : Below a.heap.size a b) (k : Below b.heap.size b c) : Below a.heap.size a c := h.trans (k.mono h.size)
theorem bal {a b : World} (h : Below a.heap.size a b) (o : Obj) : Below a.heap.size a (b.alloc o) := h.alloc h.size o
theorem grown_below {B : Nat} {w W w1 : World} {v : Value} {e : TypeId} {size n : Nat} {xs : List Value} (hB : Below B w W) (hBW : B ≤ W.heap.size) (hown : W.ownsRow B e size v n xs) (hg : W.grownBy w1 v.ownBlock) : Below B w w1 :=
  hB.grown hg hBW fun k hk => (hown.lt k hk).1
theorem own_heap {w w' : World} {base : Nat} {e : TypeId} {size : Nat} {v : Value} {n : Nat} {xs : List Value} (h : w.ownsRow base e size v n xs) (hh : w'.heap = w.heap) : w'.ownsRow base e size v n xs := by
  refine ⟨h.1, ?_⟩
  rw [hh]
  exact h.2
/-- A cell of a row of the call's own, written. -/
theorem own_set {w : World} {base : Nat} {e : TypeId} {g cap : Nat} {n : Nat} {xs : List Value} (h : w.ownsRow base e 1 (.slice (some ⟨g, 0, none⟩) n cap) n xs) {k : Nat} (u : Value) : (w.setCell ⟨g, k, none⟩ u).ownsRow base e 1 (.slice (some ⟨g, 0, none⟩) n cap) n (xs.set k u) := by
  refine ⟨by simpa using h.1, ?_⟩
  rcases h.2 with ⟨hv, _⟩ | ⟨g', cap', cur, hv, hb, hg, h1, h2, h3, h4⟩
  · cases hv
  · obtain ⟨hg', _, hc'⟩ := Value.slice.inj hv
    obtain rfl : g = g' := by simpa using hg'
    subst hc'
    refine .inr ⟨g, cap, cur.setIfInBounds k u, rfl, hb, ?_, h1, h2, by simpa using h3, ?_⟩
    · have hgl := (Array.getElem?_eq_some_iff.1 hg).1
      unfold World.setCell
      simp only [Array.getElem?_modify, hg]
      simp
    · rw [Array.toList_setIfInBounds, ← h4, List.take_set]
theorem own_cell {w : World} {base : Nat} {e : TypeId} {g cap : Nat} {n : Nat} {xs : List Value} (h : w.ownsRow base e 1 (.slice (some ⟨g, 0, none⟩) n cap) n xs) {k : Nat} {u : Value} (hx : xs[k]? = some u) : w.cell? ⟨g, k, none⟩ = some u ∧ w.frozen? ⟨g, k, none⟩ = false ∧ base ≤ g ∧ g < w.heap.size := by
  rcases h.2 with ⟨hv, _⟩ | ⟨g', cap', cur, hv, hb, hg, h1, h2, h3, h4⟩
  · cases hv
  · obtain ⟨hg', _, hc'⟩ := Value.slice.inj hv
    obtain rfl : g = g' := by simpa using hg'
    have hk : k < cur.size := by
      rw [← h4, List.getElem?_take] at hx
      split at hx
      · obtain ⟨hl, _⟩ := List.getElem?_eq_some_iff.1 hx
        simpa using hl
      · cases hx
    rw [← h4, List.getElem?_take] at hx
    split at hx
    · refine ⟨?_, ?_, hb, (Array.getElem?_eq_some_iff.1 hg).1⟩
      · unfold World.cell?; rw [hg]; simpa using hx
      · unfold World.frozen?; rw [hg]; simp
    · cases hx
theorem one_new (w : World) (v : Value) (t : TypeId) : ∀ j u, [v][j]? = some u → (w.alloc (.cells #[v] t)).cell? ((⟨w.heap.size, 0, none⟩ : Addr).add j) = some u := by
  intro j u hu
  cases j with
  | zero =>
    simp at hu; subst hu
    have : ((⟨w.heap.size, 0, none⟩ : Addr).add 0) = ⟨w.heap.size, 0, none⟩ := rfl
    rw [this]
    unfold World.cell?
    rw [heap_alloc_new]; rfl
  | succ j => simp at hu
/-! A block of three cells, written over. -/
theorem heap_setCell_at {W : World} {B : Nat} {cs : Array Value} {T : TypeId} {f : Nat × Nat} (h : W.heap[B]? = some (.cells cs T f)) (k : Nat) (x : Value) : (W.setCell ⟨B, k, none⟩ x).heap[B]? = some (.cells (cs.setIfInBounds k x) T f) := by
  unfold World.setCell
  simp only [Array.getElem?_modify, h]
  simp
theorem b3_cells {W : World} {B : Nat} {a b c : Value} {T : TypeId} (h : W.heap[B]? = some (.cells #[a, b, c] T (0, 0))) : W.cell? ⟨B, 0, none⟩ = some a ∧ W.cell? ⟨B, 1, none⟩ = some b ∧ W.cell? ⟨B, 2, none⟩ = some c ∧ ∀ k, W.frozen? ⟨B, k, none⟩ = false := by
  refine ⟨?_, ?_, ?_, fun k => ?_⟩
  · unfold World.cell?; rw [h]; rfl
  · unfold World.cell?; rw [h]; rfl
  · unfold World.cell?; rw [h]; rfl
  · unfold World.frozen?; rw [h]; simp
theorem b3_facts {W : World} {B : Nat} {a b c : Value} {T : TypeId} (h : W.heap[B]? = some (.cells #[a, b, c] T (0, 0))) (x y : Value) :
    (W.cell? ⟨B, 0, none⟩ = some a ∧ W.frozen? ⟨B, 0, none⟩ = false) ∧ ((W.setCell ⟨B, 0, none⟩ x).cell? ⟨B, 1, none⟩ = some b ∧ (W.setCell ⟨B, 0, none⟩ x).frozen? ⟨B, 1, none⟩ = false) ∧
    (((W.setCell ⟨B, 0, none⟩ x).setCell ⟨B, 1, none⟩ y).cell? ⟨B, 2, none⟩ = some c ∧ ((W.setCell ⟨B, 0, none⟩ x).setCell ⟨B, 1, none⟩ y).frozen? ⟨B, 2, none⟩ = false) := by
  have h1 := heap_setCell_at h 0 x
  have h2 := heap_setCell_at h1 1 y
  have g0 := b3_cells h
  have g1 := b3_cells (a := x) (b := b) (c := c) h1
  have g2 := b3_cells (a := x) (b := y) (c := c) h2
  exact ⟨⟨g0.1, g0.2.2.2 0⟩, ⟨g1.2.1, g1.2.2.2 1⟩, ⟨g2.2.2.1, g2.2.2.2 2⟩⟩
theorem b3_end {W : World} {B : Nat} {a b c : Value} {T : TypeId} (h : W.heap[B]? = some (.cells #[a, b, c] T (0, 0))) (x y z : Value) : (((W.setCell ⟨B, 0, none⟩ x).setCell ⟨B, 1, none⟩ y).setCell ⟨B, 2, none⟩ z).heap[B]? = some (.cells #[x, y, z] T (0, 0)) := by
  have h1 := heap_setCell_at h 0 x
  have h2 := heap_setCell_at h1 1 y
  exact heap_setCell_at h2 2 z
theorem b3_keep {W : World} {B t o : Nat} (hn : t ≠ B) {v : Value} (h : W.cell? ⟨t, o, none⟩ = some v) (x y z : Value) : (((W.setCell ⟨B, 0, none⟩ x).setCell ⟨B, 1, none⟩ y).setCell ⟨B, 2, none⟩ z).cell? ⟨t, o, none⟩ = some v := by
  have e : ∀ k, (⟨B, k, none⟩ : Addr) ≠ ⟨t, o, none⟩ := fun k e => hn (by have := congrArg Addr.block e; exact this.symm)
  rw [World.cell?_setCell_other _ _ _ _ (e 2), World.cell?_setCell_other _ _ _ _ (e 1), World.cell?_setCell_other _ _ _ _ (e 0)]
  exact h
theorem b3_below {W : World} {B n : Nat} (hB : n ≤ B) {a : World} (h : Below n a W) (x y z : Value) : Below n a (((W.setCell ⟨B, 0, none⟩ x).setCell ⟨B, 1, none⟩ y).setCell ⟨B, 2, none⟩ z) :=
  ((h.setCell (p := ⟨B, 0, none⟩) hB _).setCell (p := ⟨B, 1, none⟩) hB _).setCell (p := ⟨B, 2, none⟩) hB _
end Go.Proofs.YtiegadfhgccliaaGreatDoor
namespace Go.Proofs
open Go.Shelf
def Tryz.lays156_ren : Go.Shelf.Ren := ⟨fun | 156 => 106 | 165 => 125 | 166 => 126 | 169 => 127 | 240 => 146 | 241 => 147 | 276 => 157 | 277 => 158 | n => n, fun | 31 => 95 | 9 => 9 | 3 => 3 | 4 => 4 | 0 => 0 | 20 => 20 | 72 => 184 | 76 => 187 | 70 => 182 | 37 => 29 | 75 => 186 | 127 => 203 | 164 => 211 | 5 => 5 | 80 => 189 | n => n, fun | n => n⟩
theorem Tryz.lays156 : Go.Proofs.Lays.n156 Tryz.prog Tryz.lays156_ren := {
  mixed := by kernel_rfl
  f156 := Tryz.func106.trans (congrArg some (by kernel_rfl))
  f165 := Tryz.func125.trans (congrArg some (by kernel_rfl))
  f166 := Tryz.func126.trans (congrArg some (by kernel_rfl))
  f169 := Tryz.func127.trans (congrArg some (by kernel_rfl))
  f240 := Tryz.func146.trans (congrArg some (by kernel_rfl))
  f241 := Tryz.func147.trans (congrArg some (by kernel_rfl))
  f276 := Tryz.func157.trans (congrArg some (by kernel_rfl))
  f277 := Tryz.func158.trans (congrArg some (by kernel_rfl))
  t0 := Tryz.underlying0
  a0 := Tryz.isAgg0
  z0 := Tryz.sizeOf0
  v0 := Tryz.zeroValue0
  t3 := Tryz.underlying3
  a3 := Tryz.isAgg3
  z3 := Tryz.sizeOf3
  v3 := Tryz.zeroValue3
  t4 := Tryz.underlying4
  a4 := Tryz.isAgg4
  z4 := Tryz.sizeOf4
  v4 := Tryz.zeroValue4
  t9 := Tryz.underlying9
  a9 := Tryz.isAgg9
  z9 := Tryz.sizeOf9
  v9 := Tryz.zeroValue9
  t20 := Tryz.underlying20
  a20 := Tryz.isAgg20
  z20 := Tryz.sizeOf20
  v20 := Tryz.zeroValue20
  t31 := Tryz.underlying95
  a31 := Tryz.isAgg95
  z31 := Tryz.sizeOf95
  v31 := Tryz.zeroValue95
  t37 := Tryz.underlying29
  a37 := Tryz.isAgg29
  z37 := Tryz.sizeOf29
  v37 := Tryz.zeroValue29
  t70 := Tryz.underlying182
  a70 := Tryz.isAgg182
  z70 := Tryz.sizeOf182
  v70 := Tryz.zeroValue182
  t72 := Tryz.underlying184
  a72 := Tryz.isAgg184
  z72 := Tryz.sizeOf184
  v72 := Tryz.zeroValue184
  t75 := Tryz.underlying186
  a75 := Tryz.isAgg186
  z75 := Tryz.sizeOf186
  v75 := Tryz.zeroValue186
  t76 := Tryz.underlying187
  a76 := Tryz.isAgg187
  z76 := Tryz.sizeOf187
  v76 := Tryz.zeroValue187
  t127 := Tryz.underlying203
  a127 := Tryz.isAgg203
  z127 := Tryz.sizeOf203
  v127 := Tryz.zeroValue203
  t164 := Tryz.underlying211
  a164 := Tryz.isAgg211
  z164 := Tryz.sizeOf211
  v164 := Tryz.zeroValue211 }
theorem Tryz.Builder_Extra_156 : Builder.Extra Tryz.prog Tryz.lays156_ren := {
  sizeBuilder := by kernel_rfl
  liesBuilder := by kernel_rfl
  t5 := Tryz.underlying5
  a5 := Tryz.isAgg5
  z5 := Tryz.sizeOf5
  v5 := Tryz.zeroValue5
  infoByte := by kernel_rfl
  cellsByte := by kernel_rfl
  sizeByte := by kernel_rfl
  neB5 := by decide }
open Go.RowKit in
/-- No element: the empty string; the world is as it was. (Whatever the slice's address and capacity: a nil slice too.) (LAID: no walk: one application.) -/
theorem Tryz.strings_Join_none (a : Option Addr) (c : Nat) (sep : ByteArray) (w : World) :
    Calls Tryz.prog 106 #[.slice a 0 c, .string sep] w fun e w' => e = .returned (.string ⟨#[]⟩) ∧ w' = w := Any.strings_Join_none Tryz.lays156 Tryz.Builder_Extra_156 a c sep w
def Tryz.lays99_ren : Go.Shelf.Ren := ⟨fun | 99 => 92 | 206 => 108 | n => n, fun | 9 => 9 | 4 => 4 | 3 => 3 | n => n, fun | n => n⟩
theorem Tryz.lays99 : Go.Proofs.Lays.n99 Tryz.prog Tryz.lays99_ren := {
  mixed := by kernel_rfl
  f99 := Tryz.func92.trans (congrArg some (by kernel_rfl))
  f206 := Tryz.func108.trans (congrArg some (by kernel_rfl))
  t3 := Tryz.underlying3
  a3 := Tryz.isAgg3
  z3 := Tryz.sizeOf3
  v3 := Tryz.zeroValue3
  t4 := Tryz.underlying4
  a4 := Tryz.isAgg4
  z4 := Tryz.sizeOf4
  v4 := Tryz.zeroValue4
  t9 := Tryz.underlying9
  a9 := Tryz.isAgg9
  z9 := Tryz.sizeOf9
  v9 := Tryz.zeroValue9 }
open Go.RowKit Go.Lib in
/-- strings.HasPrefix: "HasPrefix reports whether the string s begins with prefix.": IT RETURNS 'Lib.hasPrefix s prefix'; the world is as it was. (LAID: no walk: one application.) -/
theorem Tryz.strings_HasPrefix (s p : ByteArray) (w : World) :
    Calls Tryz.prog 92 #[.string s, .string p] w fun e w' => e = .returned (.bool (Lib.hasPrefix s.data.toList p.data.toList)) ∧ w' = w := Any.strings_HasPrefix Tryz.lays99 s p w
def Tryz.lays146_ren : Go.Shelf.Ren := ⟨fun | 146 => 99 | 221 => 122 | 268 => 143 | 138 => 144 | 143 => 145 | 195 => 153 | 197 => 154 | 218 => 155 | 219 => 156 | 260 => 160 | 217 => 161 | 225 => 162 | 224 => 163 | 267 => 164 | 266 => 165 | 314 => 166 | n => n, fun | 9 => 9 | 31 => 95 | 3 => 3 | 4 => 4 | 0 => 0 | 105 => 208 | 21 => 21 | 5 => 5 | 46 => 156 | 119 => 216 | 139 => 219 | 138 => 218 | 146 => 220 | 51 => 174 | n => n, fun | 1 => 0 | 3 => 1 | 4 => 2 | n => n⟩
theorem Tryz.lays146 : Go.Proofs.Lays.n146 Tryz.prog Tryz.lays146_ren := {
  mixed := by kernel_rfl
  f138 := Tryz.func144.trans (congrArg some (by kernel_rfl))
  f143 := Tryz.func145.trans (congrArg some (by kernel_rfl))
  f146 := Tryz.func99.trans (congrArg some (by kernel_rfl))
  f195 := Tryz.func153.trans (congrArg some (by kernel_rfl))
  f197 := Tryz.func154.trans (congrArg some (by kernel_rfl))
  f217 := Tryz.func161.trans (congrArg some (by kernel_rfl))
  f218 := Tryz.func155.trans (congrArg some (by kernel_rfl))
  f219 := Tryz.func156.trans (congrArg some (by kernel_rfl))
  f221 := Tryz.func122.trans (congrArg some (by kernel_rfl))
  f224 := Tryz.func163.trans (congrArg some (by kernel_rfl))
  f225 := Tryz.func162.trans (congrArg some (by kernel_rfl))
  f260 := Tryz.func160.trans (congrArg some (by kernel_rfl))
  f266 := Tryz.func165.trans (congrArg some (by kernel_rfl))
  f267 := Tryz.func164.trans (congrArg some (by kernel_rfl))
  f268 := Tryz.func143.trans (congrArg some (by kernel_rfl))
  f314 := Tryz.func166.trans (congrArg some (by kernel_rfl))
  t0 := Tryz.underlying0
  a0 := Tryz.isAgg0
  z0 := Tryz.sizeOf0
  v0 := Tryz.zeroValue0
  t3 := Tryz.underlying3
  a3 := Tryz.isAgg3
  z3 := Tryz.sizeOf3
  v3 := Tryz.zeroValue3
  t4 := Tryz.underlying4
  a4 := Tryz.isAgg4
  z4 := Tryz.sizeOf4
  v4 := Tryz.zeroValue4
  t5 := Tryz.underlying5
  a5 := Tryz.isAgg5
  z5 := Tryz.sizeOf5
  v5 := Tryz.zeroValue5
  t9 := Tryz.underlying9
  a9 := Tryz.isAgg9
  z9 := Tryz.sizeOf9
  v9 := Tryz.zeroValue9
  t21 := Tryz.underlying21
  a21 := Tryz.isAgg21
  z21 := Tryz.sizeOf21
  v21 := Tryz.zeroValue21
  t31 := Tryz.underlying95
  a31 := Tryz.isAgg95
  z31 := Tryz.sizeOf95
  v31 := Tryz.zeroValue95
  t46 := Tryz.underlying156
  a46 := Tryz.isAgg156
  z46 := Tryz.sizeOf156
  v46 := Tryz.zeroValue156
  t51 := Tryz.underlying174
  a51 := Tryz.isAgg174
  z51 := Tryz.sizeOf174
  v51 := Tryz.zeroValue174
  t105 := Tryz.underlying208
  a105 := Tryz.isAgg208
  z105 := Tryz.sizeOf208
  v105 := Tryz.zeroValue208
  t119 := Tryz.underlying216
  a119 := Tryz.isAgg216
  z119 := Tryz.sizeOf216
  t138 := Tryz.underlying218
  a138 := Tryz.isAgg218
  z138 := Tryz.sizeOf218
  v138 := Tryz.zeroValue218
  t139 := Tryz.underlying219
  a139 := Tryz.isAgg219
  z139 := Tryz.sizeOf219
  v139 := Tryz.zeroValue219
  t146 := Tryz.underlying220
  a146 := Tryz.isAgg220
  z146 := Tryz.sizeOf220
  v146 := Tryz.zeroValue220
  g1 := by kernel_rfl
  g3 := by kernel_rfl
  g4 := by kernel_rfl }
open Go.RowKit Go.Lib in
/-- strings.Split. (LAID: no walk: one application.) -/
theorem Tryz.strings_Split (s sep : ByteArray) (m : Int) (w : World) (hs : s.size < 4294967281) (hm : w.cell? ⟨0, 0, none⟩ = some (.int .i64 m)) (h1 : 1 ≤ sep.size) :
    Calls Tryz.prog 99 #[.string s, .string sep] w fun e w' =>
      e = .returned (.slice (some ⟨w.heap.size, 0, none⟩) (Lib.countB s sep + 1) (Lib.countB s sep + 1)) ∧ w' = w.alloc (.cells ((Lib.splitB sep 0 (Lib.countB s sep) s).map Value.string).toArray 9) := Any.strings_Split Tryz.lays146 (by kernel_rfl) s sep m w hs hm h1
def Tryz.laysSlE33_f102_ren : Go.Shelf.Ren := ⟨fun | 33 => 102 | n => n, fun | 22 => 95 | 23 => 9 | 4 => 4 | 3 => 3 | 0 => 0 | n => n, fun | n => n⟩
theorem Tryz.laysSlE33_f102 : Go.Proofs.SlLaysE.n33 Tryz.prog Tryz.laysSlE33_f102_ren := {
  mixed := by kernel_rfl
  f33 := ⟨Tryz.f102.name, by decide, Tryz.func102.trans (congrArg some (by kernel_rfl))⟩
  t0 := Tryz.underlying0
  a0 := Tryz.isAgg0
  z0 := Tryz.sizeOf0
  v0 := Tryz.zeroValue0
  t3 := Tryz.underlying3
  a3 := Tryz.isAgg3
  z3 := Tryz.sizeOf3
  v3 := Tryz.zeroValue3
  t4 := Tryz.underlying4
  a4 := Tryz.isAgg4
  z4 := Tryz.sizeOf4
  v4 := Tryz.zeroValue4
  t22 := Tryz.underlying95
  a22 := Tryz.isAgg95
  z22 := Tryz.sizeOf95
  v22 := Tryz.zeroValue95
  a23 := Tryz.isAgg9
  z23 := Tryz.sizeOf9 }
open Go.RowKit Go.Lib in
/-- slices.Equal: "Equal reports whether two slices are equal: the same length and all elements equal. .. Empty and nil slices are considered equal. Floating point NaNs are not considered equal.": IT RETURNS 'Lib.allEq eq (the one's elements) (the other's)'; the world is as it was but for the count of draws. (LAID AT THE INSTANCE 'slices.Equal[[]string,string]': no walk: one application.) -/
theorem Tryz.slices_Equal {α : Type} [Inhabited α] (enc : α → Value) (eq : α → α → Bool) (hne : NeqAt Tryz.prog 9 enc eq) (b1 o1 n c b2 o2 m d : Nat) (xs ys : List α) (w : World) (hx : n ≤ xs.length) (hy : m ≤ ys.length) (hbig : n ≤ 9223372036854775807) (hbig2 : m ≤ 9223372036854775807) (hc1 : ∀ j, j < xs.length → w.cell? ⟨b1, o1 + j, none⟩ = some (enc xs[j]!)) (hc2 : ∀ j, j < ys.length → w.cell? ⟨b2, o2 + j, none⟩ = some (enc ys[j]!)) :
    Calls Tryz.prog 102 #[.slice (some ⟨b1, o1, none⟩) n c, .slice (some ⟨b2, o2, none⟩) m d] w fun e w' => e = .returned (.bool (Lib.allEq eq (xs.take n) (ys.take m))) ∧ ∃ q, w' = w.drewN q := AnyE.slices_Equal Tryz.laysSlE33_f102 enc eq hne b1 o1 n c b2 o2 m d xs ys w hx hy hbig hbig2 hc1 hc2
def Tryz.laysSlH8_f100_ren : Go.Shelf.Ren := ⟨fun | 8 => 100 | 6 => 123 | n => n, fun | 22 => 95 | 23 => 9 | 25 => 104 | 4 => 4 | 3 => 3 | 0 => 0 | n => n, fun | n => n⟩
theorem Tryz.laysSlH8_f100 : Go.Proofs.SlLaysH.n8 Tryz.prog Tryz.laysSlH8_f100_ren := {
  mixed := by kernel_rfl
  f6 := ⟨Tryz.f123.name, by decide, Tryz.func123.trans (congrArg some (by kernel_rfl))⟩
  f8 := ⟨Tryz.f100.name, by decide, Tryz.func100.trans (congrArg some (by kernel_rfl))⟩
  t0 := Tryz.underlying0
  a0 := Tryz.isAgg0
  z0 := Tryz.sizeOf0
  v0 := Tryz.zeroValue0
  t3 := Tryz.underlying3
  a3 := Tryz.isAgg3
  z3 := Tryz.sizeOf3
  v3 := Tryz.zeroValue3
  t4 := Tryz.underlying4
  a4 := Tryz.isAgg4
  z4 := Tryz.sizeOf4
  v4 := Tryz.zeroValue4
  t22 := Tryz.underlying95
  a22 := Tryz.isAgg95
  z22 := Tryz.sizeOf95
  v22 := Tryz.zeroValue95
  a23 := Tryz.isAgg9
  z23 := Tryz.sizeOf9
  t25 := Tryz.underlying104
  a25 := Tryz.isAgg104
  z25 := Tryz.sizeOf104
  v25 := Tryz.zeroValue104 }
open Go.RowKit Go.Lib in
/-- slices.ContainsFunc: "ContainsFunc reports whether at least one element e of s satisfies f(e).": ITS CALLEE slices.IndexFunc IS MET BY ITS OWN CONTRACT. (LAID AT THE INSTANCE 'slices.ContainsFunc[[]string,string]': no walk: one application.) -/
theorem Tryz.slices_ContainsFunc {α : Type} [Inhabited α] (enc : α → Value) (p : α → Bool) (g : Nat) (lb : Array Value) (eg : ∀ args w, (callFunc g args).run Tryz.prog w = .ok (.enter g args) w) (b off n c : Nat) (zs : List α) (w : World) (hp : PredAt Tryz.prog g lb enc p w) (hz : n ≤ zs.length) (hbig : n ≤ 9223372036854775807) (hc : ∀ j, j < zs.length → w.cell? ⟨b, off + j, none⟩ = some (enc zs[j]!)) :
    Calls Tryz.prog 100 #[.slice (some ⟨b, off, none⟩) n c, .func (.func g) #[] lb] w fun e w' => e = .returned (.bool ((zs.take n).any p)) ∧ ∃ q, w' = w.drewN q := AnyE.slices_ContainsFunc Tryz.laysSlH8_f100 enc p g lb eg b off n c zs w hp hz hbig hc
end Go.Proofs
namespace Go.Proofs.YtiegadfhgccliaaGreatDoor
open Go.RowKit Go.Lib

/-- internal/bytealg.MaxLen holds a number. -/
def MLen (w : World) : Prop := ∃ m, w.cell? ⟨0, 0, none⟩ = some (.int .i64 m)
theorem MLen.lt {w : World} (h : MLen w) : 0 < w.heap.size := by
  obtain ⟨m, hm⟩ := h
  exact World.block_lt_of_cell? w _ hm
theorem MLen.below {w w' : World} (h : MLen w) (hb : Below w.heap.size w w') : MLen w' := by
  have hl := h.lt
  obtain ⟨m, hm⟩ := h
  exact ⟨m, (hb.cell (p := ⟨0, 0, none⟩) hl).trans hm⟩

theorem split_any (s : ByteArray) (w : World) (hs : s.size < 4294967281) (hm : MLen w) :
    Calls Tryz.prog 99 #[.string s, .string ⟨#[47]⟩] w fun e w' =>
      e = .returned (.slice (some ⟨w.heap.size, 0, none⟩) (partsOf s).length (partsOf s).length) ∧ w' = w.alloc (.cells ((partsOf s).map Value.string).toArray 9) := by
  obtain ⟨m, hm⟩ := hm
  have h := Tryz.strings_Split s ⟨#[47]⟩ m w hs hm (by decide)
  rw [splitB_parts, parts_count] at h
  exact h
theorem rds_new (w : World) (L : List ByteArray) (t : TypeId) : RdS (w.alloc (.cells (L.map Value.string).toArray t)) w.heap.size 0 L := by
  refine ⟨fun k hk => ?_, by simp⟩
  have h1 : (L.map Value.string)[k]? = some (.string (L.getD k default)) := by
    rw [List.getElem?_map]
    simp [List.getD, List.getElem?_eq_getElem hk]
  unfold World.cell?
  rw [heap_alloc_new]
  simpa using h1

/-- 'func(n string) bool { return !Name(n) }'. -/
theorem notName_any (s : ByteArray) (hs : s.size ≤ maxLen) (w : World) :
    Calls Tryz.prog 101 #[.string s] w fun e w' => e = .returned (.bool (!nameOk s)) ∧ ∃ n, w' = w.drewN n := by
  cases h : nameOk s
  all_goals
    go_enter Tryz.func101, Tryz.ntmps101
    go_wp2_with (go_at_call 45; refine (name_any _ hs _).mono ?_; rintro e w' ⟨rfl, n, rfl⟩; rw [h])
    go_ret
    exact ⟨rfl, _, rfl⟩

abbrev Fits := { s : ByteArray // s.size ≤ maxLen }
instance : Inhabited Fits := ⟨⟨⟨#[]⟩, by decide⟩⟩
theorem contains_any (b o : Nat) (L : List ByteArray) (w : World) (hL : RdS w b o L) (hn : L.length ≤ 9223372036854775807) (hf : ∀ x ∈ L, x.size ≤ maxLen) :
    Calls Tryz.prog 100 #[.slice (some ⟨b, o, none⟩) L.length L.length, .func (.func 101) #[] #[]] w fun e w' => e = .returned (.bool (L.any fun x => !nameOk x)) ∧ ∃ n, w' = w.drewN n := by
  let Z : List Fits := L.attach.map fun x => ⟨x.1, hf x.1 x.2⟩
  have hz : Z.length = L.length := by simp [Z]
  have hg : ∀ j, j < Z.length → (Z[j]!).1 = L.getD j default := by
    intro j hj
    have hj' : j < L.length := by omega
    have h1 : Z[j]! = Z[j] := by simp [hj]
    rw [h1]
    simp [Z, List.getD, hj']
  have h := Tryz.slices_ContainsFunc (fun x : Fits => Value.string x.1) (fun x => !nameOk x.1) 101 #[] (enters_of Tryz.func101 (by kernel_rfl) rfl) b o L.length L.length Z w
    (fun W x _ => notName_any x.1 x.2 W) (by omega) hn (fun j hj => by rw [hL.at_ j (by omega), ← hg j hj])
  have e : (Z.take L.length).any (fun x => !nameOk x.1) = L.any fun x => !nameOk x := by
    rw [← hz, List.take_length]
    simp only [Z, List.any_map]
    conv => rhs; rw [← List.attach_map_subtype_val L]
    rw [List.any_map]
    rfl
  rw [e] at h
  exact h

theorem parts_size (s : ByteArray) (x : ByteArray) (hx : x ∈ partsOf s) : x.size ≤ s.size := by
  have h : ∀ (t : List UInt8) (y : List UInt8), y ∈ pieces t → y.length ≤ t.length := by
    intro t
    induction t with
    | nil => intro y hy; simp [pieces] at hy; subst hy; simp
    | cons c t ih =>
      intro y hy
      have hne := pieces_ne t
      cases hp : pieces t with
      | nil => exact absurd hp hne
      | cons a r =>
        rw [hp] at ih
        unfold pieces at hy
        rw [hp] at hy
        split at hy
        · rcases List.mem_cons.1 hy with rfl | hy
          · simp
          · have := ih y hy; simp; omega
        · rcases List.mem_cons.1 hy with rfl | hy
          · have := ih a (by simp); simp; omega
          · have := ih y (by simp at hy ⊢; exact .inr hy); simp; omega
  unfold partsOf at hx
  obtain ⟨y, hy, rfl⟩ := List.mem_map.1 hx
  rw [mkB_size]
  rw [size_eq]
  exact h _ _ hy

/-- The ways through Split. -/
theorem psplit_ways (s : ByteArray) : ((s.toList == [47]) = true ∧ psplit s = some []) ∨
    ((s.toList == [47]) = false ∧ (decide ((64 : Int) < (s.size : Int)) = true) ∧ psplit s = none) ∨
    ((s.toList == [47]) = false ∧ (decide ((64 : Int) < (s.size : Int)) = false) ∧ hasPrefix s.data.toList [47] = false ∧ psplit s = none) ∨
    ((s.toList == [47]) = false ∧ (decide ((64 : Int) < (s.size : Int)) = false) ∧ hasPrefix s.data.toList [47] = true ∧ decide ((8 : Int) < ((partsOf (s.extract 1 s.size)).length : Int)) = true ∧ psplit s = none) ∨
    ((s.toList == [47]) = false ∧ (decide ((64 : Int) < (s.size : Int)) = false) ∧ hasPrefix s.data.toList [47] = true ∧ decide ((8 : Int) < ((partsOf (s.extract 1 s.size)).length : Int)) = false ∧ ((partsOf (s.extract 1 s.size)).any fun x => !nameOk x) = true ∧ psplit s = none) ∨
    ((s.toList == [47]) = false ∧ (decide ((64 : Int) < (s.size : Int)) = false) ∧ hasPrefix s.data.toList [47] = true ∧ decide ((8 : Int) < ((partsOf (s.extract 1 s.size)).length : Int)) = false ∧ ((partsOf (s.extract 1 s.size)).any fun x => !nameOk x) = false ∧ psplit s = some (partsOf (s.extract 1 s.size))) := by
  have c1 : decide ((64 : Int) < (s.size : Int)) = decide (64 < s.size) := by rw [decide_eq_decide]; omega
  have c2 : decide ((8 : Int) < ((partsOf (s.extract 1 s.size)).length : Int)) = decide (8 < (partsOf (s.extract 1 s.size)).length) := by rw [decide_eq_decide]; omega
  rw [c1, c2]
  unfold psplit
  generalize partsOf (s.extract 1 s.size) = L
  generalize (s.toList == [47]) = b0
  generalize decide (64 < s.size) = b1
  generalize hasPrefix s.data.toList [47] = b2
  generalize decide (8 < L.length) = b3
  generalize (L.any fun x => !nameOk x) = b4
  cases b0 <;> cases b1 <;> cases b2 <;> cases b3 <;> cases b4 <;> simp

def SplitOk (w : World) (L : List ByteArray) (e : Ending) (w' : World) : Prop := ∃ a c, e = .returned (.tuple #[.slice a L.length c, .int .i64 0]) ∧ L.length ≤ c ∧ SlS w' a L ∧ Below w.heap.size w w'
def SplitNo (w : World) (e : Ending) (w' : World) : Prop := e = .returned (.tuple #[.slice none 0 0, .int .i64 3]) ∧ Below w.heap.size w w'
def SplitAns (w : World) (s : ByteArray) (e : Ending) (w' : World) : Prop := match psplit s with
  | some L => SplitOk w L e w'
  | none => SplitNo w e w'
theorem splitAns_no {w : World} {s : ByteArray} (h : psplit s = none) {w' : World} (hb : Below w.heap.size w w') : SplitAns w s (.returned (.tuple #[.slice none 0 0, .int .i64 3])) w' := by
  unfold SplitAns; rw [h]; exact ⟨rfl, hb⟩
theorem splitAns_ok {w : World} {s : ByteArray} {L : List ByteArray} (h : psplit s = some L) {w' : World} {a : Option Addr} {c : Nat} (hc : L.length ≤ c) (hs : SlS w' a L) (hb : Below w.heap.size w w') : SplitAns w s (.returned (.tuple #[.slice a L.length c, .int .i64 0])) w' := by
  unfold SplitAns; rw [h]; exact ⟨a, c, rfl, hc, hs, hb⟩

set_option maxRecDepth 100000 in
set_option maxHeartbeats 1000000 in
theorem path_split (s : ByteArray) (w : World) (hs : s.size ≤ maxLen) (hm : MLen w) :
    Calls Tryz.prog 70 #[.string s] w (SplitAns w s) := by
  unfold maxLen at hs
  rcases psplit_ways s with ⟨h0, hp⟩ | ⟨h0, h1, hp⟩ | ⟨h0, h1, h2, hp⟩ | ⟨h0, h1, h2, h3, hp⟩ | ⟨h0, h1, h2, h3, h4, hp⟩ | ⟨h0, h1, h2, h3, h4, hp⟩
  · have HP := Lib.hid hp; clear hp
    go_enter Tryz.func70, Tryz.ntmps70
    go_wp2
    go_ret2
    exact splitAns_ok HP.out (Nat.le_refl _) (.nil _ _) (Below.refl _ _)
  · have HP := Lib.hid hp; clear hp
    go_enter Tryz.func70, Tryz.ntmps70
    go_wp2
    go_ret2
    exact splitAns_no HP.out (Below.refl _ _)
  · have HP := Lib.hid hp; clear hp
    have H2 := Lib.hid h2; clear h2
    go_enter Tryz.func70, Tryz.ntmps70
    go_wp2_with (go_at_call 92; refine (Tryz.strings_HasPrefix _ _ _).mono ?_; rintro e w' ⟨rfl, rfl⟩; rw [show hasPrefix s.data.toList (⟨#[47]⟩ : ByteArray).data.toList = false from H2.out])
    go_ret2
    exact splitAns_no HP.out (Below.refl _ _)
  all_goals
    have h64 : s.size ≤ 64 := by simp at h1; omega
    have h01 : 1 ≤ s.size := by
      have h' := congrArg List.length ((hasPrefix_one _).1 h2)
      rw [List.length_cons] at h'
      have := size_eq s
      omega
    have hsz : (s.extract 1 s.size).size ≤ 64 := by rw [ByteArray.size_extract]; omega
    have HP := Lib.hid hp; clear hp
    have H2 := Lib.hid h2; clear h2
    have hfit : Hid (∀ x ∈ partsOf (s.extract 1 s.size), x.size ≤ maxLen) := fun x hx => by have := parts_size _ x hx; unfold maxLen; omega
    have hl63 : (partsOf (s.extract 1 s.size)).length ≤ 65 := by
      rw [← parts_count]
      have := countB_le ⟨#[47]⟩ (by decide) _ (s.extract 1 s.size) (Nat.le_refl _)
      omega
    generalize hX : s.extract 1 s.size = X at *
    have HX := Lib.hid hX; clear hX
    have hsp := split_any X w (by omega) hm
    generalize hL : partsOf X = L at *
    clear hL
  · go_enter Tryz.func70, Tryz.ntmps70
    go_wp2_with (first
      | (go_at_call 92; refine (Tryz.strings_HasPrefix _ _ _).mono ?_; rintro e w' ⟨rfl, rfl⟩; rw [show hasPrefix s.data.toList (⟨#[47]⟩ : ByteArray).data.toList = true from H2.out])
      | (go_at_call 99; rw [HX.out]; refine hsp.mono ?_; rintro e w' ⟨rfl, rfl⟩))
    go_ret2
    exact splitAns_no HP.out ((Below.refl _ _).alloc (Nat.le_refl _) _)
  all_goals
    have hca := contains_any w.heap.size 0 L (w.alloc (.cells (L.map Value.string).toArray 9)) (rds_new w L _) (by omega) hfit.out
    rw [h4] at hca
    go_enter Tryz.func70, Tryz.ntmps70
    go_wp2_with (first
      | (go_at_call 92; refine (Tryz.strings_HasPrefix _ _ _).mono ?_; rintro e w' ⟨rfl, rfl⟩; rw [show hasPrefix s.data.toList (⟨#[47]⟩ : ByteArray).data.toList = true from H2.out])
      | (go_at_call 99; rw [HX.out]; refine hsp.mono ?_; rintro e w' ⟨rfl, rfl⟩)
      | (go_at_call 100; refine hca.mono ?_; rintro e w' ⟨rfl, n, rfl⟩))
    go_ret2
  · exact splitAns_no HP.out (below_drewN' ((Below.refl _ _).alloc (Nat.le_refl _) _) _)
  · refine splitAns_ok HP.out (Nat.le_refl _) (.inr ⟨_, _, rfl, ?_⟩) (below_drewN' ((Below.refl _ _).alloc (Nat.le_refl _) _) _)
    exact (rds_new _ L _).below (below_drewN' (Below.refl _ _) _)
end Go.Proofs.YtiegadfhgccliaaGreatDoor
namespace Go.Proofs.YtiegadfhgccliaaGreatDoor
open Go.RowKit Go.Lib

theorem join_call (a : Option Addr) (c : Nat) (L : List ByteArray) (w : World) (hL : SlS w a L) (hc : L.length ≤ c) (hN : L.length ≤ 140737488355328) (hlen : (join (L.map (·.data.toList)) [47]).length ≤ 281474976710656) :
    Calls Tryz.prog 106 #[.slice a L.length c, .string ⟨#[47]⟩] w fun e w' => e = .returned (.string (mkB (join (L.map (·.data.toList)) [47]))) ∧ Below w.heap.size w w' := by
  rcases hL with rfl | ⟨b, o, rfl, hr⟩
  · exact (Tryz.strings_Join_none a c ⟨#[47]⟩ w).mono fun e w' ⟨he, hw⟩ => ⟨he, hw ▸ Below.refl _ _⟩
  · refine Any.strings_Join_48 Tryz.lays156 Tryz.Builder_Extra_156 b o c L ⟨#[47]⟩ w (fun j x hx => ?_) hr.lt hN hc hlen
    have hj : j < L.length := by
      by_cases h : j < L.length
      · exact h
      · rw [List.getElem?_eq_none (by omega)] at hx; cases hx
    have := hr.at_ j hj
    rw [List.getD, hx] at this
    exact this
set_option maxRecDepth 100000 in
set_option maxHeartbeats 1000000 in
theorem path_join (a : Option Addr) (c : Nat) (L : List ByteArray) (w : World) (hL : SlS w a L) (hc : L.length ≤ c) (hN : L.length ≤ 140737488355328) (hlen : (join (L.map (·.data.toList)) [47]).length ≤ 281474976710656) :
    Calls Tryz.prog 88 #[.slice a L.length c] w fun e w' => e = .returned (.string (pjoin L)) ∧ Below w.heap.size w w' := by
  have hj := join_call a c L w hL hc hN hlen
  have hx : ∀ J : List UInt8, (⟨#[47]⟩ : ByteArray) ++ mkB J = mkB (47 :: J) := fun J => by
    apply bytes_ext; simp
  have hX := Lib.hid hx
  clear hx
  unfold pjoin
  generalize join (L.map (·.data.toList)) [47] = J at *
  have h1 : ¬ 9223372036854775807 < 1 + J.length := by omega
  clear hL hc hN hlen
  go_enter Tryz.func88, Tryz.ntmps88
  go_wp2_with (go_at_call 106; refine hj.mono ?_; rintro e w' ⟨rfl, hB⟩)
  go_ret
  exact ⟨by rw [hX.out]; rfl, hB⟩

theorem getB (L : List ByteArray) (j : Nat) (hj : j < L.length) : L[j]! = L.getD j default := by
  simp [List.getD, hj]
theorem allEq_beq : ∀ (x y : List ByteArray), allEq (fun a b : ByteArray => a.toList == b.toList) x y = decide (x = y)
  | [], [] => by simp [allEq]
  | [], _ :: _ => by simp [allEq]
  | _ :: _, [] => by simp [allEq]
  | a :: x, b :: y => by
    have h := allEq_beq x y
    unfold allEq
    rw [h, beq_bytes]
    simp

set_option maxHeartbeats 400000 in
theorem equal_none (a : Option Addr) (c : Nat) (a' : Option Addr) (c' : Nat) (w : World) :
    Calls Tryz.prog 102 #[.slice a 0 c, .slice a' 0 c'] w fun e w' => e = .returned (.bool true) ∧ ∃ q, w' = w.drewN q := by
  go_enter Tryz.func102, Tryz.ntmps102
  go_wp2
  go_loopg [13] 0 (fun _ s8 wr => s8 = .int .i64 0 ∧ wr = w)
  case atStart => exact ⟨rfl, rfl⟩
  case round =>
    obtain ⟨rfl, rfl⟩ := hrel
    go_wp2
    go_ret
    exact ⟨rfl, 0, rfl⟩
/-- The first ones of the one against the other. -/
theorem equal_strs (a : Option Addr) (c : Nat) (L : List ByteArray) (a' : Option Addr) (c' : Nat) (M : List ByteArray) (w : World) (hL : SlS w a L) (hM : SlS w a' M) (hl : M.length ≤ L.length) (hn : L.length ≤ 9223372036854775807) :
    Calls Tryz.prog 102 #[.slice a M.length c, .slice a' M.length c'] w fun e w' => e = .returned (.bool (decide (L.take M.length = M))) ∧ ∃ q, w' = w.drewN q := by
  rcases hM with rfl | ⟨b', o', rfl, hr'⟩
  · exact equal_none a c a' c' w
  · by_cases h0 : M = []
    · subst h0; exact equal_none a c _ c' w
    · obtain ⟨b, o, rfl, hr⟩ := hL.row (fun e => h0 (by subst e; cases M; rfl; simp at hl))
      have h := Tryz.slices_Equal Value.string (fun x y => x.toList == y.toList) (NeqAt.string Tryz.prog 9) b o M.length c b' o' M.length c' L M w hl (Nat.le_refl _) (by omega) (by omega)
        (fun j hj => by rw [getB L j hj]; exact hr.at_ j hj) (fun j hj => by rw [getB M j hj]; exact hr'.at_ j hj)
      rw [allEq_beq, List.take_length] at h
      exact h

theorem splitAns_some {w : World} {s : ByteArray} {L : List ByteArray} (h : psplit s = some L) {e : Ending} {w' : World} (hr : SplitAns w s e w') : ∃ a c, e = .returned (.tuple #[.slice a L.length c, .int .i64 0]) ∧ L.length ≤ c ∧ SlS w' a L ∧ Below w.heap.size w w' := by
  unfold SplitAns at hr; rw [h] at hr; exact hr
theorem splitAns_none {w : World} {s : ByteArray} (h : psplit s = none) {e : Ending} {w' : World} (hr : SplitAns w s e w') : e = .returned (.tuple #[.slice none 0 0, .int .i64 3]) ∧ Below w.heap.size w w' := by
  unfold SplitAns at hr; rw [h] at hr; exact hr

set_option maxRecDepth 100000 in
set_option maxHeartbeats 1000000 in
theorem path_under (a b : ByteArray) (w : World) (ha : a.size ≤ maxLen) (hb : b.size ≤ maxLen) (hm : MLen w) :
    Calls Tryz.prog 71 #[.string a, .string b] w fun e w' => e = .returned (.bool (punder a b)) ∧ Below w.heap.size w w' := by
  have H1 := Lib.hid (path_split a w ha hm)
  have H2 : Hid (∀ w1, Below w.heap.size w w1 → Calls Tryz.prog 70 #[.string b] w1 (SplitAns w1 b)) := fun w1 h => path_split b w1 hb (hm.below h)
  clear ha hb hm
  have hf : Hid (punder a b = match psplit a, psplit b with
    | some x, some y => decide (y.length < x.length) && (decide (x.take y.length = y))
    | _, _ => false) := rfl
  cases hx : psplit a with
  | none =>
    have HX := Lib.hid hx
    cases hy : psplit b with
    | none =>
      have HY := Lib.hid hy
      rw [hx, hy] at hf
      clear hx hy
      go_enter Tryz.func71, Tryz.ntmps71
      go_wp2_with fail
      refine H1.out.mono ?_
      intro e w1 hr
      obtain ⟨rfl, hB1⟩ := splitAns_none HX.out hr
      clear hr
      go_wp2_with fail
      refine (H2.out _ hB1).mono ?_
      intro e w2 hr
      obtain ⟨rfl, hB2⟩ := splitAns_none HY.out hr
      clear hr
      go_wp2_with fail
      go_ret
      exact ⟨by rw [hf.out]; rfl, blw hB1 hB2⟩
    | some y =>
      have HY := Lib.hid hy
      rw [hx, hy] at hf
      clear hx hy
      go_enter Tryz.func71, Tryz.ntmps71
      go_wp2_with fail
      refine H1.out.mono ?_
      intro e w1 hr
      obtain ⟨rfl, hB1⟩ := splitAns_none HX.out hr
      clear hr
      go_wp2_with fail
      refine (H2.out _ hB1).mono ?_
      intro e w2 hr
      obtain ⟨a2, c2, rfl, hc2, hS2, hB2⟩ := splitAns_some HY.out hr
      clear hr
      go_wp2_with fail
      go_ret
      exact ⟨by rw [hf.out]; rfl, blw hB1 hB2⟩
  | some x =>
    have HX := Lib.hid hx
    cases hy : psplit b with
    | none =>
      have HY := Lib.hid hy
      rw [hx, hy] at hf
      clear hx hy
      go_enter Tryz.func71, Tryz.ntmps71
      go_wp2_with fail
      refine H1.out.mono ?_
      intro e w1 hr
      obtain ⟨a1, c1, rfl, hc1, hS1, hB1⟩ := splitAns_some HX.out hr
      clear hr
      go_wp2_with fail
      refine (H2.out _ hB1).mono ?_
      intro e w2 hr
      obtain ⟨rfl, hB2⟩ := splitAns_none HY.out hr
      clear hr
      go_wp2_with fail
      go_ret
      exact ⟨by rw [hf.out]; rfl, blw hB1 hB2⟩
    | some y =>
      have HY := Lib.hid hy
      rw [hx, hy] at hf
      have hx8 := (psplit_ok hx).1.few
      have hy8 := (psplit_ok hy).1.few
      clear hx hy
      by_cases hl : y.length < x.length
      · have hl1 : decide ((y.length : Int) < (x.length : Int)) = true := by simp; omega
        have hfin := Lib.hid (show punder a b = (decide (x.take y.length = y)) by rw [hf.out]; simp [hl])
        go_enter Tryz.func71, Tryz.ntmps71
        go_wp2_with fail
        refine H1.out.mono ?_
        intro e w1 hr
        obtain ⟨a1, c1, rfl, hc1, hS1, hB1⟩ := splitAns_some HX.out hr
        clear hr
        go_wp2_with fail
        refine (H2.out _ hB1).mono ?_
        intro e w2 hr
        obtain ⟨a2, c2, rfl, hc2, hS2, hB2⟩ := splitAns_some HY.out hr
        clear hr
        have hq := equal_strs a1 c1 x a2 c2 y w2 (hS1.below hB2) hS2 (by omega) (by omega)
        go_wp2_with fail
        refine hq.mono ?_
        rintro e w3 ⟨rfl, q, rfl⟩
        go_wp2_with fail
        go_ret
        exact ⟨by rw [hfin.out]; rfl, below_drewN' (blw hB1 hB2) _⟩
      · have hl1 : decide ((y.length : Int) < (x.length : Int)) = false := by simp; omega
        have hfin := Lib.hid (show punder a b = false by rw [hf.out]; simp [hl])
        go_enter Tryz.func71, Tryz.ntmps71
        go_wp2_with fail
        refine H1.out.mono ?_
        intro e w1 hr
        obtain ⟨a1, c1, rfl, hc1, hS1, hB1⟩ := splitAns_some HX.out hr
        clear hr
        go_wp2_with fail
        refine (H2.out _ hB1).mono ?_
        intro e w2 hr
        obtain ⟨a2, c2, rfl, hc2, hS2, hB2⟩ := splitAns_some HY.out hr
        clear hr
        go_wp2_with fail
        go_ret
        exact ⟨by rw [hfin.out]; rfl, blw hB1 hB2⟩
end Go.Proofs.YtiegadfhgccliaaGreatDoor
