/- Walks of package path: Join, Under. -/
import Derived.Test.YtiegadfhgccliaaGreatDoorMBase
import Derived.Test.YtiegadfhgccliaaGreatDoorMShelf
import Derived.Room.Shelf.Join48
import Derived.Shelf.SlicesE.Equal
import Derived.Outline
namespace Go.Proofs.YtiegadfhgccliaaGreatDoor
open Go.RowKit Go.Lib

/-- internal/bytealg.MaxLen holds a number. -/
def MLen (w : World) : Prop := ∃ m, w.cell? ⟨0, 0, none⟩ = some (.int .i64 m)
theorem MLen.lt {w : World} (h : MLen w) : 0 < w.heap.size := by
  obtain ⟨m, hm⟩ := h
  exact World.block_lt_of_cell? w _ hm
theorem MLen.below {w w' : World} (h : MLen w) (hb : Below w.heap.size w w') : MLen w' := by
  have hl := h.lt
  obtain ⟨m, hm⟩ := h
  exact ⟨m, (hb.cell (p := ⟨0, 0, none⟩) hl).trans hm⟩

theorem split_any (s : ByteArray) (w : World) (hs : s.size < 4294967281) (hm : MLen w) :
    Calls Tryz.prog 99 #[.string s, .string ⟨#[47]⟩] w fun e w' =>
      e = .returned (.slice (some ⟨w.heap.size, 0, none⟩) (partsOf s).length (partsOf s).length) ∧ w' = w.alloc (.cells ((partsOf s).map Value.string).toArray 9) := by
  obtain ⟨m, hm⟩ := hm
  have h := Tryz.strings_Split s ⟨#[47]⟩ m w hs hm (by decide)
  rw [splitB_parts, parts_count] at h
  exact h
theorem rds_new (w : World) (L : List ByteArray) (t : TypeId) : RdS (w.alloc (.cells (L.map Value.string).toArray t)) w.heap.size 0 L := by
  refine ⟨fun k hk => ?_, by simp⟩
  have h1 : (L.map Value.string)[k]? = some (.string (L.getD k default)) := by
    rw [List.getElem?_map]
    simp [List.getD, List.getElem?_eq_getElem hk]
  unfold World.cell?
  rw [heap_alloc_new]
  simpa using h1

/-- 'func(n string) bool { return !Name(n) }'. -/
theorem notName_any (s : ByteArray) (hs : s.size ≤ maxLen) (w : World) :
    Calls Tryz.prog 101 #[.string s] w fun e w' => e = .returned (.bool (!nameOk s)) ∧ ∃ n, w' = w.drewN n := by
  cases h : nameOk s
  all_goals
    go_enter Tryz.func101, Tryz.ntmps101
    go_wp2_with (go_at_call 45; refine (name_any _ hs _).mono ?_; rintro e w' ⟨rfl, n, rfl⟩; rw [h])
    go_ret
    exact ⟨rfl, _, rfl⟩

abbrev Fits := { s : ByteArray // s.size ≤ maxLen }
instance : Inhabited Fits := ⟨⟨⟨#[]⟩, by decide⟩⟩
theorem contains_any (b o : Nat) (L : List ByteArray) (w : World) (hL : RdS w b o L) (hn : L.length ≤ 9223372036854775807) (hf : ∀ x ∈ L, x.size ≤ maxLen) :
    Calls Tryz.prog 100 #[.slice (some ⟨b, o, none⟩) L.length L.length, .func (.func 101) #[] #[]] w fun e w' => e = .returned (.bool (L.any fun x => !nameOk x)) ∧ ∃ n, w' = w.drewN n := by
  let Z : List Fits := L.attach.map fun x => ⟨x.1, hf x.1 x.2⟩
  have hz : Z.length = L.length := by simp [Z]
  have hg : ∀ j, j < Z.length → (Z[j]!).1 = L.getD j default := by
    intro j hj
    have hj' : j < L.length := by omega
    have h1 : Z[j]! = Z[j] := by simp [hj]
    rw [h1]
    simp [Z, List.getD, hj']
  have h := Tryz.slices_ContainsFunc (fun x : Fits => Value.string x.1) (fun x => !nameOk x.1) 101 #[] (enters_of Tryz.func101 (by kernel_rfl) rfl) b o L.length L.length Z w
    (fun W x _ => notName_any x.1 x.2 W) (by omega) hn (fun j hj => by rw [hL.at_ j (by omega), ← hg j hj])
  have e : (Z.take L.length).any (fun x => !nameOk x.1) = L.any fun x => !nameOk x := by
    rw [← hz, List.take_length]
    simp only [Z, List.any_map]
    conv => rhs; rw [← List.attach_map_subtype_val L]
    rw [List.any_map]
    rfl
  rw [e] at h
  exact h

theorem parts_size (s : ByteArray) (x : ByteArray) (hx : x ∈ partsOf s) : x.size ≤ s.size := by
  have h : ∀ (t : List UInt8) (y : List UInt8), y ∈ pieces t → y.length ≤ t.length := by
    intro t
    induction t with
    | nil => intro y hy; simp [pieces] at hy; subst hy; simp
    | cons c t ih =>
      intro y hy
      have hne := pieces_ne t
      cases hp : pieces t with
      | nil => exact absurd hp hne
      | cons a r =>
        rw [hp] at ih
        unfold pieces at hy
        rw [hp] at hy
        split at hy
        · rcases List.mem_cons.1 hy with rfl | hy
          · simp
          · have := ih y hy; simp; omega
        · rcases List.mem_cons.1 hy with rfl | hy
          · have := ih a (by simp); simp; omega
          · have := ih y (by simp at hy ⊢; exact .inr hy); simp; omega
  unfold partsOf at hx
  obtain ⟨y, hy, rfl⟩ := List.mem_map.1 hx
  rw [mkB_size]
  rw [size_eq]
  exact h _ _ hy

/-- The ways through Split. -/
theorem psplit_ways (s : ByteArray) : ((s.toList == [47]) = true ∧ psplit s = some []) ∨
    ((s.toList == [47]) = false ∧ (decide ((64 : Int) < (s.size : Int)) = true) ∧ psplit s = none) ∨
    ((s.toList == [47]) = false ∧ (decide ((64 : Int) < (s.size : Int)) = false) ∧ hasPrefix s.data.toList [47] = false ∧ psplit s = none) ∨
    ((s.toList == [47]) = false ∧ (decide ((64 : Int) < (s.size : Int)) = false) ∧ hasPrefix s.data.toList [47] = true ∧ decide ((8 : Int) < ((partsOf (s.extract 1 s.size)).length : Int)) = true ∧ psplit s = none) ∨
    ((s.toList == [47]) = false ∧ (decide ((64 : Int) < (s.size : Int)) = false) ∧ hasPrefix s.data.toList [47] = true ∧ decide ((8 : Int) < ((partsOf (s.extract 1 s.size)).length : Int)) = false ∧ ((partsOf (s.extract 1 s.size)).any fun x => !nameOk x) = true ∧ psplit s = none) ∨
    ((s.toList == [47]) = false ∧ (decide ((64 : Int) < (s.size : Int)) = false) ∧ hasPrefix s.data.toList [47] = true ∧ decide ((8 : Int) < ((partsOf (s.extract 1 s.size)).length : Int)) = false ∧ ((partsOf (s.extract 1 s.size)).any fun x => !nameOk x) = false ∧ psplit s = some (partsOf (s.extract 1 s.size))) := by
  have c1 : decide ((64 : Int) < (s.size : Int)) = decide (64 < s.size) := by rw [decide_eq_decide]; omega
  have c2 : decide ((8 : Int) < ((partsOf (s.extract 1 s.size)).length : Int)) = decide (8 < (partsOf (s.extract 1 s.size)).length) := by rw [decide_eq_decide]; omega
  rw [c1, c2]
  unfold psplit
  generalize partsOf (s.extract 1 s.size) = L
  generalize (s.toList == [47]) = b0
  generalize decide (64 < s.size) = b1
  generalize hasPrefix s.data.toList [47] = b2
  generalize decide (8 < L.length) = b3
  generalize (L.any fun x => !nameOk x) = b4
  cases b0 <;> cases b1 <;> cases b2 <;> cases b3 <;> cases b4 <;> simp

def SplitOk (w : World) (L : List ByteArray) (e : Ending) (w' : World) : Prop := ∃ a c, e = .returned (.tuple #[.slice a L.length c, .int .i64 0]) ∧ L.length ≤ c ∧ SlS w' a L ∧ Below w.heap.size w w'
def SplitNo (w : World) (e : Ending) (w' : World) : Prop := e = .returned (.tuple #[.slice none 0 0, .int .i64 3]) ∧ Below w.heap.size w w'
def SplitAns (w : World) (s : ByteArray) (e : Ending) (w' : World) : Prop := match psplit s with
  | some L => SplitOk w L e w'
  | none => SplitNo w e w'
theorem splitAns_no {w : World} {s : ByteArray} (h : psplit s = none) {w' : World} (hb : Below w.heap.size w w') : SplitAns w s (.returned (.tuple #[.slice none 0 0, .int .i64 3])) w' := by
  unfold SplitAns; rw [h]; exact ⟨rfl, hb⟩
theorem splitAns_ok {w : World} {s : ByteArray} {L : List ByteArray} (h : psplit s = some L) {w' : World} {a : Option Addr} {c : Nat} (hc : L.length ≤ c) (hs : SlS w' a L) (hb : Below w.heap.size w w') : SplitAns w s (.returned (.tuple #[.slice a L.length c, .int .i64 0])) w' := by
  unfold SplitAns; rw [h]; exact ⟨a, c, rfl, hc, hs, hb⟩

set_option maxRecDepth 100000 in
set_option maxHeartbeats 1000000 in
theorem path_split (s : ByteArray) (w : World) (hs : s.size ≤ maxLen) (hm : MLen w) :
    Calls Tryz.prog 70 #[.string s] w (SplitAns w s) := by
  unfold maxLen at hs
  rcases psplit_ways s with ⟨h0, hp⟩ | ⟨h0, h1, hp⟩ | ⟨h0, h1, h2, hp⟩ | ⟨h0, h1, h2, h3, hp⟩ | ⟨h0, h1, h2, h3, h4, hp⟩ | ⟨h0, h1, h2, h3, h4, hp⟩
  · have HP := Lib.hid hp; clear hp
    go_enter Tryz.func70, Tryz.ntmps70
    go_wp2
    go_ret2
    exact splitAns_ok HP.out (Nat.le_refl _) (.nil _ _) (Below.refl _ _)
  · have HP := Lib.hid hp; clear hp
    go_enter Tryz.func70, Tryz.ntmps70
    go_wp2
    go_ret2
    exact splitAns_no HP.out (Below.refl _ _)
  · have HP := Lib.hid hp; clear hp
    have H2 := Lib.hid h2; clear h2
    go_enter Tryz.func70, Tryz.ntmps70
    go_wp2_with (go_at_call 92; refine (Tryz.strings_HasPrefix _ _ _).mono ?_; rintro e w' ⟨rfl, rfl⟩; rw [show hasPrefix s.data.toList (⟨#[47]⟩ : ByteArray).data.toList = false from H2.out])
    go_ret2
    exact splitAns_no HP.out (Below.refl _ _)
  all_goals
    have h64 : s.size ≤ 64 := by simp at h1; omega
    have h01 : 1 ≤ s.size := by
      have h' := congrArg List.length ((hasPrefix_one _).1 h2)
      rw [List.length_cons] at h'
      have := size_eq s
      omega
    have hsz : (s.extract 1 s.size).size ≤ 64 := by rw [ByteArray.size_extract]; omega
    have HP := Lib.hid hp; clear hp
    have H2 := Lib.hid h2; clear h2
    have hfit : Hid (∀ x ∈ partsOf (s.extract 1 s.size), x.size ≤ maxLen) := fun x hx => by have := parts_size _ x hx; unfold maxLen; omega
    have hl63 : (partsOf (s.extract 1 s.size)).length ≤ 65 := by
      rw [← parts_count]
      have := countB_le ⟨#[47]⟩ (by decide) _ (s.extract 1 s.size) (Nat.le_refl _)
      omega
    generalize hX : s.extract 1 s.size = X at *
    have HX := Lib.hid hX; clear hX
    have hsp := split_any X w (by omega) hm
    generalize hL : partsOf X = L at *
    clear hL
  · go_enter Tryz.func70, Tryz.ntmps70
    go_wp2_with (first
      | (go_at_call 92; refine (Tryz.strings_HasPrefix _ _ _).mono ?_; rintro e w' ⟨rfl, rfl⟩; rw [show hasPrefix s.data.toList (⟨#[47]⟩ : ByteArray).data.toList = true from H2.out])
      | (go_at_call 99; rw [HX.out]; refine hsp.mono ?_; rintro e w' ⟨rfl, rfl⟩))
    go_ret2
    exact splitAns_no HP.out ((Below.refl _ _).alloc (Nat.le_refl _) _)
  all_goals
    have hca := contains_any w.heap.size 0 L (w.alloc (.cells (L.map Value.string).toArray 9)) (rds_new w L _) (by omega) hfit.out
    rw [h4] at hca
    go_enter Tryz.func70, Tryz.ntmps70
    go_wp2_with (first
      | (go_at_call 92; refine (Tryz.strings_HasPrefix _ _ _).mono ?_; rintro e w' ⟨rfl, rfl⟩; rw [show hasPrefix s.data.toList (⟨#[47]⟩ : ByteArray).data.toList = true from H2.out])
      | (go_at_call 99; rw [HX.out]; refine hsp.mono ?_; rintro e w' ⟨rfl, rfl⟩)
      | (go_at_call 100; refine hca.mono ?_; rintro e w' ⟨rfl, n, rfl⟩))
    go_ret2
  · exact splitAns_no HP.out (below_drewN' ((Below.refl _ _).alloc (Nat.le_refl _) _) _)
  · refine splitAns_ok HP.out (Nat.le_refl _) (.inr ⟨_, _, rfl, ?_⟩) (below_drewN' ((Below.refl _ _).alloc (Nat.le_refl _) _) _)
    exact (rds_new _ L _).below (below_drewN' (Below.refl _ _) _)
end Go.Proofs.YtiegadfhgccliaaGreatDoor
namespace Go.Proofs.YtiegadfhgccliaaGreatDoor
open Go.RowKit Go.Lib

theorem join_call (a : Option Addr) (c : Nat) (L : List ByteArray) (w : World) (hL : SlS w a L) (hc : L.length ≤ c) (hN : L.length ≤ 140737488355328) (hlen : (join (L.map (·.data.toList)) [47]).length ≤ 281474976710656) :
    Calls Tryz.prog 106 #[.slice a L.length c, .string ⟨#[47]⟩] w fun e w' => e = .returned (.string (mkB (join (L.map (·.data.toList)) [47]))) ∧ Below w.heap.size w w' := by
  rcases hL with rfl | ⟨b, o, rfl, hr⟩
  · exact (Tryz.strings_Join_none a c ⟨#[47]⟩ w).mono fun e w' ⟨he, hw⟩ => ⟨he, hw ▸ Below.refl _ _⟩
  · refine Any.strings_Join_48 Tryz.lays156 Tryz.Builder_Extra_156 b o c L ⟨#[47]⟩ w (fun j x hx => ?_) hr.lt hN hc hlen
    have hj : j < L.length := by
      by_cases h : j < L.length
      · exact h
      · rw [List.getElem?_eq_none (by omega)] at hx; cases hx
    have := hr.at_ j hj
    rw [List.getD, hx] at this
    exact this
set_option maxRecDepth 100000 in
set_option maxHeartbeats 1000000 in
theorem path_join (a : Option Addr) (c : Nat) (L : List ByteArray) (w : World) (hL : SlS w a L) (hc : L.length ≤ c) (hN : L.length ≤ 140737488355328) (hlen : (join (L.map (·.data.toList)) [47]).length ≤ 281474976710656) :
    Calls Tryz.prog 88 #[.slice a L.length c] w fun e w' => e = .returned (.string (pjoin L)) ∧ Below w.heap.size w w' := by
  have hj := join_call a c L w hL hc hN hlen
  have hx : ∀ J : List UInt8, (⟨#[47]⟩ : ByteArray) ++ mkB J = mkB (47 :: J) := fun J => by
    apply bytes_ext; simp
  have hX := Lib.hid hx
  clear hx
  unfold pjoin
  generalize join (L.map (·.data.toList)) [47] = J at *
  have h1 : ¬ 9223372036854775807 < 1 + J.length := by omega
  clear hL hc hN hlen
  go_enter Tryz.func88, Tryz.ntmps88
  go_wp2_with (go_at_call 106; refine hj.mono ?_; rintro e w' ⟨rfl, hB⟩)
  go_ret
  exact ⟨by rw [hX.out]; rfl, hB⟩

theorem getB (L : List ByteArray) (j : Nat) (hj : j < L.length) : L[j]! = L.getD j default := by
  simp [List.getD, hj]
theorem allEq_beq : ∀ (x y : List ByteArray), allEq (fun a b : ByteArray => a.toList == b.toList) x y = decide (x = y)
  | [], [] => by simp [allEq]
  | [], _ :: _ => by simp [allEq]
  | _ :: _, [] => by simp [allEq]
  | a :: x, b :: y => by
    have h := allEq_beq x y
    unfold allEq
    rw [h, beq_bytes]
    simp

set_option maxHeartbeats 400000 in
theorem equal_none (a : Option Addr) (c : Nat) (a' : Option Addr) (c' : Nat) (w : World) :
    Calls Tryz.prog 102 #[.slice a 0 c, .slice a' 0 c'] w fun e w' => e = .returned (.bool true) ∧ ∃ q, w' = w.drewN q := by
  go_enter Tryz.func102, Tryz.ntmps102
  go_wp2
  go_loopg [13] 0 (fun _ s8 wr => s8 = .int .i64 0 ∧ wr = w)
  case atStart => exact ⟨rfl, rfl⟩
  case round =>
    obtain ⟨rfl, rfl⟩ := hrel
    go_wp2
    go_ret
    exact ⟨rfl, 0, rfl⟩
/-- The first ones of the one against the other. -/
theorem equal_strs (a : Option Addr) (c : Nat) (L : List ByteArray) (a' : Option Addr) (c' : Nat) (M : List ByteArray) (w : World) (hL : SlS w a L) (hM : SlS w a' M) (hl : M.length ≤ L.length) (hn : L.length ≤ 9223372036854775807) :
    Calls Tryz.prog 102 #[.slice a M.length c, .slice a' M.length c'] w fun e w' => e = .returned (.bool (decide (L.take M.length = M))) ∧ ∃ q, w' = w.drewN q := by
  rcases hM with rfl | ⟨b', o', rfl, hr'⟩
  · exact equal_none a c a' c' w
  · by_cases h0 : M = []
    · subst h0; exact equal_none a c _ c' w
    · obtain ⟨b, o, rfl, hr⟩ := hL.row (fun e => h0 (by subst e; cases M; rfl; simp at hl))
      have h := Tryz.slices_Equal Value.string (fun x y => x.toList == y.toList) (NeqAt.string Tryz.prog 9) b o M.length c b' o' M.length c' L M w hl (Nat.le_refl _) (by omega) (by omega)
        (fun j hj => by rw [getB L j hj]; exact hr.at_ j hj) (fun j hj => by rw [getB M j hj]; exact hr'.at_ j hj)
      rw [allEq_beq, List.take_length] at h
      exact h

theorem splitAns_some {w : World} {s : ByteArray} {L : List ByteArray} (h : psplit s = some L) {e : Ending} {w' : World} (hr : SplitAns w s e w') : ∃ a c, e = .returned (.tuple #[.slice a L.length c, .int .i64 0]) ∧ L.length ≤ c ∧ SlS w' a L ∧ Below w.heap.size w w' := by
  unfold SplitAns at hr; rw [h] at hr; exact hr
theorem splitAns_none {w : World} {s : ByteArray} (h : psplit s = none) {e : Ending} {w' : World} (hr : SplitAns w s e w') : e = .returned (.tuple #[.slice none 0 0, .int .i64 3]) ∧ Below w.heap.size w w' := by
  unfold SplitAns at hr; rw [h] at hr; exact hr

set_option maxRecDepth 100000 in
set_option maxHeartbeats 1000000 in
theorem path_under (a b : ByteArray) (w : World) (ha : a.size ≤ maxLen) (hb : b.size ≤ maxLen) (hm : MLen w) :
    Calls Tryz.prog 71 #[.string a, .string b] w fun e w' => e = .returned (.bool (punder a b)) ∧ Below w.heap.size w w' := by
  have H1 := Lib.hid (path_split a w ha hm)
  have H2 : Hid (∀ w1, Below w.heap.size w w1 → Calls Tryz.prog 70 #[.string b] w1 (SplitAns w1 b)) := fun w1 h => path_split b w1 hb (hm.below h)
  clear ha hb hm
  have hf : Hid (punder a b = match psplit a, psplit b with
    | some x, some y => decide (y.length < x.length) && (decide (x.take y.length = y))
    | _, _ => false) := rfl
  cases hx : psplit a with
  | none =>
    have HX := Lib.hid hx
    cases hy : psplit b with
    | none =>
      have HY := Lib.hid hy
      rw [hx, hy] at hf
      clear hx hy
      go_enter Tryz.func71, Tryz.ntmps71
      go_wp2_with fail
      refine H1.out.mono ?_
      intro e w1 hr
      obtain ⟨rfl, hB1⟩ := splitAns_none HX.out hr
      clear hr
      go_wp2_with fail
      refine (H2.out _ hB1).mono ?_
      intro e w2 hr
      obtain ⟨rfl, hB2⟩ := splitAns_none HY.out hr
      clear hr
      go_wp2_with fail
      go_ret
      exact ⟨by rw [hf.out]; rfl, blw hB1 hB2⟩
    | some y =>
      have HY := Lib.hid hy
      rw [hx, hy] at hf
      clear hx hy
      go_enter Tryz.func71, Tryz.ntmps71
      go_wp2_with fail
      refine H1.out.mono ?_
      intro e w1 hr
      obtain ⟨rfl, hB1⟩ := splitAns_none HX.out hr
      clear hr
      go_wp2_with fail
      refine (H2.out _ hB1).mono ?_
      intro e w2 hr
      obtain ⟨a2, c2, rfl, hc2, hS2, hB2⟩ := splitAns_some HY.out hr
      clear hr
      go_wp2_with fail
      go_ret
      exact ⟨by rw [hf.out]; rfl, blw hB1 hB2⟩
  | some x =>
    have HX := Lib.hid hx
    cases hy : psplit b with
    | none =>
      have HY := Lib.hid hy
      rw [hx, hy] at hf
      clear hx hy
      go_enter Tryz.func71, Tryz.ntmps71
      go_wp2_with fail
      refine H1.out.mono ?_
      intro e w1 hr
      obtain ⟨a1, c1, rfl, hc1, hS1, hB1⟩ := splitAns_some HX.out hr
      clear hr
      go_wp2_with fail
      refine (H2.out _ hB1).mono ?_
      intro e w2 hr
      obtain ⟨rfl, hB2⟩ := splitAns_none HY.out hr
      clear hr
      go_wp2_with fail
      go_ret
      exact ⟨by rw [hf.out]; rfl, blw hB1 hB2⟩
    | some y =>
      have HY := Lib.hid hy
      rw [hx, hy] at hf
      have hx8 := (psplit_ok hx).1.few
      have hy8 := (psplit_ok hy).1.few
      clear hx hy
      by_cases hl : y.length < x.length
      · have hl1 : decide ((y.length : Int) < (x.length : Int)) = true := by simp; omega
        have hfin := Lib.hid (show punder a b = (decide (x.take y.length = y)) by rw [hf.out]; simp [hl])
        go_enter Tryz.func71, Tryz.ntmps71
        go_wp2_with fail
        refine H1.out.mono ?_
        intro e w1 hr
        obtain ⟨a1, c1, rfl, hc1, hS1, hB1⟩ := splitAns_some HX.out hr
        clear hr
        go_wp2_with fail
        refine (H2.out _ hB1).mono ?_
        intro e w2 hr
        obtain ⟨a2, c2, rfl, hc2, hS2, hB2⟩ := splitAns_some HY.out hr
        clear hr
        have hq := equal_strs a1 c1 x a2 c2 y w2 (hS1.below hB2) hS2 (by omega) (by omega)
        go_wp2_with fail
        refine hq.mono ?_
        rintro e w3 ⟨rfl, q, rfl⟩
        go_wp2_with fail
        go_ret
        exact ⟨by rw [hfin.out]; rfl, below_drewN' (blw hB1 hB2) _⟩
      · have hl1 : decide ((y.length : Int) < (x.length : Int)) = false := by simp; omega
        have hfin := Lib.hid (show punder a b = false by rw [hf.out]; simp [hl])
        go_enter Tryz.func71, Tryz.ntmps71
        go_wp2_with fail
        refine H1.out.mono ?_
        intro e w1 hr
        obtain ⟨a1, c1, rfl, hc1, hS1, hB1⟩ := splitAns_some HX.out hr
        clear hr
        go_wp2_with fail
        refine (H2.out _ hB1).mono ?_
        intro e w2 hr
        obtain ⟨a2, c2, rfl, hc2, hS2, hB2⟩ := splitAns_some HY.out hr
        clear hr
        go_wp2_with fail
        go_ret
        exact ⟨by rw [hfin.out]; rfl, blw hB1 hB2⟩
end Go.Proofs.YtiegadfhgccliaaGreatDoor
