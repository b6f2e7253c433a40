/- Walks of package path: Join, Under. -/
import Derived.Test.YtahdmkmefeocmaaGreatDoorMPathW
import Derived.Test.YtahdmkmefeocmaaGreatDoorMBase
import Derived.Shelf.SlicesE.Equal
import Derived.Outline
namespace Go.Proofs.YtahdmkmefeocmaaGreatDoor
open Go.RowKit Go.Lib

theorem join_call (a : Option Addr) (c : Nat) (L : List ByteArray) (w : World) (hL : SlS w a L) (hc : L.length ≤ c) (hN : L.length ≤ 140737488355328) (hlen : (join (L.map (·.data.toList)) [47]).length ≤ 281474976710656) :
    Calls Tryz.prog 61 #[.slice a L.length c, .string ⟨#[47]⟩] w fun e w' => e = .returned (.string (mkB (join (L.map (·.data.toList)) [47]))) ∧ Below w.heap.size w w' := by
  rcases hL with rfl | ⟨b, o, rfl, hr⟩
  · exact (Tryz.strings_Join_none a c ⟨#[47]⟩ w).mono fun e w' ⟨he, hw⟩ => ⟨he, hw ▸ Below.refl _ _⟩
  · refine Any.strings_Join_48 Tryz.lays156 Tryz.Builder_Extra_156 b o c L ⟨#[47]⟩ w (fun j x hx => ?_) hr.lt hN hc hlen
    have hj : j < L.length := by
      by_cases h : j < L.length
      · exact h
      · rw [List.getElem?_eq_none (by omega)] at hx; cases hx
    have := hr.at_ j hj
    rw [List.getD, hx] at this
    exact this
set_option maxRecDepth 100000 in
set_option maxHeartbeats 1000000 in
theorem path_join (a : Option Addr) (c : Nat) (L : List ByteArray) (w : World) (hL : SlS w a L) (hc : L.length ≤ c) (hN : L.length ≤ 140737488355328) (hlen : (join (L.map (·.data.toList)) [47]).length ≤ 281474976710656) :
    Calls Tryz.prog 34 #[.slice a L.length c] w fun e w' => e = .returned (.string (pjoin L)) ∧ Below w.heap.size w w' := by
  have hj := join_call a c L w hL hc hN hlen
  have hx : ∀ J : List UInt8, (⟨#[47]⟩ : ByteArray) ++ mkB J = mkB (47 :: J) := fun J => by
    apply bytes_ext; simp
  have hX := Lib.hid hx
  clear hx
  unfold pjoin
  generalize join (L.map (·.data.toList)) [47] = J at *
  have h1 : ¬ 9223372036854775807 < 1 + J.length := by omega
  clear hL hc hN hlen
  go_enter Tryz.func34, Tryz.ntmps34
  go_wp2_with (go_at_call 61; refine hj.mono ?_; rintro e w' ⟨rfl, hB⟩)
  go_ret
  exact ⟨by rw [hX.out]; rfl, hB⟩

theorem getB (L : List ByteArray) (j : Nat) (hj : j < L.length) : L[j]! = L.getD j default := by
  simp [List.getD, hj]
theorem allEq_beq : ∀ (x y : List ByteArray), allEq (fun a b : ByteArray => a.toList == b.toList) x y = decide (x = y)
  | [], [] => by simp [allEq]
  | [], _ :: _ => by simp [allEq]
  | _ :: _, [] => by simp [allEq]
  | a :: x, b :: y => by
    have h := allEq_beq x y
    unfold allEq
    rw [h, beq_bytes]
    simp

set_option maxHeartbeats 400000 in
theorem equal_none (a : Option Addr) (c : Nat) (a' : Option Addr) (c' : Nat) (w : World) :
    Calls Tryz.prog 70 #[.slice a 0 c, .slice a' 0 c'] w fun e w' => e = .returned (.bool true) ∧ ∃ q, w' = w.drewN q := by
  go_enter Tryz.func70, Tryz.ntmps70
  go_wp2
  go_loopg [13] 0 (fun _ s8 wr => s8 = .int .i64 0 ∧ wr = w)
  case atStart => exact ⟨rfl, rfl⟩
  case round =>
    obtain ⟨rfl, rfl⟩ := hrel
    go_wp2
    go_ret
    exact ⟨rfl, 0, rfl⟩
/-- The first ones of the one against the other. -/
theorem equal_strs (a : Option Addr) (c : Nat) (L : List ByteArray) (a' : Option Addr) (c' : Nat) (M : List ByteArray) (w : World) (hL : SlS w a L) (hM : SlS w a' M) (hl : M.length ≤ L.length) (hn : L.length ≤ 9223372036854775807) :
    Calls Tryz.prog 70 #[.slice a M.length c, .slice a' M.length c'] w fun e w' => e = .returned (.bool (decide (L.take M.length = M))) ∧ ∃ q, w' = w.drewN q := by
  rcases hM with rfl | ⟨b', o', rfl, hr'⟩
  · exact equal_none a c a' c' w
  · by_cases h0 : M = []
    · subst h0; exact equal_none a c _ c' w
    · obtain ⟨b, o, rfl, hr⟩ := hL.row (fun e => h0 (by subst e; cases M; rfl; simp at hl))
      have h := Tryz.slices_Equal Value.string (fun x y => x.toList == y.toList) (NeqAt.string Tryz.prog 9) b o M.length c b' o' M.length c' L M w hl (Nat.le_refl _) (by omega) (by omega)
        (fun j hj => by rw [getB L j hj]; exact hr.at_ j hj) (fun j hj => by rw [getB M j hj]; exact hr'.at_ j hj)
      rw [allEq_beq, List.take_length] at h
      exact h

theorem splitAns_some {w : World} {s : ByteArray} {L : List ByteArray} (h : psplit s = some L) {e : Ending} {w' : World} (hr : SplitAns w s e w') : ∃ a c, e = .returned (.tuple #[.slice a L.length c, .int .i64 0]) ∧ L.length ≤ c ∧ SlS w' a L ∧ Below w.heap.size w w' := by
  unfold SplitAns at hr; rw [h] at hr; exact hr
theorem splitAns_none {w : World} {s : ByteArray} (h : psplit s = none) {e : Ending} {w' : World} (hr : SplitAns w s e w') : e = .returned (.tuple #[.slice none 0 0, .int .i64 3]) ∧ Below w.heap.size w w' := by
  unfold SplitAns at hr; rw [h] at hr; exact hr

set_option maxRecDepth 100000 in
set_option maxHeartbeats 1000000 in
theorem path_under (a b : ByteArray) (w : World) (ha : a.size ≤ maxLen) (hb : b.size ≤ maxLen) (hm : MLen w) :
    Calls Tryz.prog 51 #[.string a, .string b] w fun e w' => e = .returned (.bool (punder a b)) ∧ Below w.heap.size w w' := by
  have H1 := Lib.hid (path_split a w ha hm)
  have H2 : Hid (∀ w1, Below w.heap.size w w1 → Calls Tryz.prog 33 #[.string b] w1 (SplitAns w1 b)) := fun w1 h => path_split b w1 hb (hm.below h)
  clear ha hb hm
  have hf : Hid (punder a b = match psplit a, psplit b with
    | some x, some y => decide (y.length < x.length) && (decide (x.take y.length = y))
    | _, _ => false) := rfl
  cases hx : psplit a with
  | none =>
    have HX := Lib.hid hx
    cases hy : psplit b with
    | none =>
      have HY := Lib.hid hy
      rw [hx, hy] at hf
      clear hx hy
      go_enter Tryz.func51, Tryz.ntmps51
      go_wp2_with fail
      refine H1.out.mono ?_
      intro e w1 hr
      obtain ⟨rfl, hB1⟩ := splitAns_none HX.out hr
      clear hr
      go_wp2_with fail
      refine (H2.out _ hB1).mono ?_
      intro e w2 hr
      obtain ⟨rfl, hB2⟩ := splitAns_none HY.out hr
      clear hr
      go_wp2_with fail
      go_ret
      exact ⟨by rw [hf.out]; rfl, blw hB1 hB2⟩
    | some y =>
      have HY := Lib.hid hy
      rw [hx, hy] at hf
      clear hx hy
      go_enter Tryz.func51, Tryz.ntmps51
      go_wp2_with fail
      refine H1.out.mono ?_
      intro e w1 hr
      obtain ⟨rfl, hB1⟩ := splitAns_none HX.out hr
      clear hr
      go_wp2_with fail
      refine (H2.out _ hB1).mono ?_
      intro e w2 hr
      obtain ⟨a2, c2, rfl, hc2, hS2, hB2⟩ := splitAns_some HY.out hr
      clear hr
      go_wp2_with fail
      go_ret
      exact ⟨by rw [hf.out]; rfl, blw hB1 hB2⟩
  | some x =>
    have HX := Lib.hid hx
    cases hy : psplit b with
    | none =>
      have HY := Lib.hid hy
      rw [hx, hy] at hf
      clear hx hy
      go_enter Tryz.func51, Tryz.ntmps51
      go_wp2_with fail
      refine H1.out.mono ?_
      intro e w1 hr
      obtain ⟨a1, c1, rfl, hc1, hS1, hB1⟩ := splitAns_some HX.out hr
      clear hr
      go_wp2_with fail
      refine (H2.out _ hB1).mono ?_
      intro e w2 hr
      obtain ⟨rfl, hB2⟩ := splitAns_none HY.out hr
      clear hr
      go_wp2_with fail
      go_ret
      exact ⟨by rw [hf.out]; rfl, blw hB1 hB2⟩
    | some y =>
      have HY := Lib.hid hy
      rw [hx, hy] at hf
      have hx8 := (psplit_ok hx).1.few
      have hy8 := (psplit_ok hy).1.few
      clear hx hy
      by_cases hl : y.length < x.length
      · have hl1 : decide ((y.length : Int) < (x.length : Int)) = true := by simp; omega
        have hfin := Lib.hid (show punder a b = (decide (x.take y.length = y)) by rw [hf.out]; simp [hl])
        go_enter Tryz.func51, Tryz.ntmps51
        go_wp2_with fail
        refine H1.out.mono ?_
        intro e w1 hr
        obtain ⟨a1, c1, rfl, hc1, hS1, hB1⟩ := splitAns_some HX.out hr
        clear hr
        go_wp2_with fail
        refine (H2.out _ hB1).mono ?_
        intro e w2 hr
        obtain ⟨a2, c2, rfl, hc2, hS2, hB2⟩ := splitAns_some HY.out hr
        clear hr
        have hq := equal_strs a1 c1 x a2 c2 y w2 (hS1.below hB2) hS2 (by omega) (by omega)
        go_wp2_with fail
        refine hq.mono ?_
        rintro e w3 ⟨rfl, q, rfl⟩
        go_wp2_with fail
        go_ret
        exact ⟨by rw [hfin.out]; rfl, below_drewN' (blw hB1 hB2) _⟩
      · have hl1 : decide ((y.length : Int) < (x.length : Int)) = false := by simp; omega
        have hfin := Lib.hid (show punder a b = false by rw [hf.out]; simp [hl])
        go_enter Tryz.func51, Tryz.ntmps51
        go_wp2_with fail
        refine H1.out.mono ?_
        intro e w1 hr
        obtain ⟨a1, c1, rfl, hc1, hS1, hB1⟩ := splitAns_some HX.out hr
        clear hr
        go_wp2_with fail
        refine (H2.out _ hB1).mono ?_
        intro e w2 hr
        obtain ⟨a2, c2, rfl, hc2, hS2, hB2⟩ := splitAns_some HY.out hr
        clear hr
        go_wp2_with fail
        go_ret
        exact ⟨by rw [hfin.out]; rfl, blw hB1 hB2⟩
end Go.Proofs.YtahdmkmefeocmaaGreatDoor
