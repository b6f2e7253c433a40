/- slices.Backward at points: what it hands to a loop's body. -/
import Derived.RangeFuncNested
import Derived.RangeFuncBound
import Derived.RangeFuncCalls
import Derived.RangeFuncLeaves
import Derived.RangeFuncBox
import Derived.Shelf.Abstract
import Derived.OwnWalkIn
import Derived.TacticsInMore
import Derived.LoopNIn
import Derived.LoopIn
import Derived.Test.YtddnhjpclglclaaPts
namespace Go.Proofs.Ytddnhjpclglclaa
open Go.RowKit Go.Shelf
attribute [local go_sem] Oper.semAt_some

/-- What has come when k rounds are over: the last k points, the last first. -/
def fromBack (L : List Pt) (k : Nat) : List (Int × Pt) := (List.range k).map fun j => (((L.length - 1 - j : Nat) : Int), L.getD (L.length - 1 - j) default)
theorem fromBack_succ (L : List Pt) (k : Nat) : fromBack L (k + 1) = fromBack L k ++ [(((L.length - 1 - k : Nat) : Int), L.getD (L.length - 1 - k) default)] := by simp [fromBack, List.range_succ]
theorem fromBack_length (L : List Pt) (k : Nat) : (fromBack L k).length = k := by simp [fromBack]
def encP (x : Int × Pt) : Array Value := #[.int .i64 x.1, .agg #[.int .i64 x.2.seq, .float .f64 x.2.st, .string x.2.mark]]

set_option maxRecDepth 100000 in
set_option maxHeartbeats 2000000 in
theorem back1_in (F : Fence) (n : Nat) (h7 : F.fn 65) (hro : F.round = none) (hn : 1 ≤ n) (l Bs n₀ b off cap : Nat) (L : List Pt) (hreach : L.length < 9223372036854775807) (hb : b < n₀) (J Jx : List (Int × Pt) → World → Prop)
    (hY : ∀ pre x W, J pre W → pre.length < L.length → YieldAt F (n - 1) Try.prog l (encP x) W fun e W' =>
      (e = .returned (.bool true) ∧ J (pre ++ [x]) W' ∧ Below n₀ W W') ∨ (e = .returned (.bool false) ∧ Jx (pre ++ [x]) W'))
    (W : World) (hBs : W.cell? ⟨Bs, 0, none⟩ = some (.slice (some ⟨b, off, none⟩) L.length cap)) (hBl : Bs < n₀) (hc : RdP W b off L) (h0 : J [] W) :
    CallsIn F n Try.prog 65 #[.func (.yield l) #[] #[], .pointer (some ⟨Bs, 0, none⟩)] W fun e W' => (∃ v, e = .returned v) ∧
      ((∃ ys, ys = fromBack L L.length ∧ J ys W') ∨ (∃ pre, (∃ k, k ≤ L.length ∧ pre = fromBack L k) ∧ Jx pre W')) := by
  refine callsIn_of_wp Try.func65 rfl h7 ?_ hro
  simp only [Try.ntmps65, List.size_toArray, List.length_cons, List.length_nil, Nat.reduceAdd, Nat.reduceSub, Array.replicate_succ, Array.replicate_zero, List.push_toArray, List.append_toArray, List.nil_append, List.cons_append]
  gi_wp2
  gi_loopw [3] (fun i wr => ∃ k : Nat, k ≤ L.length ∧ i = .int .i64 ((L.length : Int) - 1 - k) ∧ J (fromBack L k) wr ∧ Below n₀ W wr)
    (fun i _ => (intOf i + 1).toNat)
  case atStart => exact ⟨0, Nat.zero_le _, by simp, h0, Below.refl _ _⟩
  case round =>
    obtain ⟨k, hk, rfl, hJs, hnx⟩ := hrel
    by_cases hlt : k < L.length
    · have hcell := (hnx.cell (p := ⟨Bs, 0, none⟩) hBl).trans hBs
      have hi : ((L.length : Int) - 1 - k) = ((L.length - 1 - k : Nat) : Int) := by omega
      rw [hi]
      obtain ⟨c0, c1, c2⟩ := (hc.at_ (L.length - 1 - k) (by omega)).below hnx hb
      obtain ⟨fn, tmps, assign, body, hy, hR⟩ := hY _ (((L.length - 1 - k : Nat) : Int), L.getD (L.length - 1 - k) default) wr hJs (by rw [fromBack_length]; exact hlt)
      dsimp only [encP] at hy
      have HJ := fromBack_succ L k
      generalize hm : L.length - 1 - k = m at *
      have hm1 : m < L.length := by omega
      have Hm := Lib.hid hm
      clear hm hi
      generalize L.getD m default = p at *
      have HJ' := Lib.hid HJ
      clear HJ
      gi_wp2
      refine hR.mono ?_
      rintro e W3 (⟨rfl, hJ3, hk3⟩ | ⟨rfl, hJx3⟩)
      · gi_wp2
        go_roundw
        case rel => exact ⟨k + 1, by omega, by rw [show ((m : Int) - 1) = (L.length : Int) - 1 - ((k + 1 : Nat) : Int) from by have := Hm.out; omega], by rw [HJ'.out]; exact hJ3, hnx.trans hk3⟩
        case measure => have := Hm.out; simp [intOf]
      · gi_wp2
        refine bodyPost_ret (results_none rfl _ _ _) rfl ?_
        exact ⟨⟨_, rfl⟩, .inr ⟨_, ⟨k + 1, by omega, HJ'.out.symm⟩, hJx3⟩⟩
    · obtain rfl : k = L.length := by omega
      have hm1 : ((L.length : Int) - 1 - (L.length : Int)) = -1 := by omega
      rw [hm1]
      gi_wp2
      go_end0
      exact ⟨⟨_, rfl⟩, .inl ⟨_, rfl, hJs⟩⟩

set_option maxRecDepth 100000 in
set_option maxHeartbeats 1000000 in
theorem back1_nil (F : Fence) (n : Nat) (h7 : F.fn 65) (hro : F.round = none) (l Bs : Nat) (a : Option Addr) (cap : Nat) (J : List (Int × Pt) → World → Prop) (W : World) (hBs : W.cell? ⟨Bs, 0, none⟩ = some (.slice a 0 cap)) (h0 : J [] W) :
    CallsIn F n Try.prog 65 #[.func (.yield l) #[] #[], .pointer (some ⟨Bs, 0, none⟩)] W fun e W' => (∃ v, e = .returned v) ∧ J [] W' := by
  refine callsIn_of_wp Try.func65 rfl h7 ?_ hro
  simp only [Try.ntmps65, List.size_toArray, List.length_cons, List.length_nil, Nat.reduceAdd, Nat.reduceSub, Array.replicate_succ, Array.replicate_zero, List.push_toArray, List.append_toArray, List.nil_append, List.cons_append]
  gi_wp2
  gi_loopw [3] (fun i wr => i = .int .i64 (-1) ∧ J [] wr) (fun _ _ => 0)
  case atStart => exact ⟨rfl, h0⟩
  case round =>
    obtain ⟨rfl, hJs⟩ := hrel
    gi_wp2
    go_end0
    exact ⟨⟨_, rfl⟩, hJs⟩

/-- The slice value sv reads as the points L. -/
def SlP (W : World) (sv : Value) (L : List Pt) : Prop := (∃ a cap, sv = .slice a 0 cap ∧ L = []) ∨ ∃ b off cap, sv = .slice (some ⟨b, off, none⟩) L.length cap ∧ RdP W b off L
theorem SlP.below {W W' : World} {sv : Value} {L : List Pt} (h : SlP W sv L) (hb : Below W.heap.size W W') : SlP W' sv L := by
  rcases h with h | ⟨b, off, cap, e, r⟩
  · exact .inl h
  · exact .inr ⟨b, off, cap, e, r.below hb⟩

/-- Backward's value: all points, the last first; or the first k of these. -/
theorem back_stops (F : Fence) (n : Nat) (h7 : F.fn 65) (hro : F.round = none) (hn : 1 ≤ n) (Bs : Nat) (sv : Value) (L : List Pt) (hreach : L.length < 9223372036854775807) (w : World) (hBs : Bs < w.heap.size)
    (hc : w.cell? ⟨Bs, 0, none⟩ = some sv) (hI : SlP w sv L) :
    SeqStopsK F n Try.prog 65 #[.pointer (some ⟨Bs, 0, none⟩)] encP (Below w.heap.size) (fun ys => ys = fromBack L L.length)
      (fun pre => ∃ k, k ≤ L.length ∧ pre = fromBack L k) L.length w := fun l J Jx W hW _ _ hY h0 => by
  have hc' := (hW.cell (p := ⟨Bs, 0, none⟩) hBs).trans hc
  rcases hI.below hW with ⟨a, cap, rfl, rfl⟩ | ⟨b, off, cap, rfl, hr⟩
  · exact (back1_nil F n h7 hro l Bs a cap J W hc' h0).mono fun e W' ⟨he, hj⟩ => ⟨he, .inl ⟨_, rfl, hj⟩⟩
  · rcases hI with ⟨a, cap', e, _⟩ | ⟨b', off', cap', e, hr0⟩
    · cases L with
      | nil =>
        exact (back1_nil F n h7 hro l Bs _ _ J W hc' h0).mono fun e W' ⟨he, hj⟩ => ⟨he, .inl ⟨_, rfl, hj⟩⟩
      | cons p L => simp at e
    · cases e
      exact back1_in F n h7 hro hn l Bs w.heap.size b off cap L hreach hr0.lt J Jx hY W hc' hBs hr h0

set_option maxHeartbeats 1000000 in
theorem back_in (F : Fence) (n : Nat) (h5 : F.fn 62) (hro : F.round = none) (a : Option Addr) (len cap : Nat) (w : World) :
    CallsIn F n Try.prog 62 #[.slice a len cap] w fun e w' => e = .returned (.func (.func 65) #[] #[.pointer (some ⟨w.heap.size, 0, none⟩)]) ∧ w' = w.alloc (.cells #[.slice a len cap] 22) := by
  refine callsIn_of_wp Try.func62 rfl h5 ?_ hro
  simp only [Try.ntmps62, List.size_toArray, List.length_cons, List.length_nil, Nat.reduceAdd, Nat.reduceSub, Array.replicate_succ, Array.replicate_zero, List.push_toArray, List.append_toArray, List.nil_append, List.cons_append]
  gi_wp2
  go_ret
  exact ⟨rfl, rfl⟩
end Go.Proofs.Ytddnhjpclglclaa
