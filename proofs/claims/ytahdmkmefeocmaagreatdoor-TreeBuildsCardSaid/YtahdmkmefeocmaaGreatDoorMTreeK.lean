/- A tree of a law's own: what holds of it between the calls; the law's closures. -/
import Derived.Test.YtahdmkmefeocmaaGreatDoorMTreeW9
namespace Go.Proofs.YtahdmkmefeocmaaGreatDoor
open Go.RowKit Go.Lib
open Go.ChangeMaps (setBlock)

/-- A tree that the call itself made. -/
structure TK (w0 w : World) (tb mb : Nat) (T : TS) : Prop where
  tree : TreeP w tb mb T
  inv : TInv T
  ml : MLen w
  below : Below w0.heap.size w0 w
  tb : w0.heap.size ≤ tb
  mb : w0.heap.size ≤ mb
  ml0 : MLen w0
/-- .. and the variable that holds it. -/
structure TV (w : World) (tb mb pb : Nat) : Prop where
  cell : w.cell? ⟨pb, 0, none⟩ = some (.pointer (some ⟨tb, 0, none⟩))
  ne : pb ∉ [tb, mb]
theorem TV.lt {w : World} {tb mb pb : Nat} (h : TV w tb mb pb) : pb < w.heap.size := World.block_lt_of_cell? w _ h.cell
theorem TV.turn {w w' : World} {tb mb pb : Nat} (h : TV w tb mb pb) (ht : Turn [tb, mb] w w') : TV w' tb mb pb := ⟨(ht.cell (p := ⟨pb, 0, none⟩) h.lt h.ne).trans h.cell, h.ne⟩
theorem TV.below {w w' : World} {tb mb pb : Nat} (h : TV w tb mb pb) (hb : Below w.heap.size w w') : TV w' tb mb pb := h.turn (.of_below hb)
theorem TK.turn {w0 w w' : World} {tb mb : Nat} {T T' : TS} (h : TK w0 w tb mb T) (ht : Turn [tb, mb] w w') (hT : TreeP w' tb mb T') (hI : TInv T') : TK w0 w' tb mb T' := by
  refine ⟨hT, hI, ?_, ?_, h.tb, h.mb, h.ml0⟩
  · refine h.ml.turn ht ?_
    have h1 := h.ml0.lt
    have h2 := h.tb
    have h3 := h.mb
    simp
    omega
  · refine ht.below h.below ?_
    intro x hx
    rcases List.mem_cons.1 hx with rfl | hx
    · exact h.tb
    · rw [List.mem_singleton.1 hx]; exact h.mb
theorem TK.bel {w0 w w' : World} {tb mb : Nat} {T : TS} (h : TK w0 w tb mb T) (hb : Below w.heap.size w w') : TK w0 w' tb mb T :=
  h.turn (.of_below hb) (h.tree.below hb) h.inv
theorem TInv.nil : TInv ⟨[], 1⟩ := TInv.new
theorem k_new (w : World) (hm : MLen w) : Calls Tryz.prog 8 #[] w fun e w' => ∃ tb mb, e = .returned (.pointer (some ⟨tb, 0, none⟩)) ∧ TK w w' tb mb ⟨[], 1⟩ := by
  refine (tree_new w).mono ?_
  rintro e w' ⟨tb, mb, rfl, h1, h2, h3, h4⟩
  exact ⟨tb, mb, rfl, h1, TInv.nil, hm.below h4, h4, h2, h3, hm⟩
theorem k_make (s : ByteArray) (dir : Bool) {w0 w : World} {tb mb : Nat} {T T' : TS} {n c : Int} (h : TK w0 w tb mb T) (hs : s.size ≤ 100000) (hnx : T.nx < 9223372036854775807) (h1 : (makeS T s dir).1 = T') (h2 : (makeS T s dir).2 = (n, c)) :
    Calls Tryz.prog 13 #[.pointer (some ⟨tb, 0, none⟩), .string s, .bool dir] w fun e w' => e = .returned (.tuple #[.int .i64 n, .int .i64 c]) ∧ TK w0 w' tb mb T' ∧ Turn [tb, mb] w w' := by
  refine (tree_make s dir w (by unfold maxLen; omega) h.tree h.inv.rises.apart h.ml (by have := h.inv.few; omega) ⟨by have := h.inv.nx1; omega, hnx⟩).mono ?_
  rintro e w' ⟨rfl, hT, ht⟩
  rw [h2]
  rw [h1] at hT
  have hI := h.inv.make s dir
  rw [h1] at hI
  exact ⟨rfl, h.turn ht hT hI, ht⟩
theorem k_ren (src dst : ByteArray) {w0 w : World} {tb mb : Nat} {T T' : TS} {n c : Int} (h : TK w0 w tb mb T) (hs : src.size ≤ 100000) (hd : dst.size ≤ 100000) (h1 : (renS T src dst).1 = T') (h2 : (renS T src dst).2 = (n, c)) :
    Calls Tryz.prog 10 #[.pointer (some ⟨tb, 0, none⟩), .string src, .string dst] w fun e w' => e = .returned (.tuple #[.int .i64 n, .int .i64 c]) ∧ TK w0 w' tb mb T' ∧ Turn [tb, mb] w w' := by
  refine (tree_rename src dst w hs hd h.tree h.inv h.ml).mono ?_
  rintro e w' ⟨rfl, hT, ht⟩
  rw [h2]
  rw [h1] at hT
  have hI := h.inv.ren src dst
  rw [h1] at hI
  exact ⟨rfl, h.turn ht hT hI, ht⟩
theorem k_drop (s : ByteArray) (dir : Bool) {w0 w : World} {tb mb : Nat} {T T' : TS} {n c : Int} (h : TK w0 w tb mb T) (hs : s.size ≤ 100000) (h1 : (dropS T s dir).1 = T') (h2 : (dropS T s dir).2 = (n, c)) :
    Calls Tryz.prog 26 #[.pointer (some ⟨tb, 0, none⟩), .string s, .bool dir] w fun e w' => e = .returned (.tuple #[.int .i64 n, .int .i64 c]) ∧ TK w0 w' tb mb T' ∧ Turn [tb, mb] w w' := by
  refine (tree_drop s dir w hs h.tree h.inv h.ml).mono ?_
  rintro e w' ⟨rfl, hT, ht⟩
  rw [h2]
  rw [h1] at hT
  have hI := h.inv.drop s dir
  rw [h1] at hI
  exact ⟨rfl, h.turn ht hT hI, ht⟩
theorem k_look (s : ByteArray) {w0 w : World} {tb mb : Nat} {T : TS} {i : Int} {d : Bool} {c : Int} (h : TK w0 w tb mb T) (hs : s.size ≤ 100000) (h1 : lookS (fnd · T.L) s = (i, d, c)) :
    Calls Tryz.prog 14 #[.pointer (some ⟨tb, 0, none⟩), .string s] w fun e w' => e = .returned (.tuple #[.int .i64 i, .bool d, .int .i64 c]) ∧ TK w0 w' tb mb T ∧ Below w.heap.size w w' := by
  refine (tree_look s w (by unfold maxLen; omega) h.tree h.inv.rises.apart h.ml h1).mono ?_
  rintro e w' ⟨rfl, hb⟩
  exact ⟨rfl, h.bel hb, hb⟩
theorem k_list (s : ByteArray) {w0 w : World} {tb mb : Nat} {T : TS} (h : TK w0 w tb mb T) (hs : s.size ≤ 100000) (h1 : canListS T.L s = 0) {N : List ByteArray} (h2 : listS T.L s = N) :
    Calls Tryz.prog 17 #[.pointer (some ⟨tb, 0, none⟩), .string s] w fun e w' => ∃ a c, e = .returned (.tuple #[.slice a N.length c, .int .i64 0]) ∧ N.length ≤ c ∧ SlS w' a N ∧ TK w0 w' tb mb T ∧ Below w.heap.size w w' := by
  refine (tree_list_ok s w hs h.tree h.inv h.ml h1).mono ?_
  rintro e w' ⟨a, c, rfl, hc, hS, hb⟩
  rw [h2] at hS hc ⊢
  exact ⟨a, c, rfl, hc, hS, h.bel hb, hb⟩
theorem k_list_no (s : ByteArray) {w0 w : World} {tb mb : Nat} {T : TS} (h : TK w0 w tb mb T) (hs : s.size ≤ 100000) {c : Int} (h1 : canListS T.L s = c) (h0 : c ≠ 0) :
    Calls Tryz.prog 17 #[.pointer (some ⟨tb, 0, none⟩), .string s] w fun e w' => e = .returned (.tuple #[.slice none 0 0, .int .i64 c]) ∧ TK w0 w' tb mb T ∧ Below w.heap.size w w' := by
  refine (tree_list_no s w hs h.tree h.inv h.ml h1 h0).mono ?_
  rintro e w' ⟨rfl, hb⟩
  exact ⟨rfl, h.bel hb, hb⟩

/-! ### awake -/
def aw1 : TS := (makeS ⟨[], 1⟩ ⟨#[47, 97]⟩ false).1
def aw2 : TS := (renS aw1 ⟨#[47, 97]⟩ ⟨#[47, 98]⟩).1
theorem aw1v : (makeS ⟨[], 1⟩ ⟨#[47, 97]⟩ false).2 = (1, 0) := by decide +kernel
theorem aw2v : (renS aw1 ⟨#[47, 97]⟩ ⟨#[47, 98]⟩).2 = (-1, 0) := by decide +kernel
theorem aw2l : lookS (fnd · aw2.L) ⟨#[47, 98]⟩ = (1, false, 0) := by decide +kernel
theorem aw2c : canListS aw2.L ⟨#[47]⟩ = 0 := by decide +kernel
theorem aw2n : listS aw2.L ⟨#[47]⟩ = [⟨#[98]⟩] := by decide +kernel
theorem aw2x : aw2.nx = 2 := by decide +kernel
set_option maxRecDepth 100000 in
set_option maxHeartbeats 4000000 in
theorem awake13 (w : World) (hm : MLen w) : Calls Tryz.prog 6 #[] w fun e w' => e = .returned (.bool true) ∧ Below w.heap.size w w' := by
  have hnew := k_new w hm
  clear hm
  go_enter Tryz.func6, Tryz.ntmps6
  go_wp2_with fail
  refine hnew.mono ?_
  rintro e w1 ⟨tb, mb, rfl, hk⟩
  have HK1 := Lib.hid hk
  clear hk
  go_wp2_with fail
  refine (k_make ⟨#[47, 97]⟩ false HK1.out (by decide) (by decide) rfl aw1v).mono ?_
  rintro e w2 ⟨rfl, hk, _⟩
  have HK2 := Lib.hid (show TK w w2 tb mb aw1 from hk)
  clear hk
  go_wp2_with fail
  refine (k_ren ⟨#[47, 97]⟩ ⟨#[47, 98]⟩ HK2.out (by decide) (by decide) rfl aw2v).mono ?_
  rintro e w3 ⟨rfl, hk, _⟩
  have HK3 := Lib.hid (show TK w w3 tb mb aw2 from hk)
  clear hk
  go_wp2_with fail
  refine (k_look ⟨#[47, 98]⟩ HK3.out (by decide) aw2l).mono ?_
  rintro e w4 ⟨rfl, hk, _⟩
  have HK4 := Lib.hid hk
  clear hk
  go_wp2_with fail
  refine (k_list ⟨#[47]⟩ HK4.out (by decide) aw2c aw2n).mono ?_
  rintro e w5 ⟨a, c, rfl, hc, hS, hk, _⟩
  have HK5 := Lib.hid hk
  obtain ⟨b, o, rfl, hc0, hb0⟩ := hS.at_ (k := 0) (by decide)
  have hc0 : w5.cell? ⟨b, o, none⟩ = some (.string ⟨#[98]⟩) := hc0
  clear hk hS
  have hnx := tree_next w5 HK5.out.tree
  rw [aw2x] at hnx
  go_wp2_with (go_at_call 22; refine hnx.mono ?_; rintro e w6 ⟨rfl, rfl⟩)
  go_ret
  exact ⟨rfl, HK5.out.below⟩
end Go.Proofs.YtahdmkmefeocmaaGreatDoor
