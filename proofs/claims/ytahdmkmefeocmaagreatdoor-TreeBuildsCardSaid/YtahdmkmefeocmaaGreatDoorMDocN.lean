/- law13's Same: both trees are one. -/
import Derived.Test.YtahdmkmefeocmaaGreatDoorMDocL
import Derived.Test.YtahdmkmefeocmaaGreatDoorMTreeN
import Derived.Test.YtahdmkmefeocmaaGreatDoorMDeed
namespace Go.Proofs.YtahdmkmefeocmaaGreatDoor
open Go.RowKit Go.Lib
open Go.ChangeMaps (setBlock)

theorem doc_rename (src dst : ByteArray) (w : World) (hs : src.size ≤ 100000) (hd : dst.size ≤ 100000) {td : Nat} {T : TS} (hT : DocP w td T) (hI : TInv T) :
    Calls Tryz.prog 25 #[.pointer (some ⟨td, 0, none⟩), .string src, .string dst] w fun e w' => e = .returned (.tuple #[.int .i64 (renS T src dst).2.1, .int .i64 (renS T src dst).2.2]) ∧ DocP w' td (renS T src dst).1 ∧ Turn [td] w w' := by
  cases hX : psplit src with
  | none => exact doc_ren_bad src dst w hs hd hT (.inl hX)
  | some X =>
    cases hY : psplit dst with
    | none => exact doc_ren_bad src dst w hs hd hT (.inr hY)
    | some Y =>
      obtain ⟨i, d, g, hl⟩ : ∃ i d g, lookS (fnd · T.L) src = (i, d, g) := ⟨_, _, _, rfl⟩
      obtain ⟨a, ha⟩ : ∃ a, aheadS (fnd · T.L) Y = a := ⟨_, rfl⟩
      by_cases hno : g ≠ 0 ∨ X = [] ∨ punder dst src = true ∨ a ≠ 0 ∨ src = dst ∨ (Y.isEmpty || thereS T.L dst d) = true
      · exact doc_ren_no src dst w hs hd hT hI hX hY hl ha hno
      · rw [not_or, not_or, not_or, not_or, not_or, Decidable.not_not, Decidable.not_not] at hno
        obtain ⟨h1, h2, h3, h4, h5, h6⟩ := hno
        subst h1
        subst h4
        obtain ⟨P, hP, hor⟩ := lookS_ok hl
        rw [hX] at hP
        cases hP
        rcases hor with ⟨h, _⟩ | ⟨_, n0, hf, hi, hdd⟩
        · exact absurd h h2
        · subst hi
          subst hdd
          exact doc_ren_loop src dst w hs hd hT hI hX hY hf hl h2 (by simpa using h3) ha h5 (by simpa using h6)

/-- What a deed makes of a tree, and what it answers. -/
def doS (T : TS) (d : Dd) : TS × Int × Int := if d.act ≤ 4 then makeS T d.p d.dir else if d.act ≤ 7 then renS T d.p d.q else dropS T d.p d.dir
theorem TInv.deed {T : TS} (h : TInv T) (d : Dd) : TInv (doS T d).1 := by
  unfold doS
  split
  · exact h.make _ _
  · split
    · exact h.ren _ _
    · exact h.drop _ _
theorem ren_nx (T : TS) (a b : ByteArray) : (renS T a b).1.nx = T.nx := by
  unfold renS
  split
  · split <;> rfl
  · rfl
theorem drop_nx (T : TS) (a : ByteArray) (dir : Bool) : (dropS T a dir).1.nx = T.nx := by
  unfold dropS
  split <;> rfl
theorem deed_nx (T : TS) (d : Dd) : (doS T d).1.nx ≤ T.nx + 1 := by
  unfold doS
  split
  · exact (make_nx T _ _).2
  · split
    · rw [ren_nx]; omega
    · rw [drop_nx]; omega
end Go.Proofs.YtahdmkmefeocmaaGreatDoor
namespace Go.Proofs.YtahdmkmefeocmaaGreatDoor
open Go.RowKit Go.Lib
open Go.ChangeMaps (setBlock)

theorem b4_cells {w : World} {B : Nat} {a b c d : Value} {t : TypeId} (h : w.heap[B]? = some (.cells #[a, b, c, d] t (0, 0))) : w.cell? ⟨B, 0, none⟩ = some a ∧ w.cell? ⟨B, 1, none⟩ = some b ∧ w.cell? ⟨B, 2, none⟩ = some c ∧ w.cell? ⟨B, 3, none⟩ = some d := by
  unfold World.cell?
  rw [h]
  exact ⟨rfl, rfl, rfl, rfl⟩
/-- One tree, twice: the program's and the document's. -/
structure BP (w : World) (tb mb td : Nat) (T : TS) : Prop where
  t : TreeP w tb mb T
  d : DocP w td T
  i : TInv T
  m : MLen w
  l1 : tb < td
  l2 : mb < td
  g1 : 0 < tb
  g2 : 0 < mb
theorem BP.below {w w' : World} {tb mb td : Nat} {T : TS} (h : BP w tb mb td T) (hb : Below w.heap.size w w') : BP w' tb mb td T :=
  ⟨h.t.below hb, h.d.below hb, h.i, h.m.below hb, h.l1, h.l2, h.g1, h.g2⟩
/-- A call on the program's tree, then one on the document's. -/
theorem BP.step {w w1 w2 : World} {tb mb td : Nat} {T T' : TS} (h : BP w tb mb td T) (t1 : TreeP w1 tb mb T') (u1 : Turn [tb, mb] w w1) (d2 : DocP w2 td T') (u2 : Turn [td] w1 w2) (hi : TInv T') : BP w2 tb mb td T' := by
  have hl := h.t.lt
  have h1 := h.l1
  have h2 := h.l2
  have h3 := h.g1
  have h4 := h.g2
  refine ⟨t1.turn u2 (by simp; omega) (by simp; omega), d2, hi, ?_, h.l1, h.l2, h.g1, h.g2⟩
  exact (h.m.turn u1 (by simp; omega)).turn u2 (by simp; omega)
theorem BP.doc {w w1 : World} {tb mb td : Nat} {T : TS} (h : BP w tb mb td T) (u1 : Turn [tb, mb] w w1) : DocP w1 td T := by
  have h1 := h.l1
  have h2 := h.l2
  exact h.d.turn u1 (by simp; omega) (by simp; omega)
set_option maxRecDepth 100000 in
set_option maxHeartbeats 8000000 in
theorem law13_do (d : Dd) (w : World) {tb mb td : Nat} {T : TS} (hB : BP w tb mb td T) (hp : d.p.size ≤ 300) (hq : d.q.size ≤ 300) (hnx : T.nx ≤ 1000000) :
    Calls Tryz.prog 9 #[.pointer (some ⟨tb, 0, none⟩), .pointer (some ⟨td, 0, none⟩), .agg #[.int .i64 d.act, .string d.p, .string d.q, .bool d.dir]] w fun e w' => e = .returned (.bool true) ∧ BP w' tb mb td (doS T d).1 ∧ Turn [tb, mb, td] w w' := by
  have HB := Lib.hid hB
  obtain ⟨hl1, hl2, _⟩ := hB.t.lt
  have hl3 := hB.d.lt
  have hnx1 := hB.i.nx1
  have hfew := hB.i.few
  have hI' := hB.i.deed d
  obtain ⟨act, p, q, dir⟩ := d
  dsimp only at hp hq ⊢
  have hbx := heap_alloc_new w (.cells #[.int .i64 act, .string p, .string q, .bool dir] 33)
  obtain ⟨e0, e1, e2, e3⟩ := b4_cells hbx
  have HBx := Lib.hid hbx
  have HBa := Lib.hid (hB.below ((Below.refl _ _).alloc (Nat.le_refl _) (.cells #[.int .i64 act, .string p, .string q, .bool dir] 33)))
  have HTa : Hid (∀ bs, Turn bs w (w.alloc (.cells #[.int .i64 act, .string p, .string q, .bool dir] 33))) := fun bs => .of_below ((Below.refl _ _).alloc (Nat.le_refl _) _)
  have hsz : (w.alloc (.cells #[.int .i64 act, .string p, .string q, .bool dir] 33)).heap.size = w.heap.size + 1 := by simp
  clear hbx hB
  obtain ⟨W0, hW0⟩ : ∃ W0, w.alloc (.cells #[.int .i64 act, .string p, .string q, .bool dir] 33) = W0 := ⟨_, rfl⟩
  rw [hW0] at e0 e1 e2 e3 HBx HBa HTa hsz
  by_cases h4 : act ≤ 4
  · skip
    have hdo : doS T ⟨act, p, q, dir⟩ = makeS T p dir := by unfold doS; rw [if_pos h4]
    rw [hdo] at hI' ⊢
    have HI' := Lib.hid hI'
    have HC1 := Lib.hid (tree_make p dir W0 (by unfold maxLen; omega) HBa.out.t HBa.out.i.rises.apart HBa.out.m (by omega) (by omega))
    have HC2 : Hid (∀ W, DocP W td T → Calls Tryz.prog 24 #[.pointer (some ⟨td, 0, none⟩), .string p, .bool dir] W fun e w' => e = .returned (.tuple #[.int .i64 (makeS T p dir).2.1, .int .i64 (makeS T p dir).2.2]) ∧ DocP w' td (makeS T p dir).1 ∧ Turn [td] W w') := fun W h => doc_make p dir W (by omega) h HBa.out.i (by omega)
    obtain ⟨R, hR⟩ : ∃ R, makeS T p dir = R := ⟨_, rfl⟩
    rw [hR] at HC1 HC2 HI' ⊢
    obtain ⟨T', x, y⟩ := R
    dsimp only at *
    clear hdo hI' hR
    go_enter Tryz.func9, Tryz.ntmps9
    go_upto_region 1 with (fail)
    skip
    clear hW0
    go_wp2_with fail
    with_reducible refine Calls.mono HC1.out ?_
    rintro e w1 ⟨rfl, hT1, hU1⟩
    have hs1 := hU1.size
    have q1 : w1.cell? ⟨w.heap.size, 1, none⟩ = some (.string p) := (hU1.cell (p := ⟨w.heap.size, 1, none⟩) (by show w.heap.size < _; omega) (by simp; omega)).trans e1
    have q2 : w1.cell? ⟨w.heap.size, 2, none⟩ = some (.string q) := (hU1.cell (p := ⟨w.heap.size, 2, none⟩) (by show w.heap.size < _; omega) (by simp; omega)).trans e2
    have q3 : w1.cell? ⟨w.heap.size, 3, none⟩ = some (.bool dir) := (hU1.cell (p := ⟨w.heap.size, 3, none⟩) (by show w.heap.size < _; omega) (by simp; omega)).trans e3
    have q0 : w1.cell? ⟨w.heap.size, 0, none⟩ = some (.int .i64 act) := (hU1.cell (p := ⟨w.heap.size, 0, none⟩) (by show w.heap.size < _; omega) (by simp; omega)).trans e0
    have HD1 := Lib.hid (HBa.out.doc hU1)
    have HT1 := Lib.hid hT1
    have HU1 := Lib.hid hU1
    clear hT1 hU1 e0 e1 e2 e3
    go_wp2_with fail
    with_reducible refine Calls.mono (HC2.out _ HD1.out) ?_
    rintro e w2 ⟨rfl, hD2, hU2⟩
    have HF := Lib.hid (HBa.out.step HT1.out HU1.out hD2 hU2 HI'.out)
    have HU := Lib.hid (((HTa.out [tb, mb, td]).trans (HU1.out.mono (fun x hx => by simp at hx ⊢; omega))).trans (hU2.mono (fun x hx => by simp at hx ⊢; omega)))
    clear hD2 hU2
    go_wp2
    go_ret
    exact ⟨rfl, HF.out, HU.out⟩
  · by_cases h7 : act ≤ 7
    · skip
      have hdo : doS T ⟨act, p, q, dir⟩ = renS T p q := by unfold doS; rw [if_neg h4, if_pos h7]
      rw [hdo] at hI' ⊢
      have HI' := Lib.hid hI'
      have HC1 := Lib.hid (tree_rename p q W0 (by omega) (by omega) HBa.out.t HBa.out.i HBa.out.m)
      have HC2 : Hid (∀ W, DocP W td T → Calls Tryz.prog 25 #[.pointer (some ⟨td, 0, none⟩), .string p, .string q] W fun e w' => e = .returned (.tuple #[.int .i64 (renS T p q).2.1, .int .i64 (renS T p q).2.2]) ∧ DocP w' td (renS T p q).1 ∧ Turn [td] W w') := fun W h => doc_rename p q W (by omega) (by omega) h HBa.out.i
      obtain ⟨R, hR⟩ : ∃ R, renS T p q = R := ⟨_, rfl⟩
      rw [hR] at HC1 HC2 HI' ⊢
      obtain ⟨T', x, y⟩ := R
      dsimp only at *
      clear hdo hI' hR
      go_enter Tryz.func9, Tryz.ntmps9
      go_upto_region 1 with (fail)
      skip
      clear hW0
      go_wp2_with fail
      with_reducible refine Calls.mono HC1.out ?_
      rintro e w1 ⟨rfl, hT1, hU1⟩
      have hs1 := hU1.size
      have q1 : w1.cell? ⟨w.heap.size, 1, none⟩ = some (.string p) := (hU1.cell (p := ⟨w.heap.size, 1, none⟩) (by show w.heap.size < _; omega) (by simp; omega)).trans e1
      have q2 : w1.cell? ⟨w.heap.size, 2, none⟩ = some (.string q) := (hU1.cell (p := ⟨w.heap.size, 2, none⟩) (by show w.heap.size < _; omega) (by simp; omega)).trans e2
      have q3 : w1.cell? ⟨w.heap.size, 3, none⟩ = some (.bool dir) := (hU1.cell (p := ⟨w.heap.size, 3, none⟩) (by show w.heap.size < _; omega) (by simp; omega)).trans e3
      have q0 : w1.cell? ⟨w.heap.size, 0, none⟩ = some (.int .i64 act) := (hU1.cell (p := ⟨w.heap.size, 0, none⟩) (by show w.heap.size < _; omega) (by simp; omega)).trans e0
      have HD1 := Lib.hid (HBa.out.doc hU1)
      have HT1 := Lib.hid hT1
      have HU1 := Lib.hid hU1
      clear hT1 hU1 e0 e1 e2 e3
      go_wp2_with fail
      with_reducible refine Calls.mono (HC2.out _ HD1.out) ?_
      rintro e w2 ⟨rfl, hD2, hU2⟩
      have HF := Lib.hid (HBa.out.step HT1.out HU1.out hD2 hU2 HI'.out)
      have HU := Lib.hid (((HTa.out [tb, mb, td]).trans (HU1.out.mono (fun x hx => by simp at hx ⊢; omega))).trans (hU2.mono (fun x hx => by simp at hx ⊢; omega)))
      clear hD2 hU2
      go_wp2
      go_ret
      exact ⟨rfl, HF.out, HU.out⟩
    · skip
      have hdo : doS T ⟨act, p, q, dir⟩ = dropS T p dir := by unfold doS; rw [if_neg h4, if_neg h7]
      rw [hdo] at hI' ⊢
      have HI' := Lib.hid hI'
      have HC1 := Lib.hid (tree_drop p dir W0 (by omega) HBa.out.t HBa.out.i HBa.out.m)
      have HC2 : Hid (∀ W, DocP W td T → Calls Tryz.prog 27 #[.pointer (some ⟨td, 0, none⟩), .string p, .bool dir] W fun e w' => e = .returned (.tuple #[.int .i64 (dropS T p dir).2.1, .int .i64 (dropS T p dir).2.2]) ∧ DocP w' td (dropS T p dir).1 ∧ Turn [td] W w') := fun W h => doc_drop p dir W (by omega) h HBa.out.i
      obtain ⟨R, hR⟩ : ∃ R, dropS T p dir = R := ⟨_, rfl⟩
      rw [hR] at HC1 HC2 HI' ⊢
      obtain ⟨T', x, y⟩ := R
      dsimp only at *
      clear hdo hI' hR
      go_enter Tryz.func9, Tryz.ntmps9
      go_upto_region 1 with (fail)
      skip
      clear hW0
      go_wp2_with fail
      with_reducible refine Calls.mono HC1.out ?_
      rintro e w1 ⟨rfl, hT1, hU1⟩
      have hs1 := hU1.size
      have q1 : w1.cell? ⟨w.heap.size, 1, none⟩ = some (.string p) := (hU1.cell (p := ⟨w.heap.size, 1, none⟩) (by show w.heap.size < _; omega) (by simp; omega)).trans e1
      have q2 : w1.cell? ⟨w.heap.size, 2, none⟩ = some (.string q) := (hU1.cell (p := ⟨w.heap.size, 2, none⟩) (by show w.heap.size < _; omega) (by simp; omega)).trans e2
      have q3 : w1.cell? ⟨w.heap.size, 3, none⟩ = some (.bool dir) := (hU1.cell (p := ⟨w.heap.size, 3, none⟩) (by show w.heap.size < _; omega) (by simp; omega)).trans e3
      have q0 : w1.cell? ⟨w.heap.size, 0, none⟩ = some (.int .i64 act) := (hU1.cell (p := ⟨w.heap.size, 0, none⟩) (by show w.heap.size < _; omega) (by simp; omega)).trans e0
      have HD1 := Lib.hid (HBa.out.doc hU1)
      have HT1 := Lib.hid hT1
      have HU1 := Lib.hid hU1
      clear hT1 hU1 e0 e1 e2 e3
      go_wp2_with fail
      with_reducible refine Calls.mono (HC2.out _ HD1.out) ?_
      rintro e w2 ⟨rfl, hD2, hU2⟩
      have HF := Lib.hid (HBa.out.step HT1.out HU1.out hD2 hU2 HI'.out)
      have HU := Lib.hid (((HTa.out [tb, mb, td]).trans (HU1.out.mono (fun x hx => by simp at hx ⊢; omega))).trans (hU2.mono (fun x hx => by simp at hx ⊢; omega)))
      clear hD2 hU2
      go_wp2
      go_ret
      exact ⟨rfl, HF.out, HU.out⟩
end Go.Proofs.YtahdmkmefeocmaaGreatDoor
namespace Go.Proofs.YtahdmkmefeocmaaGreatDoor
open Go.RowKit Go.Lib
open Go.ChangeMaps (setBlock)

set_option maxRecDepth 100000 in
set_option maxHeartbeats 8000000 in
theorem law13_same (w : World) {tb mb td : Nat} {T : TS} (hB : BP w tb mb td T) :
    Calls Tryz.prog 11 #[.pointer (some ⟨tb, 0, none⟩), .pointer (some ⟨td, 0, none⟩)] w fun e w' => e = .returned (.bool true) ∧ Below w.heap.size w w' := by
  have HB := Lib.hid hB
  have hfew := hB.i.few
  have HNo := Lib.hid (tree_nodes w hB.t hB.i)
  clear hB
  go_enter Tryz.func11, Tryz.ntmps11
  go_wp2_with fail
  refine HNo.out.mono ?_
  rintro e w1 ⟨an, cn, rfl, hcn, hSn, hB1⟩
  have HPa := Lib.hid (tree_paths w1 (HB.out.t.below hB1) HB.out.i)
  have HSn := Lib.hid hSn
  have HB1 := Lib.hid hB1
  clear hSn hB1
  go_wp2_with fail
  with_reducible refine Calls.mono HPa.out ?_
  rintro e w2 ⟨ap, cp, rfl, hcp, hSp, hB2⟩
  have HBP2 := Lib.hid ((HB.out.below HB1.out).below hB2)
  have HSn2 := Lib.hid (HSn.out.below hB2)
  have HSp2 := Lib.hid hSp
  have HB2 := Lib.hid (blw HB1.out hB2)
  clear hSp hB2 HSn HPa HNo HB1
  obtain ⟨a0, c0, ce, hac⟩ := HBP2.out.d.cell0
  obtain ⟨cn1, _⟩ := HBP2.out.d.cell1
  go_upto_region 2 with (fail)
  go_quiet ((first
    | (go_at_call 21; refine Calls.quiet_of_same (v := .int .i64 (T.L.length : Nat)) ((tree_len _ (HBP2.out.t.below (below_drewN (Below.refl _ _) _))).mono fun _ _ h => h))
    | (go_at_call 22; refine Calls.quiet_of_same (v := .int .i64 T.nx) ((tree_next _ (HBP2.out.t.below (below_drewN (Below.refl _ _) _))).mono fun _ _ h => h))))
  have HBd : Hid (Below w2.heap.size w2 (w2.drewN nq)) := Lib.hid (below_drewN (Below.refl _ _) _)
  generalize w2.drewN nq = w3 at *
  go_wp2
  go_loopw [7] (fun i wr => ∃ k : Nat, k ≤ T.L.length ∧ i = .int .i64 (k : Int) ∧ Hid (Below w2.heap.size w2 wr)) (fun i _ => T.L.length - (intOf i).toNat)
  case atStart => exact ⟨0, by omega, rfl, HBd⟩
  case round =>
    obtain ⟨k, hk, rfl, HBr⟩ := hrel
    by_cases hlt : k < T.L.length
    · have hBPr := HBP2.out.below HBr.out
      obtain ⟨a0, c0, t1, t2, t3⟩ := hBPr.d.ex
      have ce : wr.cell? ⟨td, 0, none⟩ = some (.slice a0 T.L.length c0) := by unfold World.cell?; rw [t1]; rfl
      obtain ⟨b, o, rfl, p0, p1, p2, hbl⟩ := t3.at_ hlt
      have hki : (k : Int) < (T.L.length : Int) := by omega
      have hkc : (k : Int) < (c0 : Int) := by omega
      have hkn : (k : Int) < (cn : Int) := by omega
      have hkp : (k : Int) < (cp : Int) := by omega
      have hmem : T.L.getD k default ∈ T.L := by simp [List.getD, hlt]
      have hlk := hBPr.i.look hmem
      have hgd : (T.L.map (·.path)).getD k default = (T.L.getD k default).path := by simp [List.getD, hlt]
      have hpsz := path_size hBPr.i _ hmem
      obtain ⟨bn, on, rfl, _⟩ := HSn2.out.at_ hlt
      obtain ⟨bp, op, rfl, _⟩ := HSp2.out.at_ (k := k) (by simpa using hlt)
      have HRn : Hid (∀ W, Below w2.heap.size w2 W → W.cell? ⟨bn, on + k * 3, none⟩ = some (.string (T.L.getD k default).path) ∧ W.cell? ⟨bn, on + k * 3 + 1, none⟩ = some (.int .i64 (T.L.getD k default).id) ∧ W.cell? ⟨bn, on + k * 3 + 2, none⟩ = some (.bool (T.L.getD k default).dir) ∧ W.cell? ⟨bp, op + k, none⟩ = some (.string (T.L.getD k default).path)) := fun W hW => by
        obtain ⟨b', o', e', q0, q1, q2, _⟩ := (HSn2.out.below hW).at_ hlt
        cases e'
        obtain ⟨b', o', e', q3, _⟩ := (HSp2.out.below hW).at_ (k := k) (by simpa using hlt)
        cases e'
        rw [hgd] at q3
        exact ⟨q0, q1, q2, q3⟩
      have HLk : Hid (∀ W, Below w2.heap.size w2 W → Calls Tryz.prog 14 #[.pointer (some ⟨tb, 0, none⟩), .string (T.L.getD k default).path] W fun e w' => e = .returned (.tuple #[.int .i64 (T.L.getD k default).id, .bool (T.L.getD k default).dir, .int .i64 0]) ∧ Below W.heap.size W w') := fun W hW => tree_look _ W (by unfold maxLen; omega) (HBP2.out.below hW).t HBP2.out.i.rises.apart (HBP2.out.below hW).m hlk
      generalize T.L.getD k default = n at *
      obtain ⟨np, ni, nd⟩ := n
      dsimp only at p0 p1 p2 HRn HLk
      clear hmem hlk hgd t1 t3 hBPr hpsz
      go_upto_region 8 with (fail)
      have HB0 : Hid (Below w2.heap.size w2 (wr.alloc (.cells #[.string np, .int .i64 ni, .bool nd] 53))) := Lib.hid (HBr.out.alloc HBr.out.size _)
      have hbx := heap_alloc_new wr (.cells #[.string np, .int .i64 ni, .bool nd] 53)
      have hlw : wr.heap.size < (wr.alloc (.cells #[.string np, .int .i64 ni, .bool nd] 53)).heap.size := by simp
      generalize hW : wr.alloc (.cells #[.string np, .int .i64 ni, .bool nd] 53) = W at *
      clear hW p0 p1 p2 ce
      obtain ⟨q0, q1, q2, q3⟩ := HRn.out W HB0.out
      obtain ⟨n0, n1, n2, _⟩ := b3_cells hbx
      have HBx := Lib.hid hbx
      clear hbx
      go_quiet (fail)
      have HB4 : Hid (Below w2.heap.size w2 (W.drewN nq)) := Lib.hid (below_drewN HB0.out _)
      have HBx4 : Hid ((W.drewN nq).heap[wr.heap.size]? = some (.cells #[.string np, .int .i64 ni, .bool nd] 53 (0, 0))) := HBx
      have hlw4 : wr.heap.size < (W.drewN nq).heap.size := hlw
      clear q0 q1 q2 q3 n0 n1 n2 hlw HBx HB0
      generalize W.drewN nq = W4 at *
      obtain ⟨n0, n1, n2, _⟩ := b3_cells HBx4.out
      go_wp2_with fail
      with_reducible refine Calls.mono (HLk.out _ HB4.out) ?_
      rintro e w5 ⟨rfl, hB5⟩
      have HB5 := Lib.hid (HB4.out.trans (hB5.mono HB4.out.size))
      have hbx5 := (hB5.block wr.heap.size hlw4).trans HBx4.out
      clear n0 n1 n2
      obtain ⟨n0, n1, n2, _⟩ := b3_cells hbx5
      clear hbx5 hB5
      go_wp2
      exact ⟨⟨k + 1, by omega, by go_num, HB5⟩, by simp [intOf]; omega⟩
    · obtain rfl : k = T.L.length := by omega
      have hlt' : decide ((T.L.length : Int) < (T.L.length : Int)) = false := by simp
      clear hlt
      go_wp2
      go_ret
      exact ⟨rfl, blw HB2.out HBr.out⟩
end Go.Proofs.YtahdmkmefeocmaaGreatDoor
