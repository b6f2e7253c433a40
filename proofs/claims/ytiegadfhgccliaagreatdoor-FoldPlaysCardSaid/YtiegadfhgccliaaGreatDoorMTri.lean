/- Walk of FoldPlays. Printed by gen_plays15.py. -/
import Derived.Test.YtiegadfhgccliaaGreatDoorMDocAp
import Derived.Test.YtiegadfhgccliaaGreatDoorMSame15
import Derived.Test.YtiegadfhgccliaaGreatDoorMFoldD
import Derived.Deep.RegionLaw
import Derived.BigRegion
set_option linter.unusedVariables false
namespace Go.Proofs.YtiegadfhgccliaaGreatDoor
open Go.RowKit Go.Lib
open Go.ChangeMaps (setBlock)

theorem FK.turnY {bs : List Nat} {w0 w w' : World} {sb tb mb lb : Nat} {S : FS} {N : Nat} (h : FK w0 w sb tb mb lb S N) (ht : Turn bs w w') (h1 : ∀ b ∈ bs, b ≠ sb ∧ b ≠ tb ∧ b ≠ mb ∧ b ≠ lb ∧ w0.heap.size ≤ b) (h2 : ∀ b ∈ bs, NoPt w b) : FK w0 w' sb tb mb lb S N := by
  refine ⟨h.p.turn ht (fun e => (h1 _ e).1 rfl) (fun e => (h1 _ e).2.1 rfl) (fun e => (h1 _ e).2.2.1 rfl) (fun e => (h1 _ e).2.2.2.1 rfl) h2, h.i, h.m.turn ht fun e => ?_, h.few, h.m0, ht.below h.below fun b hb => (h1 b hb).2.2.2.2, h.h1, h.h2, h.h3, h.h4⟩
  have := (h1 _ e).2.2.2.2
  have := h.m0.lt
  omega
/-- The document's blocks are none of the program's. -/
theorem DocS.apart {w : World} {base sd sb tb mb lb : Nat} {fa : Option Addr} {S S2 : FS} (h : DocS w base sd fa S) (hP : FoldP w sb tb mb lb S2) : ∀ x ∈ sd :: abl fa, x ≠ sb ∧ x ≠ tb ∧ x ≠ mb ∧ x ≠ lb := by
  obtain ⟨F, c, _, h2, h3, _⟩ := h.ex
  obtain ⟨a, c2, h6, _⟩ := h2.ex
  obtain ⟨L, _, hA⟩ := hP.t
  obtain ⟨es, clock, hb, _⟩ := hA.map
  obtain ⟨G, _, ⟨es2, clock2, hb2, _⟩, _⟩ := hP.f
  have hc := hP.c
  have ht := hA.cells
  have key : ∀ (x : Nat) (cur : Array Value) (t : TypeId) (f : Nat × Nat), w.heap[x]? = some (.cells cur t f) → t ≠ 80 → t ≠ 99 → x ≠ sb ∧ x ≠ tb ∧ x ≠ mb ∧ x ≠ lb := fun x cur t f hx n1 n2 => by
    refine ⟨?_, ?_, ?_, ?_⟩
    · rintro rfl; rw [hc] at hx; injection hx with hx; injection hx with _ e _; exact n1 e.symm
    · rintro rfl; rw [ht] at hx; injection hx with hx; injection hx with _ e _; exact n2 e.symm
    · rintro rfl; rw [hb] at hx; cases hx
    · rintro rfl; rw [hb2] at hx; cases hx
  intro x hx
  rcases List.mem_cons.1 hx with rfl | hx
  · exact key _ _ _ _ h6 (show 66 ≠ 80 by decide) (show 66 ≠ 99 by decide)
  · obtain ⟨_, cur, h5⟩ := own_type h3 x hx
    exact key _ _ _ _ h5 (by decide) (by decide)
theorem DocS.fold {w w' : World} {base sd sb tb mb lb : Nat} {fa : Option Addr} {S S2 : FS} (h : DocS w base sd fa S) (hP : FoldP w sb tb mb lb S2) (ht : Turn [tb, mb, lb] w w') : DocS w' base sd fa S := by
  have ha := h.apart hP
  refine h.turn (.of_turn ht fun b hb o s => hP.nostr b hb o s) ?_ (fun g hg => ?_) hP.nopt3
  · have := ha sd (by simp); simp; omega
  · have := ha g (by simp [hg]); simp; omega
theorem DocS.blocks {w : World} {base sd : Nat} {fa : Option Addr} {S : FS} (h : DocS w base sd fa S) : ∀ x ∈ sd :: abl fa, base ≤ x := by
  intro x hx
  rcases List.mem_cons.1 hx with rfl | hx
  · exact h.lb
  · exact (h.row x hx).1
structure Tri (w0 w : World) (sb tb mb lb s2 t2 m2 l2 sd db : Nat) (cs : Array Value) (N : Nat) (fa : Option Addr) (S1 S2 S3 : FS) : Prop where
  s : FK w0 w sb tb mb lb S1 N
  m : DocS w w0.heap.size sd fa S2
  c : FK w0 w s2 t2 m2 l2 S3 N
  d : w.heap[db]? = some (.cells cs 34 (0, 0))
  ap : ∀ x ∈ [sb, tb, mb, lb], ∀ y ∈ [s2, t2, m2, l2], x ≠ y
section
variable {w0 w w' : World} {sb tb mb lb s2 t2 m2 l2 sd db : Nat} {cs : Array Value} {N : Nat} {fa fa' : Option Addr} {S1 S2 S3 S' : FS}
theorem deed_apart {sb tb mb lb : Nat} {S : FS} (h : FoldP w sb tb mb lb S) (hd : w.heap[db]? = some (.cells cs 34 (0, 0))) : db ∉ [tb, mb, lb] := by
  obtain ⟨L, _, hA⟩ := h.t
  obtain ⟨es, clock, hb, _⟩ := hA.map
  obtain ⟨G, _, ⟨es2, clock2, hb2, _⟩, _⟩ := h.f
  have ht := hA.cells
  simp only [List.mem_cons, List.not_mem_nil, or_false, not_or]
  refine ⟨?_, ?_, ?_⟩
  · rintro rfl; rw [ht] at hd; injection hd with hd; injection hd with _ e _; exact absurd e (by decide)
  · rintro rfl; rw [hb] at hd; cases hd
  · rintro rfl; rw [hb2] at hd; cases hd
theorem Tri.bel (h : Tri w0 w sb tb mb lb s2 t2 m2 l2 sd db cs N fa S1 S2 S3) (hb : Below w.heap.size w w') : Tri w0 w' sb tb mb lb s2 t2 m2 l2 sd db cs N fa S1 S2 S3 :=
  ⟨h.s.bel hb, h.m.below hb, h.c.bel hb, (hb.block db (Array.getElem?_eq_some_iff.1 h.d).1).trans h.d, h.ap⟩
/-- The state's own Apply. -/
theorem Tri.byS (h : Tri w0 w sb tb mb lb s2 t2 m2 l2 sd db cs N fa S1 S2 S3) (hk : FK w0 w' sb tb mb lb S' N) (ht : Turn [tb, mb, lb] w w') : Tri w0 w' sb tb mb lb s2 t2 m2 l2 sd db cs N fa S' S2 S3 := by
  refine ⟨hk, h.m.fold h.s.p ht, h.c.turnY ht (fun b hb => ?_) h.s.p.nopt3, (ht.block db (Array.getElem?_eq_some_iff.1 h.d).1 (deed_apart h.s.p h.d)).trans h.d, h.ap⟩
  have a := h.ap b (by simp at hb ⊢; omega)
  have h2 := h.s.h2
  have h3 := h.s.h3
  have h4 := h.s.h4
  refine ⟨a s2 (by simp), a t2 (by simp), a m2 (by simp), a l2 (by simp), ?_⟩
  simp at hb; omega
/-- The copy's. -/
theorem Tri.byC (h : Tri w0 w sb tb mb lb s2 t2 m2 l2 sd db cs N fa S1 S2 S3) (hk : FK w0 w' s2 t2 m2 l2 S' N) (ht : Turn [t2, m2, l2] w w') : Tri w0 w' sb tb mb lb s2 t2 m2 l2 sd db cs N fa S1 S2 S' := by
  refine ⟨h.s.turnY ht (fun b hb => ?_) h.c.p.nopt3, h.m.fold h.c.p ht, hk, (ht.block db (Array.getElem?_eq_some_iff.1 h.d).1 (deed_apart h.c.p h.d)).trans h.d, h.ap⟩
  have a := fun x hx => (h.ap x hx b (by simp at hb ⊢; omega)).symm
  have h2 := h.c.h2
  have h3 := h.c.h3
  have h4 := h.c.h4
  refine ⟨a sb (by simp), a tb (by simp), a mb (by simp), a lb (by simp), ?_⟩
  simp at hb; omega
/-- The document's. -/
theorem Tri.byM (h : Tri w0 w sb tb mb lb s2 t2 m2 l2 sd db cs N fa S1 S2 S3) (hd : DocS w' w0.heap.size sd fa' S') (ht : TurnD (sd :: abl fa) w w') : Tri w0 w' sb tb mb lb s2 t2 m2 l2 sd db cs N fa' S1 S' S3 := by
  have a1 := h.m.apart h.s.p
  have a2 := h.m.apart h.c.p
  have a3 := h.m.blocks
  have a4 := h.m.nopt
  refine ⟨h.s.turnY ht.t (fun b hb => ⟨(a1 b hb).1, (a1 b hb).2.1, (a1 b hb).2.2.1, (a1 b hb).2.2.2, a3 b hb⟩) a4, hd, h.c.turnY ht.t (fun b hb => ⟨(a2 b hb).1, (a2 b hb).2.1, (a2 b hb).2.2.1, (a2 b hb).2.2.2, a3 b hb⟩) a4, (ht.t.block db (Array.getElem?_eq_some_iff.1 h.d).1 fun hm => ?_).trans h.d, h.ap⟩
  obtain ⟨F, c, _, h2, h3, _⟩ := h.m.ex
  obtain ⟨a, c2, h6, _⟩ := h2.ex
  have hdd := h.d
  rcases List.mem_cons.1 hm with rfl | hm
  · rw [hdd] at h6
    injection h6 with h6
    injection h6 with _ e _
    exact absurd e (show 34 ≠ 66 by decide)
  · obtain ⟨_, cur, h5⟩ := own_type h3 _ hm
    rw [hdd] at h5
    injection h5 with h5
    injection h5 with _ e _
    exact absurd e (by decide)
end
/-- The parts of a deed, as the program has them: a row that a call has made. -/
theorem law12_partsO (L : List Bp) (a : Option Addr) (c : Nat) (w : World) (hS : SlPt w a L) (hc : L.length ≤ c) (hl : L.length ≤ 1000000000) :
    Calls Tryz.prog 11 #[.slice a L.length c] w fun e w' => ∃ a2 c2, e = .returned (.slice a2 L.length c2) ∧ L.length ≤ c2 ∧ SlPo w' a2 L ∧ Below w.heap.size w w' := by
  refine (parts_own L a c w hS hc hl).mono ?_
  rintro e w' ⟨v, rfl, hR, hB⟩
  obtain ⟨a2, c2, rfl, hc2, hS2, _⟩ := SlPo.own hR (.inl rfl)
  exact ⟨a2, c2, rfl, hc2, hS2, hB⟩
end Go.Proofs.YtiegadfhgccliaaGreatDoor
set_option linter.unusedVariables false
namespace Go.Proofs.YtiegadfhgccliaaGreatDoor
open Go.RowKit Go.Lib
open Go.ChangeMaps (setBlock)

theorem b7_cells {w : World} {B : Nat} {a b c d e f g : Value} {t : TypeId} (h : w.heap[B]? = some (.cells #[a, b, c, d, e, f, g] t (0, 0))) : w.cell? ⟨B, 0, none⟩ = some a ∧ w.cell? ⟨B, 1, none⟩ = some b ∧ w.cell? ⟨B, 2, none⟩ = some c ∧ w.cell? ⟨B, 3, none⟩ = some d ∧ w.cell? ⟨B, 4, none⟩ = some e ∧ w.cell? ⟨B, 5, none⟩ = some f ∧ w.cell? ⟨B, 6, none⟩ = some g := by
  unfold World.cell?
  rw [h]
  exact ⟨rfl, rfl, rfl, rfl, rfl, rfl, rfl⟩
set_option maxRecDepth 100000 in
set_option maxHeartbeats 16000000 in
theorem foldPlays_walk (s0 : Option Addr) (c0 : Nat) (L : List DeedM) (w : World) (i0 : SlDd w s0 L) (hc : L.length ≤ c0) (hcm : c0 ≤ maxLen) (hm : MLen w) :
    Calls Tryz.prog 5 #[.slice s0 L.length c0] w fun e w' => e = .returned (.bool true) ∧ Below w.heap.size w w' := by
  have HAw := Lib.hid (awake15 w hm)
  have hcm2 : c0 ≤ 9223372036854775807 := by unfold maxLen at hcm; omega
  have HSm : Hid (∀ W, Below w.heap.size w W → Calls Tryz.prog 8 #[.slice s0 L.length c0, .int .i64 100] W fun e w' => e = .returned (.bool (smallD L 100)) ∧ w' = W) := fun W h => law15_small L s0 c0 100 W (i0.below h) hc (by omega) (by decide)
  have HS := Lib.hid i0
  have HM := Lib.hid hm
  have hgl := hm.lt
  cases hsm : smallD L 100
  · rw [hsm] at HSm
    clear i0 hm hsm
    go_enter Tryz.func5, Tryz.ntmps5
    go_wp2_with fail
    refine HAw.out.mono ?_
    rintro e w1 ⟨rfl, hB1⟩
    go_wp2_with fail
    with_reducible refine Calls.mono (HSm.out _ hB1) ?_
    rintro e w1 ⟨rfl, rfl⟩
    go_wp2
    go_ret
    exact ⟨rfl, hB1⟩
  · rw [hsm] at HSm
    obtain ⟨hL100, hsm2⟩ := smallD_spec hsm
    have HSz := Lib.hid hsm2
    clear i0 hm hsm hsm2
    go_enter Tryz.func5, Tryz.ntmps5
    go_wp2_with fail
    refine HAw.out.mono ?_
    rintro e w1 ⟨rfl, hB1⟩
    go_wp2_with fail
    with_reducible refine Calls.mono (HSm.out _ hB1) ?_
    rintro e w1 ⟨rfl, rfl⟩
    have HNw := Lib.hid (kf_new w1 (HM.out.below hB1))
    have HB1 := Lib.hid hB1
    clear hB1 HAw HSm
    go_wp2_with fail
    with_reducible refine Calls.mono HNw.out ?_
    rintro e wN ⟨sb, tb, mb, lb, rfl, hk2⟩
    have HDn := Lib.hid (doc_new wN)
    have hN1 := hk2.below.size
    have HK2 := Lib.hid hk2
    clear hk2 HNw
    go_wp2_with fail
    with_reducible refine Calls.mono HDn.out ?_
    rintro e wD ⟨rfl, hD, hBD, hsD⟩
    have HK3 := Lib.hid (HK2.out.bel hBD)
    have HD3 := Lib.hid (hD.mono hN1)
    clear hD hBD HDn HK2 hsD
    generalize wN.heap.size = sd at *
    go_wp2
    go_loopw [5] (fun i wr => ∃ (k : Nat) (S : FS) (fa : Option Addr), k ≤ L.length ∧ i = .int .i64 (k : Int) ∧ S.t.nx ≤ 1 + (k : Int) ∧ Hid (FK w1 wr sb tb mb lb S (61 * k)) ∧ Hid (DocS wr w1.heap.size sd fa S)) (fun i _ => L.length - (intOf i).toNat)
    case atStart => exact ⟨0, ⟨⟨[], 1⟩, []⟩, none, by omega, rfl, by decide, HK3, HD3⟩
    case round =>
      obtain ⟨k, S, fa, hk, rfl, hnx, HK, HD⟩ := hrel
      by_cases hlt : k < L.length
      · obtain ⟨b, o, rfl, hd0, hbw⟩ := HS.out.at_ hlt
        have hki : (k : Int) < (L.length : Int) := by omega
        have hkc : (k : Int) < (c0 : Int) := by omega
        have hmem : L.getD k default ∈ L := by simp [List.getD, hlt]
        obtain ⟨z1, z2, z3, z4⟩ := HSz.out _ hmem
        have hd := hd0.below (blw HB1.out HK.out.below)
        have hnx2 := (apply_nx S (L.getD k default).e (L.getD k default).l).2
        obtain ⟨S', x, hap⟩ : ∃ S' x, applyS S (L.getD k default).e (L.getD k default).l = (S', x) := ⟨_, _, rfl⟩
        rw [hap] at hnx2
        dsimp only at hnx2
        have hfl := finv_few HK.out.i
        have HNo := Lib.hid (fun hx0 : x ≠ 0 => apply_no hap hx0)
        have HLa : Hid (∀ X, Below w1.heap.size w1 X → SlPt X (L.getD k default).la (L.getD k default).l) := Lib.hid fun X h => hd0.l.below (blw HB1.out h)
        have HCs : Hid (∀ X, FK w1 X sb tb mb lb S (61 * k) → Calls Tryz.prog 19 #[.pointer (some ⟨sb, 0, none⟩), evV (L.getD k default).e (L.getD k default).da (L.getD k default).dc] X fun e w' => e = .returned (.int .i64 (checkS S (L.getD k default).e)) ∧ Below X.heap.size X w') := Lib.hid fun X h => fold_check _ _ _ X (by omega) (by omega) (by omega) h.p h.i.t h.m
        have HCm : Hid (∀ X, DocS X w1.heap.size sd fa S → Calls Tryz.prog 20 #[.pointer (some ⟨sd, 0, none⟩), evV (L.getD k default).e (L.getD k default).da (L.getD k default).dc] X fun e w' => e = .returned (.int .i64 (checkS S (L.getD k default).e)) ∧ Below X.heap.size X w') := Lib.hid fun X h => doc_check _ _ _ X (by omega) (by omega) (by omega) h HK.out.i.t (by omega) (by omega)
        have HAp : Hid (∀ (X : World) (y z u v : Nat) (a2 : Option Addr) (c2 : Nat), FK w1 X y z u v S (61 * k) → SlPt X a2 (L.getD k default).l → (L.getD k default).l.length ≤ c2 → Calls Tryz.prog 10 #[.pointer (some ⟨y, 0, none⟩), evV (L.getD k default).e (L.getD k default).da (L.getD k default).dc, .slice a2 (L.getD k default).l.length c2] X fun e w' => e = .returned (.int .i64 x) ∧ FK w1 w' y z u v S' (61 * (k + 1)) ∧ Turn [z, u, v] X w') := Lib.hid fun X y z u v a2 c2 h hS2 hc2 => (kf_apply (L.getD k default).e (L.getD k default).l (L.getD k default).da a2 (L.getD k default).dc c2 h (by omega) (by omega) (by omega) (by omega) (by omega) hS2 hc2 (by omega) hap).mono fun e w' h => ⟨h.1, h.2.1.mono (by omega), h.2.2⟩
        have HAm : Hid (∀ (X : World) (fb : Option Addr), DocS X w1.heap.size sd fb S → Below w1.heap.size w1 X → Calls Tryz.prog 21 #[.pointer (some ⟨sd, 0, none⟩), evV (L.getD k default).e (L.getD k default).da (L.getD k default).dc, .slice (L.getD k default).la (L.getD k default).l.length (L.getD k default).lc] X (ApplyAns X w1.heap.size sd fb (S', x))) := Lib.hid fun X fb h hb => by
          have := doc_apply (L.getD k default).e (L.getD k default).l (L.getD k default).da (L.getD k default).la (L.getD k default).dc (L.getD k default).lc X (by omega) (by omega) (by omega) h HK.out.i (by omega) (by omega) HK.out.few (by omega) (HLa.out X hb) hd0.lc (by omega)
          rw [hap] at this
          exact this
        have HPt : Hid (∀ X, Below w1.heap.size w1 X → Calls Tryz.prog 11 #[.slice (L.getD k default).la (L.getD k default).l.length (L.getD k default).lc] X fun e w' => ∃ a2 c2, e = .returned (.slice a2 (L.getD k default).l.length c2) ∧ (L.getD k default).l.length ≤ c2 ∧ SlPo w' a2 (L.getD k default).l ∧ Below X.heap.size X w') := Lib.hid fun X h => law12_partsO (L.getD k default).l (L.getD k default).la (L.getD k default).lc X (HLa.out X h) hd0.lc (by omega)
        obtain ⟨q0, q1, q2, q3, q4, q5, q6⟩ := hd.cells
        have hI' : FInv S' := by have := HK.out.i.apply (L.getD k default).e (L.getD k default).l; rw [hap] at this; exact this
        have HI' := Lib.hid hI'
        clear hap hmem hd hd0 z1 z2 z3 z4 hI' HLa
        generalize L.getD k default = d at *
        obtain ⟨⟨op, dp, dq, off, size, data⟩, da, dc, l, la, lc⟩ := d
        dsimp only [evV] at HCs HCm HAp HAm HPt q0 q1 q2 q3 q4 q5 q6
        generalize checkS S ⟨op, dp, dq, off, size, data⟩ = y at *
        generalize data.length = dn at *
        generalize hln : l.length = ln at *
        have hbd := heap_alloc_new wr (.cells #[.int .i64 op, .string dp, .string dq, .int .i64 off, .int .i64 size, .slice da dn dc, .slice la ln lc] 34)
        have hBd : Below wr.heap.size wr (wr.alloc (.cells #[.int .i64 op, .string dp, .string dq, .int .i64 off, .int .i64 size, .slice da dn dc, .slice la ln lc] 34)) := (Below.refl _ _).alloc (Nat.le_refl _) _
        have hsd2 : (wr.alloc (.cells #[.int .i64 op, .string dp, .string dq, .int .i64 off, .int .i64 size, .slice da dn dc, .slice la ln lc] 34)).heap.size = wr.heap.size + 1 := by simp
        go_upto_region 12 with (fail)
        generalize wr.alloc (.cells #[.int .i64 op, .string dp, .string dq, .int .i64 off, .int .i64 size, .slice da dn dc, .slice la ln lc] 34) = V at *
        have HKV := Lib.hid (HK.out.bel hBd)
        have HDV := Lib.hid (HD.out.below hBd)
        have H7 : Hid (∀ X, Below V.heap.size V X → X.cell? ⟨wr.heap.size, 0, none⟩ = some (.int .i64 op) ∧ X.cell? ⟨wr.heap.size, 1, none⟩ = some (.string dp) ∧ X.cell? ⟨wr.heap.size, 2, none⟩ = some (.string dq) ∧ X.cell? ⟨wr.heap.size, 3, none⟩ = some (.int .i64 off) ∧ X.cell? ⟨wr.heap.size, 4, none⟩ = some (.int .i64 size) ∧ X.cell? ⟨wr.heap.size, 5, none⟩ = some (.slice da dn dc) ∧ X.cell? ⟨wr.heap.size, 6, none⟩ = some (.slice la ln lc)) := Lib.hid fun X h => b7_cells ((h.block wr.heap.size (by omega)).trans hbd)
        have HbV := Lib.hid hbd
        clear hbd q0 q1 q2 q3 q4 q5 q6 hln
        obtain ⟨q0, q1, q2, q3, q4, q5, q6⟩ := H7.out V (Below.refl _ _)
        go_region_held3 (fun w' => w'.cell? ⟨wr.heap.size, 0, none⟩ = some (.int .i64 op) ∧ w'.cell? ⟨wr.heap.size, 1, none⟩ = some (.string dp) ∧ w'.cell? ⟨wr.heap.size, 2, none⟩ = some (.string dq) ∧ w'.cell? ⟨wr.heap.size, 3, none⟩ = some (.int .i64 off) ∧ w'.cell? ⟨wr.heap.size, 4, none⟩ = some (.int .i64 size) ∧ w'.cell? ⟨wr.heap.size, 5, none⟩ = some (.slice da dn dc) ∧ w'.cell? ⟨wr.heap.size, 6, none⟩ = some (.slice la ln lc)) (first | go_keep | exact H7.out _ HBq.out | exact ⟨q0, q1, q2, q3, q4, q5, q6⟩) (first | (go_at_call 19; refine (HCs.out _ (HKV.out.bel (by first | exact HBq.out | exact below_drewN' HBq.out 1 | exact Below.refl _ _ | exact below_drewN' (Below.refl _ _) 1))).mono ?_; rintro e wq ⟨rfl, hBq⟩; have HBq : Hid (Below V.heap.size V wq) := Lib.hid (blw (show Below V.heap.size V _ from by first | exact HBq.out | exact below_drewN' HBq.out 1 | exact Below.refl _ _ | exact below_drewN' (Below.refl _ _) 1) hBq); clear hBq) | (go_at_call 20; refine (HCm.out _ (HDV.out.below (by first | exact HBq.out | exact below_drewN' HBq.out 1 | exact Below.refl _ _ | exact below_drewN' (Below.refl _ _) 1))).mono ?_; rintro e wq ⟨rfl, hBq⟩; have HBq : Hid (Below V.heap.size V wq) := Lib.hid (blw (show Below V.heap.size V _ from by first | exact HBq.out | exact below_drewN' HBq.out 1 | exact Below.refl _ _ | exact below_drewN' (Below.refl _ _) 1) hBq); clear hBq))
        all_goals
          have HCp := Lib.hid (fold_copy wq (HKV.out.bel HBq.out).p)
          clear HCs HCm q0 q1 q2 q3 q4 q5 q6
          go_wp2_with fail
          with_reducible refine Calls.mono HCp.out ?_
          rintro e wc ⟨s2, t2, m2, l2, rfl, hP2, r1, r2, r3, r4, hBc⟩
          have hTri : Tri w1 wc sb tb mb lb s2 t2 m2 l2 sd wr.heap.size #[.int .i64 op, .string dp, .string dq, .int .i64 off, .int .i64 size, .slice da dn dc, .slice la ln lc] (61 * (k + 1)) fa S S S := by
            have hkq := HKV.out.bel HBq.out
            have hkc := hkq.bel hBc
            have hlq := hkq.p.lt
            have hs1 := hkq.below.size
            have hfw : FewP (61 * (k + 1)) S := hkq.few.mono (by omega)
            refine ⟨hkc.mono (by omega), (HDV.out.below HBq.out).below hBc, ⟨hP2, hkq.i, hkc.m, hfw, hkq.m0, hkc.below, by omega, by omega, by omega, by omega⟩, ((blw HBq.out hBc).block wr.heap.size (by omega)).trans HbV.out, fun x hx y hy => ?_⟩
            simp only [List.mem_cons, List.not_mem_nil, or_false] at hx hy
            omega
          have HT := Lib.hid hTri
          clear hTri hP2 r1 r2 r3 r4 hBc HCp HBq H7 HbV HKV HDV
          have H7 : Hid (∀ X fb A B C, Tri w1 X sb tb mb lb s2 t2 m2 l2 sd wr.heap.size #[.int .i64 op, .string dp, .string dq, .int .i64 off, .int .i64 size, .slice da dn dc, .slice la ln lc] (61 * (k + 1)) fb A B C → X.cell? ⟨wr.heap.size, 0, none⟩ = some (.int .i64 op) ∧ X.cell? ⟨wr.heap.size, 1, none⟩ = some (.string dp) ∧ X.cell? ⟨wr.heap.size, 2, none⟩ = some (.string dq) ∧ X.cell? ⟨wr.heap.size, 3, none⟩ = some (.int .i64 off) ∧ X.cell? ⟨wr.heap.size, 4, none⟩ = some (.int .i64 size) ∧ X.cell? ⟨wr.heap.size, 5, none⟩ = some (.slice da dn dc) ∧ X.cell? ⟨wr.heap.size, 6, none⟩ = some (.slice la ln lc)) := Lib.hid fun X fb A B C h => b7_cells h.d
          have hfw := HK.out.few
          have HA1 : Hid (∀ X fb B C a2 c2, Tri w1 X sb tb mb lb s2 t2 m2 l2 sd wr.heap.size #[.int .i64 op, .string dp, .string dq, .int .i64 off, .int .i64 size, .slice da dn dc, .slice la ln lc] (61 * (k + 1)) fb S B C → SlPo X a2 l → ln ≤ c2 → Calls Tryz.prog 10 #[.pointer (some ⟨sb, 0, none⟩), .agg #[.int .i64 op, .string dp, .string dq, .int .i64 off, .int .i64 size, .slice da dn dc], .slice a2 ln c2] X fun e w' => e = .returned (.int .i64 x) ∧ Tri w1 w' sb tb mb lb s2 t2 m2 l2 sd wr.heap.size #[.int .i64 op, .string dp, .string dq, .int .i64 off, .int .i64 size, .slice da dn dc, .slice la ln lc] (61 * (k + 1)) fb S' B C) := Lib.hid fun X fb B C a2 c2 h hs hc => (HAp.out X sb tb mb lb a2 c2 { h.s with few := hfw } hs.s hc).mono fun e w' r => ⟨r.1, h.byS r.2.1 r.2.2⟩
          have HA2 : Hid (∀ X fb A B a2 c2, Tri w1 X sb tb mb lb s2 t2 m2 l2 sd wr.heap.size #[.int .i64 op, .string dp, .string dq, .int .i64 off, .int .i64 size, .slice da dn dc, .slice la ln lc] (61 * (k + 1)) fb A B S → SlPo X a2 l → ln ≤ c2 → Calls Tryz.prog 10 #[.pointer (some ⟨s2, 0, none⟩), .agg #[.int .i64 op, .string dp, .string dq, .int .i64 off, .int .i64 size, .slice da dn dc], .slice a2 ln c2] X fun e w' => e = .returned (.int .i64 x) ∧ Tri w1 w' sb tb mb lb s2 t2 m2 l2 sd wr.heap.size #[.int .i64 op, .string dp, .string dq, .int .i64 off, .int .i64 size, .slice da dn dc, .slice la ln lc] (61 * (k + 1)) fb A B S') := Lib.hid fun X fb A B a2 c2 h hs hc => (HAp.out X s2 t2 m2 l2 a2 c2 { h.c with few := hfw } hs.s hc).mono fun e w' r => ⟨r.1, h.byC r.2.1 r.2.2⟩
          have HM1 : Hid (∀ X fb A C, Tri w1 X sb tb mb lb s2 t2 m2 l2 sd wr.heap.size #[.int .i64 op, .string dp, .string dq, .int .i64 off, .int .i64 size, .slice da dn dc, .slice la ln lc] (61 * (k + 1)) fb A S C → Calls Tryz.prog 21 #[.pointer (some ⟨sd, 0, none⟩), .agg #[.int .i64 op, .string dp, .string dq, .int .i64 off, .int .i64 size, .slice da dn dc], .slice la ln lc] X fun e w' => e = .returned (.int .i64 x) ∧ (∃ fc, Tri w1 w' sb tb mb lb s2 t2 m2 l2 sd wr.heap.size #[.int .i64 op, .string dp, .string dq, .int .i64 off, .int .i64 size, .slice da dn dc, .slice la ln lc] (61 * (k + 1)) fc A S' C) ∧ ∀ a N, SlPo X a N → SlPo w' a N) := Lib.hid fun X fb A C h => (HAm.out X fb h.m h.s.below).mono fun e w' r => by
            obtain ⟨r1, fc, r2, r3, _⟩ := r
            exact ⟨r1, ⟨fc, h.byM r2 r3⟩, fun a N hs => hs.turnP r3.t h.m.nopt⟩
          have HP1 : Hid (∀ X fb A B C, Tri w1 X sb tb mb lb s2 t2 m2 l2 sd wr.heap.size #[.int .i64 op, .string dp, .string dq, .int .i64 off, .int .i64 size, .slice da dn dc, .slice la ln lc] (61 * (k + 1)) fb A B C → Calls Tryz.prog 11 #[.slice la ln lc] X fun e w' => ∃ a2 c2, e = .returned (.slice a2 ln c2) ∧ ln ≤ c2 ∧ SlPo w' a2 l ∧ Tri w1 w' sb tb mb lb s2 t2 m2 l2 sd wr.heap.size #[.int .i64 op, .string dp, .string dq, .int .i64 off, .int .i64 size, .slice da dn dc, .slice la ln lc] (61 * (k + 1)) fb A B C) := Lib.hid fun X fb A B C h => (HPt.out X h.s.below).mono fun e w' r => by
            obtain ⟨a2, c2, r1, r2, r3, r4⟩ := r
            exact ⟨a2, c2, r1, r2, r3, h.bel r4⟩
          have HQ1 : Hid (∀ X fb A C, Tri w1 X sb tb mb lb s2 t2 m2 l2 sd wr.heap.size #[.int .i64 op, .string dp, .string dq, .int .i64 off, .int .i64 size, .slice da dn dc, .slice la ln lc] (61 * (k + 1)) fb A A C → Calls Tryz.prog 22 #[.pointer (some ⟨sb, 0, none⟩), .pointer (some ⟨sd, 0, none⟩)] X fun e w' => e = .returned (.bool true) ∧ Tri w1 w' sb tb mb lb s2 t2 m2 l2 sd wr.heap.size #[.int .i64 op, .string dp, .string dq, .int .i64 off, .int .i64 size, .slice da dn dc, .slice la ln lc] (61 * (k + 1)) fb A A C) := Lib.hid fun X fb A C h => (law15_same X ⟨h.s.p, h.m, h.s.i, h.s.m, h.s.few⟩ (by omega)).mono fun e w' r => ⟨r.1, h.bel r.2⟩
          have HQ2 : Hid (∀ X fb A C, Tri w1 X sb tb mb lb s2 t2 m2 l2 sd wr.heap.size #[.int .i64 op, .string dp, .string dq, .int .i64 off, .int .i64 size, .slice da dn dc, .slice la ln lc] (61 * (k + 1)) fb A C C → Calls Tryz.prog 22 #[.pointer (some ⟨s2, 0, none⟩), .pointer (some ⟨sd, 0, none⟩)] X fun e w' => e = .returned (.bool true) ∧ Tri w1 w' sb tb mb lb s2 t2 m2 l2 sd wr.heap.size #[.int .i64 op, .string dp, .string dq, .int .i64 off, .int .i64 size, .slice da dn dc, .slice la ln lc] (61 * (k + 1)) fb A C C) := Lib.hid fun X fb A C h => (law15_same X ⟨h.c.p, h.m, h.c.i, h.c.m, h.c.few⟩ (by omega)).mono fun e w' r => ⟨r.1, h.bel r.2⟩
          obtain ⟨q0, q1, q2, q3, q4, q5, q6⟩ := H7.out _ _ _ _ _ HT.out
          go_upto_region 15 with (fail)
          go_region_held3 (fun w' => w'.cell? ⟨wr.heap.size, 0, none⟩ = some (.int .i64 op) ∧ w'.cell? ⟨wr.heap.size, 1, none⟩ = some (.string dp) ∧ w'.cell? ⟨wr.heap.size, 2, none⟩ = some (.string dq) ∧ w'.cell? ⟨wr.heap.size, 3, none⟩ = some (.int .i64 off) ∧ w'.cell? ⟨wr.heap.size, 4, none⟩ = some (.int .i64 size) ∧ w'.cell? ⟨wr.heap.size, 5, none⟩ = some (.slice da dn dc) ∧ w'.cell? ⟨wr.heap.size, 6, none⟩ = some (.slice la ln lc)) (first | go_keep | exact H7.out _ _ _ _ _ HT.out) (first | (go_at_call 10; refine (HA1.out _ _ _ _ _ _ (by first | exact HT.out | exact HT.out.bel (below_drewN' (Below.refl _ _) 1)) (by first | exact HSo.out | exact HSo.out.below (below_drewN' (Below.refl _ _) 1)) hc2).mono ?_; rintro e wp ⟨rfl, hT⟩; have HT := Lib.hid hT; have hdone := True.intro; clear hT) | (go_at_call 21; refine (HM1.out _ _ _ _ (by first | exact HT.out | exact HT.out.bel (below_drewN' (Below.refl _ _) 1))).mono ?_; rintro e wp ⟨rfl, ⟨fb, hT⟩, hso⟩; have HT := Lib.hid hT; try have HSo := Lib.hid (hso _ _ (by first | exact HSo.out | exact HSo.out.below (below_drewN' (Below.refl _ _) 1))); clear hT hso) | (go_at_call 11; refine (HP1.out _ _ _ _ _ (by first | exact HT.out | exact HT.out.bel (below_drewN' (Below.refl _ _) 1))).mono ?_; rintro e wp ⟨a2, c2, rfl, hc2, hS2, hT⟩; have HT := Lib.hid hT; have HSo := Lib.hid hS2; clear hT hS2))
          all_goals
            clear HA1 HM1 HSo q0 q1 q2 q3 q4 q5 q6
            go_wp2_with fail
            with_reducible refine Calls.mono (HQ1.out _ _ _ _ HT.out) ?_
            rintro e wz ⟨rfl, hT⟩
            have HT := Lib.hid hT
            clear hT HQ1 hc2
            obtain ⟨q0, q1, q2, q3, q4, q5, q6⟩ := H7.out _ _ _ _ _ HT.out
            by_cases hx : x = 0
            · subst hx
              clear HNo HAp HAm HPt
              go_upto_region 18 with (fail)
              go_region_held3 (fun w' => w'.cell? ⟨wr.heap.size, 0, none⟩ = some (.int .i64 op) ∧ w'.cell? ⟨wr.heap.size, 1, none⟩ = some (.string dp) ∧ w'.cell? ⟨wr.heap.size, 2, none⟩ = some (.string dq) ∧ w'.cell? ⟨wr.heap.size, 3, none⟩ = some (.int .i64 off) ∧ w'.cell? ⟨wr.heap.size, 4, none⟩ = some (.int .i64 size) ∧ w'.cell? ⟨wr.heap.size, 5, none⟩ = some (.slice da dn dc) ∧ w'.cell? ⟨wr.heap.size, 6, none⟩ = some (.slice la ln lc)) (first | go_keep | exact H7.out _ _ _ _ _ HT.out) (first | (go_at_call 22; refine (HQ2.out _ _ _ _ (by first | exact HT.out | exact HT.out.bel (below_drewN' (Below.refl _ _) 1))).mono ?_; rintro e wp ⟨rfl, hT⟩; have HT := Lib.hid hT; clear hT) | (go_at_call 10; refine (HA2.out _ _ _ _ _ _ (by first | exact HT.out | exact HT.out.bel (below_drewN' (Below.refl _ _) 1)) (by first | exact HSo.out | exact HSo.out.below (below_drewN' (Below.refl _ _) 1)) hc2).mono ?_; rintro e wp ⟨rfl, hT⟩; have HT := Lib.hid hT; clear hT) | (go_at_call 11; refine (HP1.out _ _ _ _ _ (by first | exact HT.out | exact HT.out.bel (below_drewN' (Below.refl _ _) 1))).mono ?_; rintro e wp ⟨a2, c2, rfl, hc2, hS2, hT⟩; have HT := Lib.hid hT; have HSo := Lib.hid hS2; clear hT hS2))
              all_goals
                have HK' := Lib.hid HT.out.s
                have HD' := Lib.hid HT.out.m
                go_wp2
                exact ⟨⟨k + 1, S', _, by omega, by go_num, by omega, HK', HD'⟩, by simp [intOf]; omega⟩
            · have hSS : S' = S := HNo.out hx
              subst hSS
              have hxb : (x == 0) = false := by simp [hx]
              clear HNo HAp HAm HPt hx HA2
              go_upto_region 18 with (fail)
              have HQ3 := Lib.hid (HQ2.out _ _ _ _ (HT.out.bel (below_drewN' (Below.refl _ _) 1)))
              clear H7 HP1 q0 q1 q2 q3 q4 q5 q6
              refine wp_region_any (by kernel_rfl) ?_
              try (change wpAny _ _ _ _ _ _ _ (World.drew _))
              (refine wpAny_take (i := 0) (v := ?_) rfl (by kernel_rfl) (by kernel_rfl) (by kernel_rfl) (fun _ _ _ h => h) (Or.inl ⟨by kernel_rfl, ?_⟩) ?_; rotate_left; · (intro w; go_simp; try with_reducible rfl))
              (refine wpAny_take (i := 1) (v := ?_) rfl (by kernel_rfl) (by kernel_rfl) (by kernel_rfl) (fun _ _ _ h => h) (Or.inl ⟨by kernel_rfl, ?_⟩) ?_; rotate_left; · (intro w; go_simp; try with_reducible rfl))
              (refine wpAny_take (i := 2) (v := ?_) rfl (by kernel_rfl) (by kernel_rfl) (by kernel_rfl) (fun _ _ _ h => h) (Or.inl ⟨by kernel_rfl, ?_⟩) ?_; rotate_left; · (intro w; go_simp; try with_reducible rfl))
              (refine wpAny_take (i := 3) (v := undef) rfl (by kernel_rfl) (by kernel_rfl) (by kernel_rfl) (fun _ _ _ h => h) (Or.inr ⟨by kernel_rfl, rfl⟩) ?_)
              (refine wpAny_take (i := 4) (v := undef) rfl (by kernel_rfl) (by kernel_rfl) (by kernel_rfl) (fun _ _ _ h => h) (Or.inr ⟨by kernel_rfl, rfl⟩) ?_)
              (refine wpAny_take (i := 6) (v := undef) rfl (by kernel_rfl) (by kernel_rfl) (by kernel_rfl) (fun _ _ _ h => h) (Or.inr ⟨by kernel_rfl, rfl⟩) ?_)
              (refine wpAny_ready (rs := [5, 7]) (by kernel_rfl) (by simp) ?_; refine BigFrame.allReady_skip rfl (by kernel_rfl) ?_ (BigFrame.allReady_skip rfl (by kernel_rfl) ?_ AllReady.nil))
              (refine wpAny_ready (rs := [7]) (by kernel_rfl) (by simp) ?_; refine BigFrame.allReady_skip rfl (by kernel_rfl) ?_ AllReady.nil)
              (refine wpAny_ready (rs := [8]) (by kernel_rfl) (by simp) ?_; refine BigFrame.allReady_skip rfl (by kernel_rfl) ?_ AllReady.nil)
              (refine wpAny_ready (rs := [9]) (by kernel_rfl) (by simp) ?_; refine BigFrame.allReady_skip rfl (by kernel_rfl) ?_ AllReady.nil)
              (refine wpAny_take (i := 10) (v := undef) rfl (by kernel_rfl) (by kernel_rfl) (by kernel_rfl) (fun _ _ _ h => h) (Or.inr ⟨by kernel_rfl, rfl⟩) ?_)
              rotate_left
              (refine wpAny_ready (rs := [5, 8]) (by kernel_rfl) (by simp) ?_; refine BigFrame.allReady_skip rfl (by kernel_rfl) ?_ (BigFrame.allReady_skip rfl (by kernel_rfl) ?_ AllReady.nil))
              (refine wpAny_ready (rs := [8]) (by kernel_rfl) (by simp) ?_; refine BigFrame.allReady_skip rfl (by kernel_rfl) ?_ AllReady.nil)
              (refine wpAny_ready (rs := [9]) (by kernel_rfl) (by simp) ?_; refine BigFrame.allReady_skip rfl (by kernel_rfl) ?_ AllReady.nil)
              (refine wpAny_take (i := 10) (v := undef) rfl (by kernel_rfl) (by kernel_rfl) (by kernel_rfl) (fun _ _ _ h => h) (Or.inr ⟨by kernel_rfl, rfl⟩) ?_)
              rotate_left
              (refine wpAny_ready (rs := [5]) (by kernel_rfl) (by simp) ?_; refine BigFrame.allReady_skip rfl (by kernel_rfl) ?_ AllReady.nil)
              (refine wpAny_ready (rs := [9]) (by kernel_rfl) (by simp) ?_; refine BigFrame.allReady_skip rfl (by kernel_rfl) ?_ AllReady.nil)
              (refine wpAny_take (i := 10) (v := undef) rfl (by kernel_rfl) (by kernel_rfl) (by kernel_rfl) (fun _ _ _ h => h) (Or.inr ⟨by kernel_rfl, rfl⟩) ?_)
              all_goals
                (refine wpAny_take (i := 11) (v := ?_) rfl (by kernel_rfl) (by kernel_rfl) (by kernel_rfl) (fun _ _ _ h => h) (Or.inl ⟨by kernel_rfl, ?_⟩) ?_; rotate_left; · (intro w; go_simp; try with_reducible rfl))
                (refine wpAny_take (i := 12) (v := ?_) rfl (by kernel_rfl) (by kernel_rfl) (by kernel_rfl) (fun _ _ _ h => h) (Or.inl ⟨by kernel_rfl, ?_⟩) ?_; rotate_left; · (intro w; go_simp; try with_reducible rfl))
                (refine wpAny_take (i := 13) (v := ?_) rfl (by kernel_rfl) (by kernel_rfl) (by kernel_rfl) (fun _ _ _ h => h) (Or.inl ⟨by kernel_rfl, ?_⟩) ?_; rotate_left; · (intro w; go_simp; try with_reducible rfl))
                (refine wpAny_take (i := 14) (v := ?_) rfl (by kernel_rfl) (by kernel_rfl) (by kernel_rfl) (fun _ _ _ h => h) (Or.inl ⟨by kernel_rfl, ?_⟩) ?_; rotate_left; · (intro w; go_simp; try with_reducible rfl))
                refine wpAny_ready (rs := [15]) (by kernel_rfl) (by simp) ?_
                refine AllReady.cons rfl (fun K hK => ?_) AllReady.nil
                go_simp
                go_wp2_with (go_at_call 22; refine HQ3.out.mono ?_; rintro e wp ⟨rfl, hT⟩; have HT := Lib.hid hT; clear hT)
                (refine wpAny_take (i := 16) (v := ?_) rfl (by kernel_rfl) (by kernel_rfl) (by kernel_rfl) (fun _ _ _ h => h) (Or.inl ⟨by kernel_rfl, ?_⟩) ?_; rotate_left; · (intro w; go_simp; try with_reducible rfl))
                (refine wpAny_take (i := 17) (v := ?_) rfl (by kernel_rfl) (by kernel_rfl) (by kernel_rfl) (fun _ _ _ h => h) (Or.inl ⟨by kernel_rfl, ?_⟩) ?_; rotate_left; · (intro w; go_simp; try with_reducible rfl))
                refine wpAny_done (by kernel_rfl) ?_ _
              all_goals
                  have HK' := Lib.hid HT.out.s
                  have HD' := Lib.hid HT.out.m
                  go_wp2
                  exact ⟨⟨k + 1, S', _, by omega, by go_num, by omega, HK', HD'⟩, by simp [intOf]; omega⟩
      · obtain rfl : k = L.length := by omega
        have hlt' : decide ((L.length : Int) < (L.length : Int)) = false := by simp
        have HF := Lib.hid (blw HB1.out HK.out.below)
        clear hlt
        go_wp2
        go_ret
        exact ⟨rfl, HF.out⟩
end Go.Proofs.YtiegadfhgccliaaGreatDoor
