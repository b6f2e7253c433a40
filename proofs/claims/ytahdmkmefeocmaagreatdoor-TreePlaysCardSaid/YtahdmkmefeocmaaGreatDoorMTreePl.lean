/- Walk of TreePlays. Printed by gen_plays.py. -/
import Derived.Test.YtahdmkmefeocmaaGreatDoorMTreeMv
import Derived.Test.YtahdmkmefeocmaaGreatDoorMTreeC
import Derived.Test.YtahdmkmefeocmaaGreatDoorMDocT
namespace Go.Proofs.YtahdmkmefeocmaaGreatDoor
open Go.RowKit Go.Lib
open Go.ChangeMaps (setBlock)

/-- What a tree that is turned besides does to the document's row: nothing. -/
theorem DocP.turn2 {w w' : World} {td cb cm : Nat} {T Tc : TS} (h : DocP w td T) (hc : TreeP w cb cm Tc) (ht : Turn [cb, cm] w w') (h1 : td ≠ cb) (h2 : td ≠ cm) : DocP w' td T := by
  have e := ht.block td h.lt (by simp; omega)
  obtain ⟨a, c, g1, g2, g3⟩ := h.ex
  refine ⟨⟨a, c, e.trans g1, g2, ?_⟩, fun b o n c' x h' => h.far b o n c' x (e.symm.trans h')⟩
  rcases g3 with g | ⟨b, o, e1, hr⟩
  · exact .inl g
  · cases hL : T.L with
    | nil => exact .inl rfl
    | cons n r =>
      rw [← hL]
      refine .inr ⟨b, o, e1, hr.turn ht ?_⟩
      obtain ⟨_, _, c2⟩ := hr.at_ 0 (by rw [hL]; simp)
      obtain ⟨Lc, _, hA⟩ := hc
      obtain ⟨es, clock, hb, _⟩ := hA.map
      intro hm
      simp only [List.mem_cons, List.not_mem_nil, or_false] at hm
      rcases hm with rfl | rfl
      · unfold World.cell? at c2
        rw [hA.cells] at c2
        simp at c2
      · unfold World.cell? at c2
        rw [hb] at c2
        simp at c2
theorem BP.other {w w' : World} {tb mb td cb cm : Nat} {T Tc : TS} (h : BP w tb mb td T) (hc : TreeP w cb cm Tc) (ht : Turn [cb, cm] w w') (h1 : td < cb) (h2 : td < cm) : BP w' tb mb td T := by
  have l1 := h.l1
  have l2 := h.l2
  have g1 := h.g1
  have g2 := h.g2
  exact ⟨h.t.turn ht (by simp; omega) (by simp; omega), h.d.turn2 hc ht (by omega) (by omega), h.i, h.m.turn ht (by simp; omega), l1, l2, g1, g2⟩
def zzB : ByteArray := ⟨#[47, 122, 122]⟩
theorem zz_at {L : List Nd} {i : Int} {d : Bool} (h : lookS (fnd · L) zzB = (i, d, 0)) : 0 ≤ atD L zzB := by
  obtain ⟨P, hP, hor⟩ := lookS_ok h
  have hz : psplit zzB = some [⟨#[122, 122]⟩] := by decide +kernel
  rw [hz] at hP
  cases hP
  rcases hor with ⟨h1, _⟩ | ⟨_, n, hf, _⟩
  · cases h1
  · have hr : zzB ≠ rootP := by decide
    obtain ⟨q, _, hq, _⟩ := atD_some hr hf
    rw [hq]
    exact Int.natCast_nonneg _
/-- List's names; none where it is refused. -/
def listA (L : List Nd) (s : ByteArray) : List ByteArray := if canListS L s = 0 then listS L s else []
theorem listA_len (L : List Nd) (s : ByteArray) : (listA L s).length ≤ L.length := by
  unfold listA
  split
  · exact listS_len L s
  · simp
theorem tree_list_any (s : ByteArray) (w : World) (hs : s.size ≤ 100000) {tb mb : Nat} {T : TS} (hT : TreeP w tb mb T) (hI : TInv T) (hm : MLen w) :
    Calls Tryz.prog 17 #[.pointer (some ⟨tb, 0, none⟩), .string s] w fun e w' => ∃ a c, e = .returned (.tuple #[.slice a (listA T.L s).length c, .int .i64 (canListS T.L s)]) ∧ (listA T.L s).length ≤ c ∧ SlS w' a (listA T.L s) ∧ Below w.heap.size w w' := by
  unfold listA
  by_cases h : canListS T.L s = 0
  · rw [if_pos h, h]
    exact tree_list_ok s w hs hT hI hm h
  · rw [if_neg h]
    refine (tree_list_no s w hs hT hI hm rfl h).mono ?_
    rintro e w' ⟨rfl, hB⟩
    exact ⟨none, 0, rfl, Nat.le_refl _, .inl rfl, hB⟩
theorem doc_list_any (s : ByteArray) (w : World) (hs : s.size ≤ 100000) {td : Nat} {T : TS} (hT : DocP w td T) (hI : TInv T) :
    Calls Tryz.prog 18 #[.pointer (some ⟨td, 0, none⟩), .string s] w fun e w' => ∃ a c, e = .returned (.tuple #[.slice a (listA T.L s).length c, .int .i64 (canListS T.L s)]) ∧ (listA T.L s).length ≤ c ∧ SlS w' a (listA T.L s) ∧ Below w.heap.size w w' := by
  unfold listA
  by_cases h : canListS T.L s = 0
  · rw [if_pos h, h]
    exact doc_list_ok s w hs hT hI h
  · rw [if_neg h]
    refine (doc_list_no s w hs hT hI rfl h).mono ?_
    rintro e w' ⟨rfl, hB⟩
    exact ⟨none, 0, rfl, Nat.le_refl _, .inl rfl, hB⟩
set_option maxRecDepth 100000 in
set_option maxHeartbeats 16000000 in
theorem treePlays_walk (s0 : Option Addr) (c0 : Nat) (L : List Dd) (s1 : Option Addr) (c1 : Nat) (A : List ByteArray) (w : World) (i0 : SlD w s0 L) (hc : L.length ≤ c0) (hcm : c0 ≤ maxLen) (i1 : SlS w s1 A) (hc1 : A.length ≤ c1) (_x1 : ∀ x ∈ A, x.size ≤ maxLen) (_y1 : c1 * 16 ≤ 140737488351232) (hm : MLen w) :
    Calls Tryz.prog 4 #[.slice s0 L.length c0, .slice s1 A.length c1] w fun e w' => e = .returned (.bool true) ∧ Below w.heap.size w w' := by
  have HAw := Lib.hid (awake13 w hm)
  have HSm : Hid (∀ W, Below w.heap.size w W → Calls Tryz.prog 7 #[.slice s0 L.length c0, .int .i64 120] W fun e w' => e = .returned (.bool (smallB L 120)) ∧ w' = W) := fun W h => law13_small L s0 c0 120 W (i0.below h) hc (by unfold maxLen at hcm; omega) (by decide)
  have HS := Lib.hid i0
  have HA := Lib.hid i1
  have HM := Lib.hid hm
  have hgl := hm.lt
  cases hsm : smallB L 120
  · rw [hsm] at HSm
    clear i0 i1 hm hsm
    go_enter Tryz.func4, Tryz.ntmps4
    go_wp2_with fail
    refine HAw.out.mono ?_
    rintro e w1 ⟨rfl, hB1⟩
    go_wp2_with fail
    with_reducible refine Calls.mono (HSm.out _ hB1) ?_
    rintro e w1 ⟨rfl, rfl⟩
    go_wp2
    go_ret
    exact ⟨rfl, hB1⟩
  · rw [hsm] at HSm
    obtain ⟨hL60, hsm2⟩ := smallB_spec hsm
    have HSz := Lib.hid hsm2
    clear i0 i1 hm hsm hsm2
    by_cases hs1 : (A.length : Int) > 30
    · skip
      go_enter Tryz.func4, Tryz.ntmps4
      go_wp2_with fail
      refine HAw.out.mono ?_
      rintro e w1 ⟨rfl, hB1⟩
      go_wp2_with fail
      with_reducible refine Calls.mono (HSm.out _ hB1) ?_
      rintro e w1 ⟨rfl, rfl⟩
      go_wp2
      go_ret
      exact ⟨rfl, hB1⟩
    · have hA30 : A.length ≤ 30 := by omega
      go_enter Tryz.func4, Tryz.ntmps4
      go_wp2_with fail
      refine HAw.out.mono ?_
      rintro e w1 ⟨rfl, hB1⟩
      go_wp2_with fail
      with_reducible refine Calls.mono (HSm.out _ hB1) ?_
      rintro e w1 ⟨rfl, rfl⟩
      have HNw := Lib.hid (tree_new w1)
      have HB1 := Lib.hid hB1
      clear hB1 HAw HSm
      go_wp2_with fail
      with_reducible refine Calls.mono HNw.out ?_
      rintro e w2 ⟨tb, mb, rfl, hT2, ht2, hm2, hB2⟩
      have hbp := BP.new (HM.out.below HB1.out) hT2 ht2 hm2 hB2
      have hB12 : Below w.heap.size w (w2.alloc (.cells #[.slice none 0 0, .int .i64 1] 30)) := (blw HB1.out hB2).alloc (blw HB1.out hB2).size _
      have HBp := Lib.hid hbp
      have HBw := Lib.hid hB12
      have hs12 := HB1.out.size
      have hs2' := hB2.size
      clear hbp hB12 hT2 hB2 HNw
      go_upto_region 6 with (fail)
      generalize w2.alloc (.cells #[.slice none 0 0, .int .i64 1] 30) = W at *
      generalize w2.heap.size = td at *
      go_wp2
      go_loopw [7] (fun i wr => ∃ (k : Nat) (T : TS), k ≤ L.length ∧ i = .int .i64 (k : Int) ∧ T.nx ≤ 1 + (k : Int) ∧ Hid (BP wr tb mb td T) ∧ Hid (Below w.heap.size w wr)) (fun i _ => L.length - (intOf i).toNat)
      case atStart => exact ⟨0, ⟨[], 1⟩, by omega, rfl, by decide, HBp, HBw⟩
      case round =>
        obtain ⟨k, T, hk, rfl, hnx, HBp, HBw⟩ := hrel
        by_cases hlt : k < L.length
        · have hmem : L.getD k default ∈ L := by simp [List.getD, hlt]
          obtain ⟨hd1, hd2⟩ := HSz.out _ hmem
          have HDo : Hid (∀ W, BP W tb mb td T → Calls Tryz.prog 9 #[.pointer (some ⟨tb, 0, none⟩), .pointer (some ⟨td, 0, none⟩), .agg #[.int .i64 (L.getD k default).act, .string (L.getD k default).p, .string (L.getD k default).q, .bool (L.getD k default).dir]] W fun e w' => e = .returned (.bool true) ∧ BP w' tb mb td (doS T (L.getD k default)).1 ∧ Turn [tb, mb, td] W w') := fun W h => law13_do (L.getD k default) W h hd1 hd2 (by omega)
          have hnx2 := deed_nx T (L.getD k default)
          have HRow : Hid (∀ W, Below w.heap.size w W → ∃ b o, s0 = some ⟨b, o, none⟩ ∧ W.cell? ⟨b, o + k * 4, none⟩ = some (.int .i64 (L.getD k default).act) ∧ W.cell? ⟨b, o + k * 4 + 1, none⟩ = some (.string (L.getD k default).p) ∧ W.cell? ⟨b, o + k * 4 + 2, none⟩ = some (.string (L.getD k default).q) ∧ W.cell? ⟨b, o + k * 4 + 3, none⟩ = some (.bool (L.getD k default).dir)) := fun W h => (HS.out.below h).at_ hlt
          generalize doS T (L.getD k default) = R at *
          obtain ⟨T', x, y⟩ := R
          generalize L.getD k default = d at *
          obtain ⟨da, dp, dq, dd⟩ := d
          dsimp only at hnx2 HDo HRow
          have hki : (k : Int) < (L.length : Int) := by omega
          have hkc : (k : Int) < (c0 : Int) := by omega
          have HCo := Lib.hid (tree_copy wr HBp.out.t)
          have hl1 := HBp.out.l1
          have hl2 := HBp.out.l2
          have hl3 := HBp.out.d.lt
          have hnx1 := HBp.out.i.nx1
          have hfew := HBp.out.i.few
          have HAp := Lib.hid HBp.out.i.rises.apart
          clear hmem hd1 hd2
          go_wp2_with fail
          with_reducible refine Calls.mono HCo.out ?_
          rintro e w3 ⟨cb, cm, rfl, hT3, hcb, hcm3, hB3⟩
          have HB3 := Lib.hid (blw HBw.out hB3)
          have HBp3 := Lib.hid (HBp.out.below hB3)
          have HT3 := Lib.hid hT3
          obtain ⟨b, o, rfl, p0, p1, p2, p3⟩ := HRow.out _ HB3.out
          clear hT3 hB3 HCo HRow HBp HBw
          go_wp2_with fail
          with_reducible refine Calls.mono (HDo.out _ HBp3.out) ?_
          rintro e w4 ⟨rfl, hP4, hU4⟩
          have HB4 := Lib.hid (hU4.below HB3.out (by intro x hx; simp at hx; omega))
          have HT4 := Lib.hid (HT3.out.turn hU4 (by simp; omega) (by simp; omega))
          have HBp4 := Lib.hid hP4
          clear hP4 hU4 HDo HB3 HT3 HBp3 p0 p1 p2 p3
          go_wp2_with fail
          with_reducible refine Calls.mono (law13_same _ HBp4.out) ?_
          rintro e w5 ⟨rfl, hB5⟩
          have HB5 := Lib.hid (blw HB4.out hB5)
          have HT5 := Lib.hid (HT4.out.below hB5)
          have HBp5 := Lib.hid (HBp4.out.below hB5)
          have HMk := Lib.hid (tree_make ⟨#[47, 122, 122]⟩ true w5 (by decide) HT5.out HAp.out HBp5.out.m (by omega) (by omega))
          clear hB5 HB4 HT4 HBp4
          go_wp2_with fail
          with_reducible refine Calls.mono HMk.out ?_
          rintro e w6 ⟨rfl, _, hU6⟩
          have HB6 := Lib.hid (hU6.below HB5.out (by intro x hx; simp at hx; omega))
          have HBp6 := Lib.hid (HBp5.out.other HT5.out hU6 (by omega) (by omega))
          clear hU6 HMk HB5 HT5 HBp5
          obtain ⟨li, ld, lx, hl⟩ : ∃ i d x, lookS (fnd · T'.L) zzB = (i, d, x) := ⟨_, _, _, rfl⟩
          have HLk := Lib.hid (tree_look ⟨#[47, 122, 122]⟩ w6 (by decide) HBp6.out.t HBp6.out.i.rises.apart HBp6.out.m hl)
          have HAt : Hid (∀ W, Below w6.heap.size w6 W → Calls Tryz.prog 15 #[.pointer (some ⟨td, 0, none⟩), .string ⟨#[47, 122, 122]⟩] W fun e w' => e = .returned (.int .i64 (atD T'.L zzB)) ∧ w' = W) := fun W h => doc_at zzB W ((HBp6.out.below h).d) (by have := HBp6.out.i.few; omega)
          by_cases hx0 : lx = 0
          · subst hx0
            have hat := zz_at hl
            have hat2 : ¬ atD T'.L zzB < 0 := by omega
            generalize atD T'.L zzB = at0 at *
            clear hl
            go_wp2_with fail
            with_reducible refine Calls.mono HLk.out ?_
            rintro e w7 ⟨rfl, hB7⟩
            have HB7 := Lib.hid (blw HB6.out hB7)
            have HBp7 := Lib.hid (HBp6.out.below hB7)
            go_wp2_with fail
            with_reducible refine Calls.mono (HAt.out _ hB7) ?_
            rintro e w7 ⟨rfl, rfl⟩
            clear hB7
            go_wp2
            exact ⟨⟨k + 1, T', by omega, by go_num, by omega, HBp7, HB7⟩, by simp [intOf]; omega⟩
          · have hx1 : (lx == 0) = false := by rw [beq_eq_false_iff_ne]; exact hx0
            clear hl hx0
            go_wp2_with fail
            with_reducible refine Calls.mono HLk.out ?_
            rintro e w7 ⟨rfl, hB7⟩
            have HB7 := Lib.hid (blw HB6.out hB7)
            have HBp7 := Lib.hid (HBp6.out.below hB7)
            clear hB7
            go_wp2
            exact ⟨⟨k + 1, T', by omega, by go_num, by omega, HBp7, HB7⟩, by simp [intOf]; omega⟩
        · obtain rfl : k = L.length := by omega
          have hlt' : decide ((L.length : Int) < (L.length : Int)) = false := by simp
          clear hlt
          go_upto_region 18 with (fail)
          go_wp2
          go_loopw [12] (fun i wr => ∃ k : Nat, k ≤ A.length ∧ i = .int .i64 (k : Int) ∧ Hid (BP wr tb mb td T) ∧ Hid (Below w.heap.size w wr)) (fun i _ => A.length - (intOf i).toNat)
          case atStart => exact ⟨0, by omega, rfl, HBp, HBw⟩
          case round =>
            obtain ⟨k, hk, rfl, HBp, HBw⟩ := hrel
            by_cases hlt : k < A.length
            · have HRow : Hid (∀ W, Below w.heap.size w W → ∃ b o, s1 = some ⟨b, o, none⟩ ∧ W.cell? ⟨b, o + k, none⟩ = some (.string (A.getD k default)) ∧ b < W.heap.size) := fun W h => (HA.out.below h).at_ hlt
              generalize A.getD k default = q at *
              obtain ⟨b, o, rfl, p0, _⟩ := HRow.out _ HBw.out
              have HRow2 : Hid (∀ W, Below w.heap.size w W → W.cell? ⟨b, o + k, none⟩ = some (.string q)) := fun W h => by
                obtain ⟨b', o', e', h1, _⟩ := HRow.out W h
                cases e'
                exact h1
              have hki : (k : Int) < (A.length : Int) := by omega
              have hkc : (k : Int) < (c1 : Int) := by omega
              by_cases hq3 : (q.size : Int) > 300
              · go_wp2
                go_ret
                exact ⟨rfl, HBw.out⟩
              · have hq4 : q.size ≤ 100000 := by omega
                obtain ⟨li, ld, lx, hl⟩ : ∃ i d x, lookS (fnd · T.L) q = (i, d, x) := ⟨_, _, _, rfl⟩
                have HL1 := Lib.hid (tree_look q wr (by unfold maxLen; omega) HBp.out.t HBp.out.i.rises.apart HBp.out.m hl)
                have HL2 : Hid (∀ W, BP W tb mb td T → Calls Tryz.prog 16 #[.pointer (some ⟨td, 0, none⟩), .string q] W fun e w' => e = .returned (.tuple #[.int .i64 li, .bool ld, .int .i64 lx]) ∧ Below W.heap.size W w') := fun W h => doc_look q W (by unfold maxLen; omega) h.d (by have := h.i.few; omega) hl
                have hfew := Nat.le_trans (listA_len T.L q) HBp.out.i.few
                obtain ⟨cx, hcx⟩ : ∃ x, canListS T.L q = x := ⟨_, rfl⟩
                have HL3 : Hid (∀ W, BP W tb mb td T → Calls Tryz.prog 17 #[.pointer (some ⟨tb, 0, none⟩), .string q] W fun e w' => ∃ a c, e = .returned (.tuple #[.slice a (listA T.L q).length c, .int .i64 cx]) ∧ (listA T.L q).length ≤ c ∧ SlS w' a (listA T.L q) ∧ Below W.heap.size W w') := fun W h => by rw [← hcx]; exact tree_list_any q W hq4 h.t h.i h.m
                have HL4 : Hid (∀ W, BP W tb mb td T → Calls Tryz.prog 18 #[.pointer (some ⟨td, 0, none⟩), .string q] W fun e w' => ∃ a c, e = .returned (.tuple #[.slice a (listA T.L q).length c, .int .i64 cx]) ∧ (listA T.L q).length ≤ c ∧ SlS w' a (listA T.L q) ∧ Below W.heap.size W w') := fun W h => by rw [← hcx]; exact doc_list_any q W hq4 h.d h.i
                generalize listA T.L q = N at *
                clear hl hcx HRow
                go_wp2_with fail
                with_reducible refine Calls.mono HL1.out ?_
                rintro e w3 ⟨rfl, hB3⟩
                have HB3 := Lib.hid (blw HBw.out hB3)
                have HBp3 := Lib.hid (HBp.out.below hB3)
                have p3 := HRow2.out _ HB3.out
                clear hB3 p0 HL1
                go_wp2_with fail
                with_reducible refine Calls.mono (HL2.out _ HBp3.out) ?_
                rintro e w4 ⟨rfl, hB4⟩
                have HB4 := Lib.hid (blw HB3.out hB4)
                have HBp4 := Lib.hid (HBp3.out.below hB4)
                have p4 := HRow2.out _ HB4.out
                clear hB4 p3 HL2 HB3 HBp3
                go_wp2_with fail
                with_reducible refine Calls.mono (HL3.out _ HBp4.out) ?_
                rintro e w5 ⟨a5, c5, rfl, hc5, hS5, hB5⟩
                have HB5 := Lib.hid (blw HB4.out hB5)
                have HBp5 := Lib.hid (HBp4.out.below hB5)
                have HS5 := Lib.hid hS5
                have p5 := HRow2.out _ HB5.out
                clear hB5 hS5 p4 HL3 HB4 HBp4
                go_wp2_with fail
                with_reducible refine Calls.mono (HL4.out _ HBp5.out) ?_
                rintro e w6 ⟨a6, c6, rfl, hc6, hS6, hB6⟩
                have HB6 := Lib.hid (blw HB5.out hB6)
                have HBp6 := Lib.hid (HBp5.out.below hB6)
                have HS56 := Lib.hid (HS5.out.below hB6)
                have HS6 := Lib.hid hS6
                clear hB6 hS6 p5 HL4 HB5 HBp5 HS5
                go_wp2
                go_loopw [23] (fun i wr => ∃ j : Nat, j ≤ N.length ∧ i = .int .i64 (j : Int) ∧ Hid (Below w6.heap.size w6 wr)) (fun i _ => N.length - (intOf i).toNat)
                case atStart => exact ⟨0, by omega, rfl, Lib.hid (Below.refl _ _)⟩
                case round =>
                  obtain ⟨j, hj, rfl, HBj⟩ := hrel
                  by_cases hjl : j < N.length
                  · obtain ⟨b5, o5, rfl, q5, _⟩ := (HS56.out.below HBj.out).at_ hjl
                    obtain ⟨b6, o6, rfl, q6, _⟩ := (HS6.out.below HBj.out).at_ hjl
                    have hji : (j : Int) < (N.length : Int) := by omega
                    have hj5 : (j : Int) < (c5 : Int) := by omega
                    have hj6 : (j : Int) < (c6 : Int) := by omega
                    generalize N.getD j default = nm at *
                    go_upto_region 32 with (fail)
                    go_quiet (fail)
                    have HBd := Lib.hid (below_drewN HBj.out nq)
                    generalize wr.drewN nq = wq at *
                    go_wp2
                    exact ⟨⟨j + 1, by omega, by go_num, HBd⟩, by simp [intOf]; omega⟩
                  · obtain rfl : j = N.length := by omega
                    have hlt'' : decide ((N.length : Int) < (N.length : Int)) = false := by simp
                    have HBp7 := Lib.hid (HBp6.out.below HBj.out)
                    have HB7 := Lib.hid (blw HB6.out HBj.out)
                    clear hjl
                    go_wp2
                    exact ⟨⟨k + 1, by omega, by go_num, HBp7, HB7⟩, by simp [intOf]; omega⟩
            · obtain rfl : k = A.length := by omega
              have hlt'' : decide ((A.length : Int) < (A.length : Int)) = false := by simp
              clear hlt
              go_wp2
              go_ret
              exact ⟨rfl, HBw.out⟩
end Go.Proofs.YtahdmkmefeocmaaGreatDoor
