/- Walks of package tree: Build. -/
import Derived.Test.YtahdmkmefeocmaaGreatDoorMSortN
import Derived.Test.YtahdmkmefeocmaaGreatDoorMBuildL
import Derived.Test.YtahdmkmefeocmaaGreatDoorMTreeK
import Derived.Deep.RegionHeld3
import Derived.Deep.CutRange
namespace Go.Proofs.YtahdmkmefeocmaaGreatDoor
open Go.RowKit Go.Lib
open Go.ChangeMaps (setBlock)

/-- What Build answers: a tree with just these, or none. -/
def BuildAns (w : World) (rb : Bool) (next : Int) (L : List Nd) (e : Ending) (w' : World) : Prop :=
  (rb = true → ∃ tb mb O, e = .returned (.tuple #[.pointer (some ⟨tb, 0, none⟩), .int .i64 0]) ∧ O.Perm L ∧ TInv ⟨O, next⟩ ∧ TreeP w' tb mb ⟨O, next⟩ ∧ w.heap.size ≤ tb ∧ w.heap.size ≤ mb) ∧
  (rb = false → e = .returned (.tuple #[.pointer none, .int .i64 2])) ∧ Below w.heap.size w w'
/-- The numbers that were had. -/
def hadM (L : List Nd) : List (Int × Value) := L.map fun n => (n.id, .bool true)
theorem had_look (L : List Nd) (i : Int) : (look i (hadM L)).getD (.bool false) = .bool (L.any fun n => decide (n.id = i)) := by
  induction L with
  | nil => rfl
  | cons n r ih =>
    unfold hadM at ih ⊢
    rw [List.map_cons, look_cons, List.any_cons]
    by_cases h : n.id = i
    · rw [if_pos h, decide_eq_true h]; rfl
    · rw [if_neg h, decide_eq_false h, Bool.false_or]; exact ih
theorem had_put {L : List Nd} {n : Nd} (h : ∀ m ∈ L, m.id ≠ n.id) : mput n.id (.bool true) (hadM L) = hadM (L ++ [n]) := by
  unfold mput hadM
  have ha : (L.map fun n => (n.id, Value.bool true)).any (fun p => decide (p.1 = n.id)) = false := by
    rw [List.any_eq_false]
    intro p hp
    obtain ⟨m, hm, rfl⟩ := List.mem_map.1 hp
    simpa using h m hm
  rw [ha, if_neg (by decide), List.map_append]
  rfl
theorem putN_new {L : List Nd} {n : Nd} (h : ∀ m ∈ L, m.path ≠ n.path) : putN n L = L ++ [n] := by
  unfold putN
  have ha : L.any (fun m => decide (m.path = n.path)) = false := by
    rw [List.any_eq_false]
    intro m hm
    simpa using h m hm
  rw [ha, if_neg (by decide)]
theorem build_start (w : World) (next : Int) : TreeP (((w.alloc (.map #[] 0)).alloc (.cells #[.map (some w.heap.size), .int .i64 next] 63)).alloc (.map #[] 0)) (w.heap.size + 1) w.heap.size ⟨[], next⟩ ∧
    MapIs intKey (((w.alloc (.map #[] 0)).alloc (.cells #[.map (some w.heap.size), .int .i64 next] 63)).alloc (.map #[] 0)) (w.heap.size + 1 + 1) [] ∧
    Below w.heap.size w (((w.alloc (.map #[] 0)).alloc (.cells #[.map (some w.heap.size), .int .i64 next] 63)).alloc (.map #[] 0)) ∧
    (((w.alloc (.map #[] 0)).alloc (.cells #[.map (some w.heap.size), .int .i64 next] 63)).alloc (.map #[] 0)).heap.size = w.heap.size + 3 := by
  have s1 : (w.alloc (.map #[] 0)).heap.size = w.heap.size + 1 := by simp
  have s2 : ((w.alloc (.map #[] 0)).alloc (.cells #[.map (some w.heap.size), .int .i64 next] 63)).heap.size = w.heap.size + 1 + 1 := by simp
  have h1 := heap_alloc_new (w.alloc (.map #[] 0)) (.cells #[.map (some w.heap.size), .int .i64 next] 63)
  rw [s1] at h1
  have hB1 := (Below.refl w.heap.size w).alloc (Nat.le_refl _) (.map #[] 0)
  have hB2 := hB1.alloc (by omega) (.cells #[.map (some w.heap.size), .int .i64 next] 63)
  have hB3 := hB2.alloc (by omega) (.map #[] 0)
  have g1 : Below (w.heap.size + 1 + 1) ((w.alloc (.map #[] 0)).alloc (.cells #[.map (some w.heap.size), .int .i64 next] 63)) (((w.alloc (.map #[] 0)).alloc (.cells #[.map (some w.heap.size), .int .i64 next] 63)).alloc (.map #[] 0)) := by
    rw [← s2]; exact (Below.refl _ _).alloc (Nat.le_refl _) _
  have g2 : Below (w.heap.size + 1) (w.alloc (.map #[] 0)) ((w.alloc (.map #[] 0)).alloc (.cells #[.map (some w.heap.size), .int .i64 next] 63)) := by
    rw [← s1]; exact (Below.refl _ _).alloc (Nat.le_refl _) _
  refine ⟨⟨[], .refl _, ⟨?_, ?_⟩⟩, ?_, hB3, ?_⟩
  · exact (g1.block (w.heap.size + 1) (by omega)).trans h1
  · exact (MapIs.new strKey w).of_block ((g1.block w.heap.size (by omega)).trans (g2.block w.heap.size (by omega)))
  · have := MapIs.new intKey ((w.alloc (.map #[] 0)).alloc (.cells #[.map (some w.heap.size), .int .i64 next] 63))
    rw [s2] at this
    exact this
  · simp
theorem zero_bool (w : World) : (zeroValue 4).run Tryz.prog w = .ok (.bool false) w := by kernel_rfl
set_option maxRecDepth 100000 in
set_option maxHeartbeats 16000000 in
theorem tree_build (next : Int) (L : List Nd) (a : Option Addr) (c : Nat) (w : World) (hS : SlN w a L) (hc : L.length ≤ c) (hl : L.length ≤ 1000) (hps : ∀ n ∈ L, n.path.size ≤ 1000) (hm : MLen w) {rb : Bool} (hrb : rb = true ↔ MayL next L ∧ next ≤ 4611686018427387904) :
    Calls Tryz.prog 19 #[.int .i64 next, .slice a L.length c] w (BuildAns w rb next L) := by
  have hfl : ¬ (MayL next L ∧ next ≤ 4611686018427387904) → rb = false := fun h => by
    cases rb
    · rfl
    · exact absurd (hrb.1 rfl) h
  have HFl := Lib.hid hfl
  have HRb := Lib.hid hrb
  have hno : rb = false → ∀ W, Below w.heap.size w W → BuildAns w rb next L (.returned (.tuple #[.pointer none, .int .i64 2])) W := fun h W hB => ⟨fun h2 => (by rw [h] at h2; cases h2), fun _ => rfl, hB⟩
  have HNo := Lib.hid hno
  have HCl := Lib.hid (nodes_clone L a c w hS hc (by omega))
  have HPs := Lib.hid hps
  have HM := Lib.hid hm
  have hgl := hm.lt
  obtain ⟨Ans, hAns⟩ : ∃ Ans, BuildAns w rb next L = Ans := ⟨_, rfl⟩
  rw [hAns] at HNo ⊢
  have HAns := Lib.hid hAns
  clear hS hps hm hfl hrb hno hAns
  show Calls Tryz.prog 19 #[.int .i64 next, .slice a L.length c] w fun e w' => Ans e w'
  by_cases b1 : next < 1
  · have hr0 : rb = false := HFl.out fun h => by have := h.1.nx1; omega
    have HN := Lib.hid (HNo.out hr0 w (Below.refl _ _))
    clear hr0 HFl HRb HNo
    go_enter Tryz.func19, Tryz.ntmps19
    go_wp2
    exact HN.out
  by_cases b2 : next > 4611686018427387904
  · have hr0 : rb = false := HFl.out fun h => by have := h.2; omega
    have HN := Lib.hid (HNo.out hr0 w (Below.refl _ _))
    clear hr0 HFl HRb HNo
    go_enter Tryz.func19, Tryz.ntmps19
    go_wp2
    exact HN.out
  by_cases b3 : (L.length : Int) > 64
  · have hr0 : rb = false := HFl.out fun h => by have := h.1.few; omega
    have HN := Lib.hid (HNo.out hr0 w (Below.refl _ _))
    clear hr0 HFl HRb HNo
    go_enter Tryz.func19, Tryz.ntmps19
    go_wp2
    exact HN.out
  have hmm := @run_makeMap Tryz.prog
  go_enter Tryz.func19, Tryz.ntmps19
  go_wp2_with fail
  refine HCl.out.mono ?_
  rintro e w1 ⟨v, rfl, hO1, hB1⟩
  have HSo := Lib.hid (sort_nodes hO1 (by omega))
  have HB1 := Lib.hid hB1
  clear hO1 hB1 HCl
  go_wp2_with fail
  with_reducible refine Calls.mono HSo.out ?_
  rintro e w2 ⟨rfl, ao, co, O, rfl, hco, hpm, hso, hS2, hB2⟩
  have HB2 := Lib.hid (hB2 w.heap.size w (Nat.le_refl _) HB1.out)
  have HS2 := Lib.hid hS2
  have HSorted := Lib.hid hso
  have HPm := Lib.hid hpm
  have hOl := hpm.length_eq
  have hs2 := HB2.out.size
  have hcO : O.length ≤ co := by omega
  have hO64 : O.length ≤ 64 := by omega
  clear hS2 hso hpm hB2 HSo HB1
  rw [← hOl] at *
  go_upto_region 7 with (fail)
  obtain ⟨hT0, hH0, hB0, hsz0⟩ := build_start w2 next
  have HT0 := Lib.hid hT0
  have HH0 := Lib.hid hH0
  have HB0 := Lib.hid (HB2.out.trans (hB0.mono hs2))
  have HS0 := Lib.hid (HS2.out.below hB0)
  clear hT0 hH0 hB0 hmm
  generalize ((w2.alloc (.map #[] 0)).alloc (.cells #[.map (some w2.heap.size), .int .i64 next] 63)).alloc (.map #[] 0) = W0 at *
  have HSp : Hid (∀ b o, ao = some ⟨b, o, none⟩ → O ≠ [] → b < w2.heap.size) := fun b o e hne => by
    rcases HS2.out with h | ⟨b', o', e', hr⟩
    · exact absurd h hne
    · rw [e] at e'; cases e'; exact hr.lt
  clear HS2
  generalize w2.heap.size = mb at *
  go_wp2
  go_loopw [35] (fun i wr => ∃ k : Nat, k ≤ O.length ∧ i = .int .i64 (k : Int) ∧ Hid (TInv ⟨O.take k, next⟩) ∧ Hid (TreeP wr (mb + 1) mb ⟨O.take k, next⟩) ∧ Hid (MapIs intKey wr (mb + 1 + 1) (hadM (O.take k))) ∧ Hid (Turn [mb + 1, mb, mb + 1 + 1] W0 wr)) (fun i _ => O.length - (intOf i).toNat)
  case atStart => exact ⟨0, by omega, rfl, Lib.hid ⟨List.Pairwise.nil, by simp, by simp, by simp, by omega, by simp⟩, HT0, HH0, Lib.hid (Turn.refl _ _)⟩
  case round =>
    obtain ⟨k, hk, rfl, HI, HT, HH, HU⟩ := hrel
    by_cases hlt : k < O.length
    · have hmemO : O.getD k default ∈ O := by simp [List.getD, hlt]
      have hpsz := HPs.out _ (HPm.out.mem_iff.1 hmemO)
      obtain ⟨b, o, e1, hr⟩ : ∃ b o, ao = some ⟨b, o, none⟩ ∧ RdN wr b o O := by
        rcases HS0.out with h | ⟨b, o, e1, hr⟩
        · rw [h] at hlt; cases hlt
        · have := HSp.out b o e1 (fun h => by rw [h] at hlt; cases hlt)
          have hb1 : b < mb := this
          exact ⟨b, o, e1, hr.turn HU.out (by intro hx; simp at hx; omega)⟩
      obtain ⟨p0, p1, p2⟩ := hr.at_ k hlt
      have hbw := hr.lt
      have HRb' : Hid (rb = true → StepB ⟨O.take k, next⟩ (O.getD k default)) := fun h => may_step ((HRb.out.1 h).1.perm HPm.out.symm) HSorted.out hlt HI.out
      have HTake : Hid (O.take (k + 1) = O.take k ++ [O.getD k default]) := Lib.hid (by
        rw [List.take_succ_eq_append_getElem hlt]
        congr 2
        simp [List.getD, hlt])
      have HLe : Hid (∀ m ∈ O.take k, ltB (O.getD k default).path m.path = false) := fun m hm => by
        obtain ⟨j, hj, rfl⟩ := List.getElem_of_mem hm
        have hj2 : j < k := by rw [List.length_take] at hj; omega
        have := HSorted.out j k hj2 hlt
        rw [List.getElem_take]
        have e : O[j] = O.getD j default := by simp [List.getD, show j < O.length by omega]
        rw [e]
        exact this
      have HTl : Hid ((O.take k).length = k) := Lib.hid (by rw [List.length_take]; omega)
      have hk64 : k < 64 := by omega
      subst e1
      have hki : (k : Int) < (O.length : Int) := by omega
      have hkc : (k : Int) < (co : Int) := by omega
      generalize O.getD k default = n at *
      generalize O.take k = TL at *
      obtain ⟨np, ni, nd⟩ := n
      dsimp only at p0 p1 p2 hpsz
      clear hmemO hr
      have HBw := Lib.hid (HU.out.below HB0.out (by intro x hx; simp at hx; omega))
      have hTl := HT.out.lt
      have hhl := HH.out.lt
      go_upto_region 10 with (fail)
      have hbx := heap_alloc_new wr (.cells #[.string np, .int .i64 ni, .bool nd] 54)
      have HBa : Hid (Below wr.heap.size wr (wr.alloc (.cells #[.string np, .int .i64 ni, .bool nd] 54))) := Lib.hid ((Below.refl _ _).alloc (Nat.le_refl _) _)
      have hsa : (wr.alloc (.cells #[.string np, .int .i64 ni, .bool nd] 54)).heap.size = wr.heap.size + 1 := by simp
      generalize wr.alloc (.cells #[.string np, .int .i64 ni, .bool nd] 54) = Wa at *
      have HBx := Lib.hid hbx
      clear hbx p0 p1 p2
      obtain ⟨n0, n1, n2, _⟩ := b3_cells HBx.out
      go_cut [35, 65] from 35 to 87 (fun iv bv wx => ∃ fb : Bool, iv = .int .i64 (k : Int) ∧ bv = .bool fb ∧ Hid (Below wr.heap.size wr wx) ∧ Hid (wx.heap[wr.heap.size]? = some (.cells #[.string np, .int .i64 ni, .bool nd] 54 (0, 0))) ∧ Hid (fb = true → ¬ StepB ⟨TL, next⟩ ⟨np, ni, nd⟩) ∧ Hid (fb = false → 1 ≤ ni ∧ ni < next ∧ (∀ m ∈ TL, m.id ≠ ni) ∧ np ≠ rootP ∧ parentS (fnd · TL) np = 0))
      case first =>
        have hlk := run_look (P := Tryz.prog) intKey (HH.out.of_block (HBa.out.block _ hhl)) Tryz.underlying84 Tryz.underlying3 (zero_bool Wa) ni
        rw [had_look] at hlk
        replace hlk : (Instr.lookup 84 (.map (some (mb + 1 + 1))) (.int .i64 ni) false).run Tryz.prog Wa = .ok (.bool (TL.any fun n => decide (n.id = ni))) Wa := hlk
        have HAny : Hid ((TL.any fun n => decide (n.id = ni)) = true ↔ ∃ m ∈ TL, m.id = ni) := Lib.hid (by rw [List.any_eq_true]; simp)
        generalize (TL.any fun n => decide (n.id = ni)) = hd at *
        by_cases c1 : ni < 1
        · go_wp2
          go_meet
          case rel => exact ⟨true, rfl, rfl, HBa, HBx, Lib.hid fun _ h => (by have h1 : 1 ≤ ni := h.1; omega), Lib.hid fun h => (by cases h)⟩
        by_cases c2 : ni ≥ next
        · go_wp2
          go_meet
          case rel => exact ⟨true, rfl, rfl, HBa, HBx, Lib.hid fun _ h => (by have h1 : ni < next := h.2.1; omega), Lib.hid fun h => (by cases h)⟩
        cases hd
        · have HNh : Hid (∀ m ∈ TL, m.id ≠ ni) := fun m hm e => by
            have := HAny.out.2 ⟨m, hm, e⟩; cases this
          have hroot := beq_bytes np rootP
          rw [show rootP.toList = [47] by rw [toList_data]; rfl] at hroot
          by_cases c4 : np = rootP
          · have c5 : np = ⟨#[47]⟩ := c4
            subst c5
            clear hroot c4
            go_wp2
            go_meet
            case rel => exact ⟨true, rfl, rfl, HBa, HBx, Lib.hid fun _ h => h.2.2.2.1 rfl, Lib.hid fun h => (by cases h)⟩
          · replace hroot : (np.toList == [47]) = false := by rw [hroot]; exact decide_eq_false c4
            have HRt := Lib.hid c4
            obtain ⟨x, hx⟩ : ∃ x, parentS (fnd · TL) np = x := ⟨_, rfl⟩
            have hpar := tree_parent np Wa (by unfold maxLen; omega) (HT.out.below HBa.out) HI.out.rises.apart ((HM.out.below HBw.out).below HBa.out) hx
            have HPar := Lib.hid hpar
            have HX := Lib.hid hx
            clear c4 hpar hx
            by_cases c5 : x = 0
            · subst c5
              go_wp2_with fail
              with_reducible refine Calls.mono HPar.out ?_
              rintro e W9 ⟨rfl, hB9⟩
              have HB9 := Lib.hid (HBa.out.trans (hB9.mono (by omega)))
              have HBx9 := Lib.hid ((hB9.block wr.heap.size (by omega)).trans HBx.out)
              clear hB9
              go_wp2
              go_meet
              case rel => exact ⟨false, rfl, rfl, HB9, HBx9, Lib.hid fun h => (by cases h), Lib.hid fun _ => ⟨by omega, by omega, HNh.out, HRt.out, HX.out⟩⟩
            · have c6 : (x == 0) = false := by rw [beq_eq_false_iff_ne]; exact c5
              have c7 : (x != 0) = true := by rw [bne, c6]; rfl
              have HX5 := Lib.hid c5
              clear c5
              go_wp2_with fail
              with_reducible refine Calls.mono HPar.out ?_
              rintro e W9 ⟨rfl, hB9⟩
              have HB9 := Lib.hid (HBa.out.trans (hB9.mono (by omega)))
              have HBx9 := Lib.hid ((hB9.block wr.heap.size (by omega)).trans HBx.out)
              clear hB9
              go_wp2
              go_meet
              case rel => exact ⟨true, rfl, rfl, HB9, HBx9, Lib.hid fun _ h => HX5.out (HX.out.symm.trans h.2.2.2.2.1), Lib.hid fun h => (by cases h)⟩
        · go_wp2
          go_meet
          case rel => exact ⟨true, rfl, rfl, HBa, HBx, Lib.hid fun _ h => (by
            obtain ⟨m, h1, h2⟩ := HAny.out.1 (by trivial)
            exact h.2.2.1 m h1 h2), Lib.hid fun h => (by cases h)⟩
      case rest =>
        obtain ⟨fb, rfl, rfl, HB9, HBx9, HBad, HOk⟩ := hcut
        generalize wc = W9 at *
        clear HBa HBx hsa n0 n1 n2
        have hs9 := HB9.out.size
        have hb9 : wr.heap.size < W9.heap.size := (Array.getElem?_eq_some_iff.1 HBx9.out).1
        have HBw9 := Lib.hid (HBw.out.trans (HB9.out.mono HBw.out.size))
        cases fb
        · have HG := Lib.hid (HOk.out rfl)
          have hT9 := HT.out.below HB9.out
          have HLk : Hid (∀ X, Below W9.heap.size W9 X → (Instr.lookup 61 (.map (some mb)) (.string np) true).run Tryz.prog X = .ok (.tuple #[((fnd np TL).map ndV).getD (.agg #[.string ⟨#[]⟩, .int .i64 0, .bool false]), .bool (fnd np TL).isSome]) X) := fun X h => (hT9.below h).look HI.out.rises.apart np
          have hc0 := hT9.facts.1
          obtain ⟨n0, n1, n2, _⟩ := b3_cells HBx9.out
          clear hT9 HBad HOk
          go_upto_region 12 with (fail)
          go_cut [11, 12, 35] from 35 to 87 (fun _ okv iv wx => okv = .bool (fnd np TL).isSome ∧ iv = .int .i64 (k : Int) ∧ Hid (Below W9.heap.size W9 wx))
          case first =>
            have hk1 := HLk.out W9.drew (below_drewN' (Below.refl _ _) 1)
            have hk2 := HLk.out (W9.alloc (.cells #[.string ⟨#[]⟩, .int .i64 0, .bool false] 54)).drew (below_drewN' ((Below.refl _ _).alloc (Nat.le_refl _) _) 1)
            have ht9 : mb + 1 < W9.heap.size := by have := hTl.1; omega
            have HBm : Hid (∀ o, Below W9.heap.size W9 ((W9.alloc o).drew)) := fun o => below_drewN' ((Below.refl _ _).alloc (Nat.le_refl _) _) 1
            cases hf : fnd np TL with
            | none =>
              rw [hf] at hk1 hk2
              replace hk1 : (Instr.lookup 61 (.map (some mb)) (.string np) true).run Tryz.prog W9.drew = .ok (.tuple #[.agg #[.string ⟨#[]⟩, .int .i64 0, .bool false], .bool false]) W9.drew := hk1
              replace hk2 : (Instr.lookup 61 (.map (some mb)) (.string np) true).run Tryz.prog (W9.alloc (.cells #[.string ⟨#[]⟩, .int .i64 0, .bool false] 54)).drew = .ok (.tuple #[.agg #[.string ⟨#[]⟩, .int .i64 0, .bool false], .bool false]) (W9.alloc (.cells #[.string ⟨#[]⟩, .int .i64 0, .bool false] 54)).drew := hk2
              have HF := Lib.hid hf
              clear hf
              go_region
              all_goals
                go_wp2
                go_meet
                case rel => exact ⟨by rw [HF.out]; rfl, rfl, HBm.out _⟩
            | some m =>
              obtain ⟨mp, mi, md⟩ := m
              rw [hf] at hk1 hk2
              replace hk1 : (Instr.lookup 61 (.map (some mb)) (.string np) true).run Tryz.prog W9.drew = .ok (.tuple #[.agg #[.string mp, .int .i64 mi, .bool md], .bool true]) W9.drew := hk1
              replace hk2 : (Instr.lookup 61 (.map (some mb)) (.string np) true).run Tryz.prog (W9.alloc (.cells #[.string ⟨#[]⟩, .int .i64 0, .bool false] 54)).drew = .ok (.tuple #[.agg #[.string mp, .int .i64 mi, .bool md], .bool true]) (W9.alloc (.cells #[.string ⟨#[]⟩, .int .i64 0, .bool false] 54)).drew := hk2
              have HF := Lib.hid hf
              clear hf
              go_region
              all_goals
                go_wp2
                go_meet
                case rel => exact ⟨by rw [HF.out]; rfl, rfl, HBm.out _⟩
          case rest =>
            obtain ⟨rfl, rfl, HB12⟩ := hcut
            generalize wc = W12 at *
            have HBx12 := Lib.hid ((HB12.out.block wr.heap.size hb9).trans HBx9.out)
            have HBr12 := Lib.hid (HB9.out.trans (HB12.out.mono hs9))
            have HBw12 := Lib.hid (HBw9.out.trans (HB12.out.mono (by have := HBw9.out.size; exact this)))
            have hb12 : wr.heap.size < W12.heap.size := (Array.getElem?_eq_some_iff.1 HBx12.out).1
            have HFq : Hid ((fnd np TL).isSome = false → fnd np TL = none) := fun h => by
              cases hf : fnd np TL with
              | none => rfl
              | some m => rw [hf] at h; cases h
            have HFt : Hid ((fnd np TL).isSome = true → ¬ StepB ⟨TL, next⟩ ⟨np, ni, nd⟩) := fun h hst => by
              have h6 : fnd np TL = none := hst.2.2.2.2.2
              rw [h6] at h; cases h
            generalize (fnd np TL).isSome = qb at *
            clear HLk hc0 n0 n1 n2 HB12
            cases qb
            · have hnone := HFq.out rfl
              obtain ⟨g1, g2, g3, g4, g5⟩ := HG.out
              have hst : StepB ⟨TL, next⟩ ⟨np, ni, nd⟩ := ⟨g1, g2, g3, g4, g5, hnone⟩
              have HI2 : Hid (TInv ⟨O.take (k + 1), next⟩) := Lib.hid (by rw [HTake.out]; exact step_inv HI.out hst (by show TL.length < 64; rw [HTl.out]; exact hk64) HLe.out)
              have hnp : ∀ m ∈ TL, m.path ≠ np := fnd_none hnone
              obtain ⟨K, hKp, hKA⟩ := HT.out.below HBr12.out
              have hKn : ∀ m ∈ K, m.path ≠ np := fun m hm => hnp m (hKp.mem_iff.1 hm)
              have hH12 := HH.out.of_block (HBr12.out.block _ hhl)
              obtain ⟨ob1, hput1⟩ := run_put (P := Tryz.prog) intKey hH12 Tryz.underlying84 Tryz.underlying3 ni (.bool true)
              obtain ⟨p1, p2⟩ := hput1 W12 rfl
              replace p1 : (Instr.mapUpdate 84 (.map (some (mb + 1 + 1))) (.int .i64 ni) (.bool true)).run Tryz.prog W12 = .ok () (setBlock W12 (mb + 1 + 1) ob1) := p1
              have htl12 := hKA.lt
              have hml12 := hKA.ltm
              have hhl12 : mb + 1 + 1 < W12.heap.size := hH12.lt
              rw [had_put (n := ⟨np, ni, nd⟩) g3] at p2
              have hneq : mb ≠ mb + 1 + 1 := by omega
              have hneq2 : mb + 1 ≠ mb + 1 + 1 := by omega
              have hbne : wr.heap.size ≠ mb + 1 + 1 := by omega
              have hbne2 : wr.heap.size ≠ mb := by omega
              have q1 : (setBlock W12 (mb + 1 + 1) ob1).heap[mb]? = W12.heap[mb]? := heap_setBlock_ne _ _ _ _ hneq
              have q2 : (setBlock W12 (mb + 1 + 1) ob1).heap[mb + 1]? = W12.heap[mb + 1]? := heap_setBlock_ne _ _ _ _ hneq2
              have q3 := (heap_setBlock_ne W12 (mb + 1 + 1) wr.heap.size ob1 hbne).trans HBx12.out
              obtain ⟨ob2, hput2⟩ := run_put (P := Tryz.prog) strKey (hKA.map.of_block q1) Tryz.underlying61 Tryz.underlying9 np (.agg #[.string np, .int .i64 ni, .bool nd])
              obtain ⟨p3, p4⟩ := hput2 (setBlock W12 (mb + 1 + 1) ob1).drew rfl
              replace p3 : (Instr.mapUpdate 61 (.map (some mb)) (.string np) (.agg #[.string np, .int .i64 ni, .bool nd])).run Tryz.prog (setBlock W12 (mb + 1 + 1) ob1).drew = .ok () (setBlock (setBlock W12 (mb + 1 + 1) ob1).drew mb ob2) := p3
              have hend : TreeP (setBlock (setBlock W12 (mb + 1 + 1) ob1).drew mb ob2) (mb + 1) mb ⟨O.take (k + 1), next⟩ := by
                rw [HTake.out]
                refine ⟨K ++ [⟨np, ni, nd⟩], hKp.append_right _, ⟨(heap_setBlock_ne _ _ _ _ (by omega)).trans (q2.trans hKA.cells), ?_⟩⟩
                have h4 := p4
                have e := mput_ents ⟨np, ni, nd⟩ K
                rw [putN_new hKn] at e
                rw [← e]
                exact h4
              have hend2 : MapIs intKey (setBlock (setBlock W12 (mb + 1 + 1) ob1).drew mb ob2) (mb + 1 + 1) (hadM (O.take (k + 1))) := by
                rw [HTake.out]
                exact p2.of_block (heap_setBlock_ne _ _ _ _ (by omega))
              have HEnd := Lib.hid hend
              have HEnd2 := Lib.hid hend2
              have HUe : Hid (Turn [mb + 1, mb, mb + 1 + 1] W0 (setBlock (setBlock W12 (mb + 1 + 1) ob1).drew mb ob2)) := Lib.hid (((((HU.out.trans (.of_below HBr12.out)).setBlock (r := mb + 1 + 1) (.inl (by simp)) ob1).drewN 1).setBlock (r := mb) (.inl (by simp)) ob2))
              obtain ⟨n0, n1, n2, _⟩ := b3_cells HBx12.out
              obtain ⟨r0, r1, r2, _⟩ := b3_cells q3
              have rc : (setBlock W12 (mb + 1 + 1) ob1).cell? ⟨mb + 1, 0, none⟩ = some (.map (some mb)) := by unfold World.cell?; rw [q2, hKA.cells]; rfl
              clear hnone hst hnp hKp hKA hKn hH12 hput1 hput2 p2 p4 q1 q2 q3 hend hend2 g1 g2 g3 g4 g5
              go_wp2
              go_region
              all_goals
                go_wp2
                exact ⟨⟨k + 1, by omega, by go_num, HI2, HEnd, HEnd2, HUe⟩, by simp [intOf]; omega⟩
            · have hr0 : rb = false := by
                cases rb
                · rfl
                · exact absurd (HRb'.out rfl) (HFt.out rfl)
              have HN := Lib.hid (HNo.out hr0 W12 HBw12.out)
              clear hr0
              go_wp2
              exact HN.out
        · have hr0 : rb = false := by
            cases rb
            · rfl
            · exact absurd (HRb'.out rfl) (HBad.out rfl)
          have HN := Lib.hid (HNo.out hr0 W9 HBw9.out)
          clear hr0 HBad HOk
          go_wp2
          exact HN.out
    · obtain rfl : k = O.length := by omega
      have hlt' : decide ((O.length : Int) < (O.length : Int)) = false := by simp
      have hI := HI.out
      have hT := HT.out
      rw [List.take_length] at hI hT
      have hr1 : rb = true := HRb.out.2 ⟨(MayL.of_inv hI).perm HPm.out, by omega⟩
      have HBf := Lib.hid (HU.out.below HB0.out (by intro x hx; simp at hx; omega))
      have HFin : Hid (Ans (.returned (.tuple #[.pointer (some ⟨mb + 1, 0, none⟩), .int .i64 0])) wr) := Lib.hid (by
        rw [← HAns.out]
        exact ⟨fun _ => ⟨mb + 1, mb, O, rfl, HPm.out, hI, hT, by omega, by omega⟩, fun h => (by rw [hr1] at h; cases h), HBf.out⟩)
      clear hlt hI hT hr1
      go_wp2
      exact HFin.out
end Go.Proofs.YtahdmkmefeocmaaGreatDoor
