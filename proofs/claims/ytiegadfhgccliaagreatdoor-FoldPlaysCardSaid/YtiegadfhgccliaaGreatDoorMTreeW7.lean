/-
  DERIVED: THE SHELF's CONTRACTS AT THIS DUMP, IN PLAIN WORDS (tools/lay-plain.mjs out of 'TryzIterT.lean', which tools/lay-shelf.mjs wrote): THE SAME DECLARATIONS UNDER THE SAME NAMES: 'import', 'namespace', 'open', 'def', 'theorem' AND NOTHING ELSE: no command of the shelf's: FOR A HAND-IN. Each laying: the table of numbers ('.._ren') and one theorem, a field a fact of the dump's own or the kernel's comparison; each contract: ONE APPLICATION.
-/
import Derived.Deep.CutRange
import Derived.Test.YtiegadfhgccliaaGreatDoorMDocL
import Derived.Test.YtiegadfhgccliaaGreatDoorMTreeW6
import Derived.Deep.AppendLies
import Derived.Test.YtiegadfhgccliaaGreatDoorMTreeW2
import Derived.Lib.IndexAny
import Derived.Shelf.SlIter.Nil
import Derived.Shelf.SortM.Plain
import Derived.Shelf.SortM.SortNone
import Derived.Ground.GgzProg
import Derived.Ground.SlgmProg
import Derived.Test.YtiegadfhgccliaaGreatDoorProg
namespace Go.Proofs.YtiegadfhgccliaaGreatDoor
open Go.RowKit Go.Lib
open Go.ChangeMaps (setBlock)

theorem own_rd {w : World} {base : Nat} {e : TypeId} {g cap n : Nat} {L : List Nd} (h : w.ownsRow base e 3 (.slice (some ⟨g, 0, none⟩) n cap) n (cellsN L)) (hn : n = L.length) (h0 : L ≠ []) : RdN w g 0 L ∧ n ≤ cap ∧ base ≤ g := by
  subst hn
  obtain ⟨a, c, hv, hc, hS⟩ := SlN.own h
  have hb : base ≤ g := by
    rcases h.2 with ⟨he, _⟩ | ⟨g', _, _, he, hb, _⟩
    · cases he
    · cases he; exact hb
  cases hv
  rcases hS with h1 | ⟨b, o, e1, h1⟩
  · exact absurd h1 h0
  · cases e1
    exact ⟨h1, hc, hb⟩
set_option maxRecDepth 100000 in
set_option maxHeartbeats 8000000 in
theorem tree_rename (src dst : ByteArray) (w : World) (hs : src.size ≤ 100000) (hd : dst.size ≤ 100000) {tb mb : Nat} {T : TS} (hT : TreeP w tb mb T) (hI : TInv T) (hm : MLen w) :
    Calls Tryz.prog 31 #[.pointer (some ⟨tb, 0, none⟩), .string src, .string dst] w fun e w' => e = .returned (.tuple #[.int .i64 (renS T src dst).2.1, .int .i64 (renS T src dst).2.2]) ∧ TreeP w' tb mb (renS T src dst).1 ∧ Turn [tb, mb] w w' := by
  obtain ⟨x, hx⟩ : ∃ x, canRenS T.L src dst = x := ⟨_, rfl⟩
  have hcan := tree_canren src dst w hs hd hT hI hm hx
  have htm := hT.lt
  have hbq := beq_bytes src dst
  by_cases h0 : x = 0
  · subst h0
    by_cases he : src = dst
    · have hren : renS T src dst = (T, -1, 0) := by unfold renS; rw [if_pos hx, if_pos he]
      rw [hren]
      have HT := Lib.hid hT
      subst he
      clear hT hI hm hx hren hbq htm
      go_enter Tryz.func31, Tryz.ntmps31
      go_wp2_with fail
      refine hcan.mono ?_
      rintro e w1 ⟨rfl, hB1⟩
      go_wp2
      go_ret2
      exact ⟨rfl, HT.out.below hB1, .of_below hB1⟩
    · obtain ⟨X, Y, r⟩ := ren_of hI hx he
      have hren : renS T src dst = (⟨((T.L.filter (movesN src)).map (moveN src dst)).foldl (fun R n => insN n R) (restS T.L src dst), T.nx⟩, goneS T.L dst, 0) := by unfold renS; rw [if_pos hx, if_neg he]
      rw [hren]
      obtain ⟨n0, hn0, hp0⟩ := r.node
      have hf0 : fnd src T.L = some n0 := by rw [← hp0]; exact fnd_mem hI.rises.apart hn0
      have hbq : (src.toList == dst.toList) = false := by rw [hbq]; exact decide_eq_false he
      obtain ⟨p, i, d, hg⟩ := ndV_getD (fnd dst T.L)
      have HTW : Hid (∀ W, Below w.heap.size w W → TreeP W tb mb T) := fun W h => hT.below h
      have HI := Lib.hid hI
      have HR := Lib.hid r
      have HG := Lib.hid hg
      have HF0 := Lib.hid hf0
      have HU : Hid (∀ W, Below w.heap.size w W → Calls Tryz.prog 61 #[.pointer (some ⟨tb, 0, none⟩), .string src] W fun e w' => ∃ (U : List Nd) (v : Value), e = .returned v ∧ U.Perm (T.L.filter (preB src)) ∧ w'.ownsRow W.heap.size 51 3 v U.length (cellsN U) ∧ Below W.heap.size W w') :=
        fun W h => tree_under src W hs (hT.below h) (by have := hI.few; omega) (fun n hn => by have := path_size hI n hn; unfold maxLen; omega)
      obtain ⟨i0, hi, hz0, hz1, hz2⟩ := info_parts info_nd
      obtain ⟨np, ni, nd⟩ := n0
      have hp0' : src = np := Eq.symm hp0
      subst hp0'
      clear hp0
      have HUl : Hid (∀ U : List Nd, U.Perm (T.L.filter (preB src)) → U.length ≤ 64) := fun U h => by
        have h1 := h.length_eq
        have h2 := List.length_filter_le (preB src) T.L
        have := hI.few
        omega
      have HK : Hid (∀ W, Below w.heap.size w W → W.cell? ⟨tb, 0, none⟩ = some (.map (some mb)) ∧ (Instr.lookup 97 (.map (some mb)) (.string src) false).run Tryz.prog W = .ok ((.agg #[.string src, .int .i64 ni, .bool nd])) W) := fun W h => by
        refine ⟨(hT.below h).facts.1, ?_⟩
        have := (hT.below h).look1 hI.rises.apart src
        rw [hf0] at this
        exact this
      clear hT hI hm hx hren hg hf0 hn0 r
      obtain ⟨b, hf⟩ : ∃ b, (fnd dst T.L).isSome = b := ⟨_, rfl⟩
      have HGo : Hid (goneS T.L dst = if b then i else -1) := by
        subst hf
        have := HG.out
        unfold goneS
        cases h : fnd dst T.L with
        | none => exact Lib.hid rfl
        | some m =>
          rw [h] at this
          have e := Value.agg.inj this
          simp at e
          exact Lib.hid e.2.1
      have HF := Lib.hid hf
      clear hf
      go_enter Tryz.func31, Tryz.ntmps31
      go_wp2_with fail
      refine hcan.mono ?_
      rintro e w1 ⟨rfl, hB1⟩
      have hT1 := HTW.out w1 hB1
      have hlk := hT1.look HI.out.rises.apart dst
      rw [HG.out, HF.out] at hlk
      have hc0 := hT1.facts.1
      have htb := hT1.lt.1
      clear hT1
      go_upto_if 33 with (fail)
      go_cut [9] from 34 to 35 (fun g wx => g = .int .i64 (goneS T.L dst) ∧ Hid (Below w.heap.size w wx))
      case first =>
        have hBW : Below w.heap.size w (w1.alloc (.cells #[.string p, .int .i64 i, .bool d] 51)) := hB1.alloc hB1.size _
        cases b
        · have HGo2 := Lib.hid (show goneS T.L dst = -1 from HGo.out)
          go_wp2
          go_meet
          case rel => exact ⟨by rw [HGo2.out], Lib.hid hBW⟩
        · have HGo2 := Lib.hid (show goneS T.L dst = i from HGo.out)
          go_wp2
          go_meet
          case rel => exact ⟨by rw [HGo2.out], Lib.hid hBW⟩
      case rest =>
        obtain ⟨rfl, HBW⟩ := hcut
        have hB1s := hB1.size
        clear HGo HG HF hlk hc0 htb hB1
        generalize wc = W at *
        go_upto_region 10 with (fail)
        have HBD := Lib.hid (below_drewN' HBW.out 1)
        obtain ⟨hc1, hl1⟩ := HK.out _ HBW.out
        go_cut [46, 47, 48] from 36 to 48 (fun s n k wx => ∃ (gg cap : Nat) (U : List Nd), s = .slice (some ⟨gg, 0, none⟩) (U.length + 1) cap ∧ n = .int .i64 (U.length + 1 : Nat) ∧ k = .int .i64 0 ∧ Hid (Below w.heap.size w wx) ∧ Hid (U.Perm (T.L.filter (preB src))) ∧ U.length ≤ 64 ∧ U.length + 1 ≤ cap ∧ Hid (w.heap.size ≤ gg) ∧ Hid (RdN wx gg 0 (U ++ [⟨src, ni, nd⟩])))
        case first =>
          go_region_held3 (fun w' => w'.cell? ⟨tb, 0, none⟩ = some (.map (some mb)) ∧ (Instr.lookup 97 (.map (some mb)) (.string src) false).run Tryz.prog w' = .ok (.agg #[.string src, .int .i64 ni, .bool nd]) w') (first | (go_split_ands; exact ⟨hc1, hl1⟩) | exact HK.out _ HBW.out | exact HK.out _ HBD.out | exact HK.out _ (HBD.out.alloc HBD.out.size _) | exact HK.out _ HB2.out | exact HK.out _ (HB2.out.alloc HB2.out.size _) | exact HK.out _ HB3.out) (first | (go_at_call 61; refine (HU.out _ (by first | exact HBD.out | exact HBD.out.alloc HBD.out.size _)).mono ?_; rintro e w2 ⟨U, v, rfl, hU, hO, hB2⟩; have HB2 := Lib.hid (blw (by first | exact HBD.out | exact HBD.out.alloc HBD.out.size _) hB2); have HU2 := Lib.hid hU; have HO2 := Lib.hid hO; have hUl := HUl.out U hU; have HBl := Lib.hid hB2; have hws : W.heap.size ≤ w2.heap.size := Nat.le_trans (by first | exact Nat.le_refl _ | (show W.heap.size ≤ (W.alloc _).heap.size; simp)) hB2.size; clear hU hO hB2) | (refine step_append_lies _ (by rfl) _ _ _ (by rfl) (W.heap.size) 51 i0 _ 3 32 Tryz.underlying42 hi hz0 hz1 hz2 rfl (by omega) v U.length (cellsN U) (by rfl) (HO2.out.alloc _) ⟨w2.heap.size, 0, none⟩ 1 1 [.string src, .int .i64 ni, .bool nd] (by rfl) (by rfl) (World.news_of_block (cs := #[.string src, .int .i64 ni, .bool nd]) (t := 51) (fr := (0, 0)) (heap_alloc_new w2 _)) (by intro u hu; simp at hu; rcases hu with rfl | rfl | rfl <;> rfl) (by omega) (by unfold maxLen; omega) (by omega) (by simp; have := hws; omega) (w2.heap.size + 1) (by simp) ?_; intro gg cap w3 hown3 hgrow3 hat3 hlt3; have HB3 := Lib.hid (Below.grown (HB2.out.alloc HB2.out.size _) hgrow3 (by have := HBW.out.size; have := hws; first | omega | (simp; omega)) fun k hk => Nat.le_trans (by have := HBW.out.size; first | exact this | (show w.heap.size ≤ (W.alloc _).heap.size; simp; omega)) ((HO2.out).lt k hk).1); have HR3 := Lib.hid (own_rd (L := U ++ [⟨src, ni, nd⟩]) (by rw [cellsN_snoc]; exact hown3) (by simp) (by simp)); clear hown3 hgrow3 hat3 hlt3) | (refine step_append_lies _ (by rfl) _ _ _ (by rfl) (W.heap.size + 1) 51 i0 _ 3 32 Tryz.underlying42 hi hz0 hz1 hz2 rfl (by omega) v U.length (cellsN U) (by rfl) (by have h : w2.ownsRow (W.alloc (.cells #[.string src, .int .i64 ni, .bool nd] 51)).heap.size _ _ _ _ _ := HO2.out; simpa using h) ⟨W.heap.size, 0, none⟩ 1 1 [.string src, .int .i64 ni, .bool nd] (by rfl) (by rfl) (World.news_of_block (cs := #[.string src, .int .i64 ni, .bool nd]) (t := 51) (fr := (0, 0)) ((HBl.out.block W.heap.size (by simp)).trans (heap_alloc_new W _))) (by intro u hu; simp at hu; rcases hu with rfl | rfl | rfl <;> rfl) (by omega) (by unfold maxLen; omega) (by omega) (by have h : (W.alloc (.cells #[.string src, .int .i64 ni, .bool nd] 51)).heap.size ≤ w2.heap.size := HBl.out.size; simp at h; omega) (w2.heap.size) (by simp) ?_; intro gg cap w3 hown3 hgrow3 hat3 hlt3; have HB3 := Lib.hid (Below.grown (HB2.out) hgrow3 (by have := HBW.out.size; have := hws; first | omega | (simp; omega)) fun k hk => Nat.le_trans (by have := HBW.out.size; first | exact this | (show w.heap.size ≤ (W.alloc _).heap.size; simp; omega)) ((HO2.out).lt k hk).1); have HR3 := Lib.hid (own_rd (L := U ++ [⟨src, ni, nd⟩]) (by rw [cellsN_snoc]; exact hown3) (by simp) (by simp)); clear hown3 hgrow3 hat3 hlt3))
          all_goals
            go_wp2
            go_meet
            case rel => exact ⟨gg, cap, U, rfl, rfl, rfl, HB3, HU2, hUl, HR3.out.2.1, Lib.hid (Nat.le_trans HBW.out.size (Nat.le_trans (by simp) HR3.out.2.2)), Lib.hid HR3.out.1⟩
        case rest =>
          obtain ⟨gg, cap, U, rfl, rfl, rfl, HB2, HU2, hUl, hcap, HGg, HRd⟩ := hcut
          clear HK HBD hc1 hl1 HBW hB1s
          have HV := Lib.hid (moves_perm HI.out HR.out HF0.out HU2.out)
          obtain ⟨V, hV⟩ : ∃ V, U ++ [(⟨src, ni, nd⟩ : Nd)] = V := ⟨_, rfl⟩
          have hVl : V.length = U.length + 1 := by rw [← hV]; simp
          rw [hV] at HV HRd
          clear hV HU2 HF0 HU HUl
          have hV65 : V.length ≤ 65 := by omega
          have hcap2 : V.length ≤ cap := by omega
          have hgn : gg ∉ [tb, mb] := by have := HGg.out; simp; omega
          rw [← hVl] at *
          clear hUl hVl
          obtain ⟨L0, hp0, hTA0⟩ := HTW.out _ HB2.out
          have HP0 := Lib.hid hp0
          have HTA0 := Lib.hid hTA0
          have HT0 : Hid (Turn [tb, mb] w wc) := .of_below HB2.out
          have HPth : Hid (∀ n ∈ V, n.path.size ≤ 64 ∧ src.size ≤ n.path.size) := fun n hn => by
            obtain ⟨h1, h2⟩ := List.mem_filter.1 (HV.out.mem_iff.1 hn)
            have h3 := path_size HI.out n h1
            refine ⟨h3, ?_⟩
            unfold movesN at h2
            rw [Bool.or_eq_true, decide_eq_true_eq] at h2
            rcases h2 with h2 | h2
            · rw [h2]; exact Nat.le_refl _
            · rw [← preB_under HI.out HR.out.s HR.out.x h1] at h2
              exact Nat.le_of_lt (preB_size h2)
          clear hp0 hTA0 HTW
          go_wp2
          go_loopw [48] (fun i wr => ∃ (k : Nat) (K : List Nd), k ≤ V.length ∧ i = .int .i64 (k : Int) ∧ Hid (TreeAt wr tb mb K T.nx) ∧ Hid (Turn [tb, mb] wc wr) ∧ Hid ((V.drop k).foldl (stepR src dst) K = V.foldl (stepR src dst) L0)) (fun i _ => V.length - (intOf i).toNat)
          case atStart => exact ⟨0, L0, by omega, rfl, HTA0, Lib.hid (Turn.refl _ _), Lib.hid rfl⟩
          case round =>
            obtain ⟨k, K, hk, rfl, HTA, HTu, HSt⟩ := hrel
            by_cases hlt : k < V.length
            · obtain ⟨c0, c1, c2⟩ := (HRd.out.turn HTu.out hgn).at_ k hlt
              have hki : (k : Int) < (V.length : Int) := by omega
              have hmem : V.getD k default ∈ V := by simp [List.getD, hlt]
              obtain ⟨hp1, hp2⟩ := HPth.out _ hmem
              have hst := HSt.out
              rw [List.drop_eq_getElem_cons hlt, show V[k] = V.getD k default by simp [List.getD, hlt], List.foldl_cons] at hst
              generalize V.getD k default = n at *
              obtain ⟨np, id0, nd0⟩ := n
              simp only [Nat.zero_add] at c0 c1 c2
              dsimp only at hp1 hp2
              have HSt2 := Lib.hid hst
              have hta := HTA.out
              have htb := hta.lt
              have hmb := hta.ltm
              have hne := hta.ne
              have hc0 := hta.c0
              clear hmem hst HSt
              obtain ⟨X, hX⟩ : ∃ X, X = wr.alloc (.cells #[.string np, .int .i64 id0, .bool nd0] 51) := ⟨_, rfl⟩
              have hXb : ∀ k, k < wr.heap.size → X.drew.heap[k]? = wr.heap[k]? := fun k hk => by rw [hX]; exact Below.heap_alloc _ _ _ hk
              obtain ⟨ob1, hdel⟩ := run_del (P := Tryz.prog) strKey hta.map Tryz.underlying97 Tryz.underlying9 np #[97, 9] rfl 0
              obtain ⟨p1, p2⟩ := hdel X.drew (hXb mb hmb)
              have hXn : X.drew.heap[wr.heap.size]? = some (.cells #[.string np, .int .i64 id0, .bool nd0] 51 (0, 0)) := by rw [hX]; exact heap_alloc_new _ _
              have hXs : X.drew.heap.size = wr.heap.size + 1 := by rw [hX]; simp
              have hTX : Turn [tb, mb] wr X.drew := by rw [hX]; exact (Turn.of_below ((Below.refl _ _).alloc (Nat.le_refl _) _)).drewN 1
              have q1 : (setBlock X.drew mb ob1).heap[tb]? = some (.cells #[.map (some mb), .int .i64 T.nx] 99 (0, 0)) := (heap_setBlock_ne _ _ _ _ hne).trans ((hXb tb htb).trans hta.cells)
              have q2 : (setBlock X.drew mb ob1).heap[wr.heap.size]? = some (.cells #[.string np, .int .i64 id0, .bool nd0] 51 (0, 0)) := (heap_setBlock_ne _ _ _ _ (by omega)).trans hXn
              have q3 := HTu.out.trans (hTX.setBlock (r := mb) (.inl (by simp)) ob1)
              rw [hX] at p1
              have p1 : (Builtin.delete_ #[97, 9] 0 #[.map (some mb), .string np]).run Tryz.prog (wr.alloc (.cells #[.string np, .int .i64 id0, .bool nd0] 51)).drew = .ok (.tuple #[]) (setBlock (wr.alloc (.cells #[.string np, .int .i64 id0, .bool nd0] 51)).drew mb ob1) := p1
              have HP2 := Lib.hid p2
              have HQ1 := Lib.hid q1
              have HQ2 := Lib.hid q2
              have HQ3 := Lib.hid q3
              have HX := Lib.hid hX
              have HTs := Lib.hid HTu.out.size
              clear hdel p2 q1 q2 q3 hXb hXn hXs hTX hta HTA HTu hX
              go_wp2
              go_region
              rw [← HX.out]
              clear HX p1
              generalize setBlock X.drew mb ob1 = W2 at *
              generalize wr.heap.size = B at *
              have hBt : tb ≠ B := by omega
              have hBm : mb ≠ B := by omega
              obtain ⟨g0, _, _, g3⟩ := b3_cells HQ2.out
              have hf0 := g3 0
              have hc0 : W2.cell? ⟨tb, 0, none⟩ = some (.map (some mb)) := by unfold World.cell?; rw [HQ1.out]; rfl
              have hcat : ¬ 9223372036854775807 < dst.size + (np.extract src.size np.size).size := by rw [ByteArray.size_extract]; omega
              have hW3 := heap_setCell_at HQ2.out 0 (.string (dst ++ np.extract src.size np.size))
              have hW3 : (W2.setCell ⟨B, 0, none⟩ (.string (dst ++ np.extract src.size np.size))).heap[B]? = some (.cells #[.string (dst ++ np.extract src.size np.size), .int .i64 id0, .bool nd0] 51 (0, 0)) := hW3
              have hW3t : (W2.setCell ⟨B, 0, none⟩ (.string (dst ++ np.extract src.size np.size))).heap[tb]? = _ := (Below.heap_setCell _ _ _ _ (by simpa using hBt)).trans HQ1.out
              have hW3m : (W2.setCell ⟨B, 0, none⟩ (.string (dst ++ np.extract src.size np.size))).heap[mb]? = W2.heap[mb]? := Below.heap_setCell _ _ _ _ (by simpa using hBm)
              obtain ⟨e0, e1, e2, _⟩ := b3_cells hW3
              have et : (W2.setCell ⟨B, 0, none⟩ (.string (dst ++ np.extract src.size np.size))).cell? ⟨tb, 0, none⟩ = some (.map (some mb)) := by unfold World.cell?; rw [hW3t]; rfl
              have hTw : Turn [tb, mb] wc (W2.setCell ⟨B, 0, none⟩ (.string (dst ++ np.extract src.size np.size))) := HQ3.out.setCell (p := ⟨B, 0, none⟩) (.inr HTs.out) _
              obtain ⟨ob2, hput⟩ := run_put (P := Tryz.prog) strKey HP2.out Tryz.underlying97 Tryz.underlying9 (dst ++ np.extract src.size np.size) (.agg #[.string (dst ++ np.extract src.size np.size), .int .i64 id0, .bool nd0])
              obtain ⟨p3, p4⟩ := hput (W2.setCell ⟨B, 0, none⟩ (.string (dst ++ np.extract src.size np.size))).drew hW3m
              have p3 : (Instr.mapUpdate 97 (.map (some mb)) (.string (dst ++ np.extract src.size np.size)) (.agg #[.string (dst ++ np.extract src.size np.size), .int .i64 id0, .bool nd0])).run Tryz.prog (W2.setCell ⟨B, 0, none⟩ (.string (dst ++ np.extract src.size np.size))).drew = .ok () (setBlock (W2.setCell ⟨B, 0, none⟩ (.string (dst ++ np.extract src.size np.size))).drew mb ob2) := p3
              have hend : TreeAt (setBlock (W2.setCell ⟨B, 0, none⟩ (.string (dst ++ np.extract src.size np.size))).drew mb ob2) tb mb (stepR src dst K ⟨np, id0, nd0⟩) T.nx := by
                refine ⟨(heap_setBlock_ne _ _ _ _ hne).trans hW3t, ?_⟩
                have := p4
                rw [mdel_ents] at this
                unfold stepR
                rw [← mput_ents]
                exact this
              have HEnd := Lib.hid hend
              have HTe := Lib.hid ((hTw.drewN 1).setBlock (r := mb) (.inl (by simp)) ob2)
              clear hW3 hW3t hW3m hput p4 hend hTw HP2 HQ1 HQ2 HQ3 g3
              go_wp2
              go_region
              go_wp2
              exact ⟨⟨k + 1, stepR src dst K ⟨np, id0, nd0⟩, by omega, by go_num, HEnd, HTe, HSt2⟩, by simp [intOf]; omega⟩
            · obtain rfl : k = V.length := by omega
              have hst := HSt.out
              rw [List.drop_length] at hst
              have hst : K = V.foldl (stepR src dst) L0 := hst
              have HSt2 := Lib.hid hst
              have hlt' : decide ((V.length : Int) < (V.length : Int)) = false := by simp
              clear hlt HSt hst
              go_wp2
              go_ret2
              refine ⟨rfl, ⟨K, ?_, HTA.out⟩, HT0.out.trans HTu.out⟩
              rw [HSt2.out]
              exact steps_ren HI.out HR.out HV.out HP0.out
  · have hren : renS T src dst = (T, 0, x) := by unfold renS; rw [hx, if_neg h0]
    rw [hren]
    have HT := Lib.hid hT
    have h1 : (x == 0) = false := by rw [beq_eq_false_iff_ne]; exact h0
    clear hT hren hm h0 hI hx hbq htm
    go_enter Tryz.func31, Tryz.ntmps31
    go_wp2_with fail
    refine hcan.mono ?_
    rintro e w1 ⟨rfl, hB1⟩
    go_wp2
    go_ret2
    exact ⟨rfl, HT.out.below hB1, .of_below hB1⟩
end Go.Proofs.YtiegadfhgccliaaGreatDoor
namespace Go.Proofs.YtiegadfhgccliaaGreatDoor
open Go.RowKit Go.Lib
open Go.ChangeMaps (setBlock)

theorem under_any {T : TS} (h : TInv T) {s : ByteArray} {X : List ByteArray} (hs : psplit s = some X) (hX : X ≠ []) {U : List Nd} (hU : U.Perm (T.L.filter (preB s))) : T.L.any (fun n => punder n.path s) = decide (0 < U.length) := by
  rw [Bool.eq_iff_iff, List.any_eq_true, decide_eq_true_eq, List.length_pos_iff_exists_mem]
  constructor
  · rintro ⟨n, h1, h2⟩
    exact ⟨n, hU.mem_iff.2 (List.mem_filter.2 ⟨h1, by rw [preB_under h hs hX h1]; exact h2⟩)⟩
  · rintro ⟨n, h1⟩
    obtain ⟨h2, h3⟩ := List.mem_filter.1 (hU.mem_iff.1 h1)
    exact ⟨n, h2, by rw [← preB_under h hs hX h2]; exact h3⟩
set_option maxRecDepth 100000 in
set_option maxHeartbeats 8000000 in
theorem tree_candrop (s : ByteArray) (dir : Bool) (w : World) (hs : s.size ≤ 100000) {tb mb : Nat} {T : TS} (hT : TreeP w tb mb T) (hI : TInv T) (hm : MLen w) {x : Int} (hx : canDropS T.L s dir = x) :
    Calls Tryz.prog 44 #[.pointer (some ⟨tb, 0, none⟩), .string s, .bool dir] w fun e w' => e = .returned (.int .i64 x) ∧ Below w.heap.size w w' := by
  obtain ⟨i0, d0, x0, hl⟩ : ∃ i d x, lookS (fnd · T.L) s = (i, d, x) := ⟨_, _, _, rfl⟩
  have HLk := Lib.hid (tree_look s w (by unfold maxLen; omega) hT hI.rises.apart hm hl)
  have HU : Hid (∀ W, Below w.heap.size w W → Calls Tryz.prog 61 #[.pointer (some ⟨tb, 0, none⟩), .string s] W fun e w' => ∃ (U : List Nd) (v : Value), e = .returned v ∧ U.Perm (T.L.filter (preB s)) ∧ w'.ownsRow W.heap.size 51 3 v U.length (cellsN U) ∧ Below W.heap.size W w') :=
    fun W h => tree_under s W hs (hT.below h) (by have := hI.few; omega) (fun n hn => by have := path_size hI n hn; unfold maxLen; omega)
  unfold canDropS at hx
  rw [hl] at hx
  dsimp only at hx
  by_cases h0 : x0 = 0
  · subst h0
    rw [if_pos rfl] at hx
    obtain ⟨X, hX, _⟩ := lookS_ok hl
    have hroot := beq_root s
    have hrt := root_split hX
    have HI := Lib.hid hI
    have HX := Lib.hid hX
    clear hT hI hm hl hX
    by_cases hd : d0 = dir
    · subst hd
      have hx : (if decide (s = rootP) || T.L.any (fun n => punder n.path s) then (8 : Int) else 0) = x := by cases d0 <;> exact hx
      cases hr : decide (s = rootP)
      · have hXn : X ≠ [] := by intro e; rw [hr, e] at hrt; cases hrt
        rw [hr, Bool.false_or] at hx
        rw [hr] at hroot
        have HXn := Lib.hid hXn
        have Hx := Lib.hid hx
        clear hrt hr hXn hx
        cases d0
        all_goals
          go_enter Tryz.func44, Tryz.ntmps44
          go_wp2_with fail
          refine HLk.out.mono ?_
          rintro e w1 ⟨rfl, hB1⟩
          go_wp2_with fail
          refine (HU.out _ hB1).mono ?_
          rintro e w2 ⟨U, v, rfl, hU, hO, hB2⟩
          obtain ⟨a, c, rfl, hc, hS⟩ := SlN.own hO
          have hany := under_any HI.out HX.out HXn.out hU
          have hbb := blw hB1 hB2
          have Hx2 := Lib.hid Hx.out
          clear hO hS hB1 hB2 hU
          cases U with
          | nil =>
            have HR := Lib.hid (show (0 : Int) = x by rw [← Hx.out, hany]; rfl)
            clear hany
            go_wp2
            go_ret
            exact ⟨by rw [← HR.out]; rfl, hbb⟩
          | cons u U =>
            have HR := Lib.hid (show (8 : Int) = x by rw [← Hx.out, hany]; simp)
            clear hany
            go_wp2
            go_ret
            exact ⟨by rw [← HR.out]; rfl, hbb⟩
      · rw [hr] at hroot hx
        have HR := Lib.hid (show (8 : Int) = x by rw [← hx]; rfl)
        clear hrt hr hx
        cases d0
        all_goals
          go_enter Tryz.func44, Tryz.ntmps44
          go_wp2_with fail
          refine HLk.out.mono ?_
          rintro e w1 ⟨rfl, hB1⟩
          go_wp2
          go_ret
          exact ⟨by rw [← HR.out]; rfl, hB1⟩
    · cases d0 <;> cases dir
      · exact absurd rfl hd
      · have HR := Lib.hid (show (7 : Int) = x by rw [← hx]; rfl)
        clear hrt hx hd hroot
        go_enter Tryz.func44, Tryz.ntmps44
        go_wp2_with fail
        refine HLk.out.mono ?_
        rintro e w1 ⟨rfl, hB1⟩
        go_wp2
        go_ret
        exact ⟨by rw [← HR.out]; rfl, hB1⟩
      · have HR := Lib.hid (show (6 : Int) = x by rw [← hx]; rfl)
        clear hrt hx hd hroot
        go_enter Tryz.func44, Tryz.ntmps44
        go_wp2_with fail
        refine HLk.out.mono ?_
        rintro e w1 ⟨rfl, hB1⟩
        go_wp2
        go_ret
        exact ⟨by rw [← HR.out]; rfl, hB1⟩
      · exact absurd rfl hd
  · rw [if_neg h0] at hx
    have HR := Lib.hid hx
    have h1 : (x0 == 0) = false := by rw [beq_eq_false_iff_ne]; exact h0
    clear hx h0 hl hT hI hm
    go_enter Tryz.func44, Tryz.ntmps44
    go_wp2_with fail
    refine HLk.out.mono ?_
    rintro e w1 ⟨rfl, hB1⟩
    go_wp2
    go_ret
    exact ⟨by rw [← HR.out]; rfl, hB1⟩

theorem run_field_nd (w : World) (np : ByteArray) (ni : Int) (nd : Bool) : (Instr.field 51 (.agg #[.string np, .int .i64 ni, .bool nd]) 1).run Tryz.prog w = .ok (.int .i64 ni) w := by kernel_rfl
theorem candrop_zero {T : TS} {s : ByteArray} {dir : Bool} (h : canDropS T.L s dir = 0) : ∃ n, fnd s T.L = some n ∧ (lookS (fnd · T.L) s).1 = n.id := by
  unfold canDropS at h
  obtain ⟨i0, d0, x0, hl⟩ : ∃ i d x, lookS (fnd · T.L) s = (i, d, x) := ⟨_, _, _, rfl⟩
  rw [hl] at h ⊢
  dsimp only at h
  by_cases h0 : x0 = 0
  · subst h0
    obtain ⟨X, hX, hor⟩ := lookS_ok hl
    have hrt := root_split hX
    rw [if_pos rfl] at h
    rcases hor with ⟨h1, _⟩ | ⟨_, n, h2, h3, _⟩
    · rw [h1] at hrt
      rw [hrt] at h
      split at h
      · cases h
      · split at h
        · cases h
        · simp at h
    · exact ⟨n, h2, h3⟩
  · rw [if_neg h0] at h; exact absurd h h0
set_option maxRecDepth 100000 in
set_option maxHeartbeats 4000000 in
theorem tree_drop (s : ByteArray) (dir : Bool) (w : World) (hs : s.size ≤ 100000) {tb mb : Nat} {T : TS} (hT : TreeP w tb mb T) (hI : TInv T) (hm : MLen w) :
    Calls Tryz.prog 32 #[.pointer (some ⟨tb, 0, none⟩), .string s, .bool dir] w fun e w' => e = .returned (.tuple #[.int .i64 (dropS T s dir).2.1, .int .i64 (dropS T s dir).2.2]) ∧ TreeP w' tb mb (dropS T s dir).1 ∧ Turn [tb, mb] w w' := by
  have hcan := tree_candrop s dir w hs hT hI hm rfl
  by_cases h0 : canDropS T.L s dir = 0
  · have hmk : dropS T s dir = (⟨T.L.filter fun n => !(decide (n.path = s)), T.nx⟩, (lookS (fnd · T.L) s).1, 0) := by unfold dropS; rw [if_pos h0]
    obtain ⟨n, hfn, hid⟩ := candrop_zero h0
    rw [h0] at hcan
    rw [hmk, hid]
    have HTW : Hid (∀ W, Below w.heap.size w W → TreeP W tb mb T) := fun W h => hT.below h
    have HA := Lib.hid hI.rises.apart
    obtain ⟨np, ni, nd⟩ := n
    have HFn := Lib.hid hfn
    clear hT hmk hm hI h0 hfn hid
    go_enter Tryz.func32, Tryz.ntmps32
    go_wp2_with fail
    refine hcan.mono ?_
    rintro e w1 ⟨rfl, hB1⟩
    have hT1 := HTW.out w1 hB1
    have hlk := hT1.look1 HA.out s
    rw [HFn.out] at hlk
    replace hlk : (Instr.lookup 97 (.map (some mb)) (.string s) false).run Tryz.prog w1 = .ok (.agg #[.string np, .int .i64 ni, .bool nd]) w1 := hlk
    have hfd := run_field_nd w1 np ni nd
    obtain ⟨L, hp, hTA⟩ := hT1
    have hc0 := hTA.c0
    have htb := hTA.lt
    obtain ⟨ob, hdel⟩ := run_del (P := Tryz.prog) strKey hTA.map Tryz.underlying97 Tryz.underlying9 s #[97, 9] rfl 0
    obtain ⟨p1, p2⟩ := hdel w1 rfl
    replace p1 : (Builtin.delete_ #[97, 9] 0 #[.map (some mb), .string s]).run Tryz.prog w1 = .ok (.tuple #[]) (setBlock w1 mb ob) := p1
    have hend : TreeAt (setBlock w1 mb ob) tb mb (delN s L) T.nx := by
      refine ⟨(heap_setBlock_ne _ _ _ _ hTA.ne).trans hTA.cells, ?_⟩
      rw [← mdel_ents]; exact p2
    have HEnd := Lib.hid (show TreeP (setBlock w1 mb ob) tb mb ⟨T.L.filter fun n => !(decide (n.path = s)), T.nx⟩ from ⟨delN s L, hp.filter _, hend⟩)
    have HTu := Lib.hid ((Turn.of_below (bs := [tb, mb]) hB1).setBlock (r := mb) (.inl (by simp)) ob)
    clear hTA hp hdel p2 hend
    go_wp2
    go_ret2
    exact ⟨rfl, HEnd.out, HTu.out⟩
  · have hmk : dropS T s dir = (T, 0, canDropS T.L s dir) := by unfold dropS; rw [if_neg h0]
    rw [hmk]
    have HT := Lib.hid hT
    generalize canDropS T.L s dir = x at *
    have h1 : (x == 0) = false := by rw [beq_eq_false_iff_ne]; exact h0
    clear hT hmk hm h0 hI
    go_enter Tryz.func32, Tryz.ntmps32
    go_wp2_with fail
    refine hcan.mono ?_
    rintro e w1 ⟨rfl, hB1⟩
    go_wp2
    go_ret2
    exact ⟨rfl, HT.out.below hB1, .of_below hB1⟩
set_option maxRecDepth 100000 in
theorem tree_len (w : World) {tb mb : Nat} {T : TS} (hT : TreeP w tb mb T) :
    Calls Tryz.prog 84 #[.pointer (some ⟨tb, 0, none⟩)] w fun e w' => e = .returned (.int .i64 T.L.length) ∧ w' = w := by
  have hc0 := hT.facts.1
  have hlen := fun rt => hT.len rt
  clear hT
  go_enter Tryz.func84, Tryz.ntmps84
  go_wp2
  go_ret
  exact ⟨rfl, rfl⟩
set_option maxRecDepth 100000 in
theorem tree_next (w : World) {tb mb : Nat} {T : TS} (hT : TreeP w tb mb T) :
    Calls Tryz.prog 17 #[.pointer (some ⟨tb, 0, none⟩)] w fun e w' => e = .returned (.int .i64 T.nx) ∧ w' = w := by
  have hc0 := hT.facts.2.1
  clear hT
  go_enter Tryz.func17, Tryz.ntmps17
  go_wp2
  go_ret
  exact ⟨rfl, rfl⟩
end Go.Proofs.YtiegadfhgccliaaGreatDoor
namespace Go.Proofs.YtiegadfhgccliaaGreatDoor
open Go.Lib
set_option linter.unusedVariables false

def aheadB (s : ByteArray) : ByteArray := ⟨(trimSuffix s.data.toList [47]).toArray⟩ ++ ⟨#[47]⟩
def restB (a p : ByteArray) : ByteArray := ⟨(trimPrefix p.data.toList a.data.toList).toArray⟩
def inB (a p : ByteArray) : Bool := hasPrefix p.data.toList a.data.toList && !decide (0 ≤ indexByte (restB a p).data.toList 47)
def sortB (L : List ByteArray) : List ByteArray := ((L.map (·.data.toList)).mergeSort fun x y => decide (x ≤ y)).map mkB
theorem sort_uniq {L M : List ByteArray} (hp : L.Perm M) (hM : M.Pairwise fun a b => ltB a b = true) : sortB L = M := by
  unfold sortB
  have h1 : ((L.map (·.data.toList)).mergeSort fun x y => decide (x ≤ y)) = raws M := by
    refine List.Perm.eq_of_pairwise (le := fun a b : List UInt8 => a ≤ b) (fun a b _ _ => List.le_antisymm) ?_ ?_ ?_
    · have := List.pairwise_mergeSort (le := fun x y : List UInt8 => decide (x ≤ y)) (fun a b c h1 h2 => by simp at h1 h2 ⊢; exact List.le_trans h1 h2) (fun a b => by simp; exact List.le_total a b) (L.map (·.data.toList))
      exact this.imp fun h => by simpa using h
    · refine List.pairwise_map.2 (hM.imp fun {a b} h => ?_)
      unfold ltB at h
      exact List.le_of_lt (by simpa using h)
    · exact (List.mergeSort_perm _ _).trans (hp.map _)
  rw [h1]
  unfold raws
  rw [List.map_map]
  conv => rhs; rw [← List.map_id M]
  exact List.map_congr_left fun x _ => mkB_of x
/-- The rows that List gathers. -/
def gotB (a : ByteArray) (L : List Nd) : List ByteArray := (L.filter fun n => inB a n.path).map fun n => restB a n.path
end Go.Proofs.YtiegadfhgccliaaGreatDoor
namespace Go.Proofs
open Go.Shelf
open Go.RowKit Go.Maps Go.Sort Go.Shelf
def Tryz.keys68_ren : Go.Shelf.Ren := ⟨fun | 7 => 68 | 10 => 98 | n => n, fun | 23 => 97 | 26 => 9 | 3 => 51 | 28 => 133 | 0 => 0 | 27 => 132 | 33 => 104 | 4 => 4 | n => n, fun | n => n⟩
theorem Tryz.keys68 : Go.Proofs.SlLaysZ.n7 Tryz.prog Tryz.keys68_ren := {
  mixed := by kernel_rfl
  f7 := ⟨Tryz.f68.name, by decide, Tryz.func68.trans (congrArg some (by kernel_rfl))⟩
  f10 := ⟨Tryz.f98.name, by decide, Tryz.func98.trans (congrArg some (by kernel_rfl))⟩
  t0 := Tryz.underlying0
  a0 := Tryz.isAgg0
  z0 := Tryz.sizeOf0
  v0 := Tryz.zeroValue0
  t4 := Tryz.underlying4
  a4 := Tryz.isAgg4
  z4 := Tryz.sizeOf4
  v4 := Tryz.zeroValue4
  t23 := Tryz.underlying97
  a23 := Tryz.isAgg97
  z23 := Tryz.sizeOf97
  v23 := Tryz.zeroValue97
  t26 := Tryz.underlying9
  a26 := Tryz.isAgg9
  z26 := Tryz.sizeOf9
  v26 := Tryz.zeroValue9
  t27 := Tryz.underlying132
  a27 := Tryz.isAgg132
  z27 := Tryz.sizeOf132
  v27 := Tryz.zeroValue132
  t28 := Tryz.underlying133
  a28 := Tryz.isAgg133
  z28 := Tryz.sizeOf133
  v28 := Tryz.zeroValue133
  t33 := Tryz.underlying104
  a33 := Tryz.isAgg104
  z33 := Tryz.sizeOf104
  v33 := Tryz.zeroValue104 }
def Tryz.sorted67_ren : Go.Shelf.Ren := ⟨fun | 6 => 67 | 8 => 96 | 9 => 97 | 11 => 120 | 13 => 95 | 12 => 121 | 23 => 118 | 24 => 119 | 14 => 134 | 15 => 135 | 16 => 136 | 17 => 137 | 18 => 138 | 19 => 139 | 20 => 140 | 21 => 141 | 22 => 142 | 25 => 149 | 26 => 129 | 27 => 130 | 28 => 150 | 29 => 151 | 30 => 152 | 31 => 159 | n => n, fun | 26 => 9 | 28 => 133 | 24 => 95 | 0 => 0 | 3 => 3 | 37 => 156 | 48 => 174 | 50 => 176 | 4 => 4 | 40 => 166 | 39 => 165 | 45 => 171 | 5 => 5 | 9 => 9 | 51 => 190 | 55 => 194 | 57 => 204 | 58 => 142 | 33 => 104 | n => n, fun | n => n⟩
theorem Tryz.sorted67 : Go.Proofs.SlLaysZ.n6 Tryz.prog Tryz.sorted67_ren := {
  mixed := by kernel_rfl
  f6 := ⟨Tryz.f67.name, by decide, Tryz.func67.trans (congrArg some (by kernel_rfl))⟩
  f8 := ⟨Tryz.f96.name, by decide, Tryz.func96.trans (congrArg some (by kernel_rfl))⟩
  f11 := ⟨Tryz.f120.name, by decide, Tryz.func120.trans (congrArg some (by kernel_rfl))⟩
  t0 := Tryz.underlying0
  a0 := Tryz.isAgg0
  z0 := Tryz.sizeOf0
  v0 := Tryz.zeroValue0
  t24 := Tryz.underlying95
  a24 := Tryz.isAgg95
  z24 := Tryz.sizeOf95
  v24 := Tryz.zeroValue95
  t26 := Tryz.underlying9
  a26 := Tryz.isAgg9
  z26 := Tryz.sizeOf9
  v26 := Tryz.zeroValue9
  t28 := Tryz.underlying133
  a28 := Tryz.isAgg133
  z28 := Tryz.sizeOf133
  v28 := Tryz.zeroValue133
  i26 := by kernel_rfl }
def Tryz.sort97_ren : Go.Shelf.Ren := ⟨fun | 6 => 97 | 8 => 95 | 9 => 121 | 19 => 118 | 20 => 119 | 21 => 134 | 22 => 135 | 23 => 136 | 24 => 137 | 25 => 138 | 26 => 139 | 27 => 140 | 28 => 141 | 29 => 142 | 36 => 149 | 31 => 129 | 32 => 130 | 37 => 150 | 38 => 151 | 39 => 152 | 41 => 159 | n => n, fun | 27 => 95 | 29 => 9 | 3 => 3 | 32 => 156 | 26 => 95 | 0 => 0 | 44 => 174 | 46 => 176 | 4 => 4 | 36 => 166 | 35 => 165 | 41 => 171 | 5 => 5 | 9 => 9 | 53 => 190 | 57 => 194 | 63 => 204 | 64 => 142 | n => n, fun | n => n⟩
theorem Tryz.sort97 : Go.Proofs.SlLaysM.n6 Tryz.prog Tryz.sort97_ren := {
  mixed := by kernel_rfl
  f6 := ⟨Tryz.f97.name, by decide, Tryz.func97.trans (congrArg some (by kernel_rfl))⟩
  f8 := Tryz.func95.trans (congrArg some (by kernel_rfl))
  f9 := ⟨Tryz.f121.name, by decide, Tryz.func121.trans (congrArg some (by kernel_rfl))⟩
  f19 := Tryz.func118.trans (congrArg some (by kernel_rfl))
  f20 := Tryz.func119.trans (congrArg some (by kernel_rfl))
  f21 := ⟨Tryz.f134.name, by decide, Tryz.func134.trans (congrArg some (by kernel_rfl))⟩
  f22 := ⟨Tryz.f135.name, by decide, Tryz.func135.trans (congrArg some (by kernel_rfl))⟩
  f23 := ⟨Tryz.f136.name, by decide, Tryz.func136.trans (congrArg some (by kernel_rfl))⟩
  f24 := ⟨Tryz.f137.name, by decide, Tryz.func137.trans (congrArg some (by kernel_rfl))⟩
  f25 := ⟨Tryz.f138.name, by decide, Tryz.func138.trans (congrArg some (by kernel_rfl))⟩
  f26 := ⟨Tryz.f139.name, by decide, Tryz.func139.trans (congrArg some (by kernel_rfl))⟩
  f27 := ⟨Tryz.f140.name, by decide, Tryz.func140.trans (congrArg some (by kernel_rfl))⟩
  f28 := ⟨Tryz.f141.name, by decide, Tryz.func141.trans (congrArg some (by kernel_rfl))⟩
  f29 := ⟨Tryz.f142.name, by decide, Tryz.func142.trans (congrArg some (by kernel_rfl))⟩
  f31 := Tryz.func129.trans (congrArg some (by kernel_rfl))
  f32 := Tryz.func130.trans (congrArg some (by kernel_rfl))
  f36 := ⟨Tryz.f149.name, by decide, Tryz.func149.trans (congrArg some (by kernel_rfl))⟩
  f37 := ⟨Tryz.f150.name, by decide, Tryz.func150.trans (congrArg some (by kernel_rfl))⟩
  f38 := ⟨Tryz.f151.name, by decide, Tryz.func151.trans (congrArg some (by kernel_rfl))⟩
  f39 := ⟨Tryz.f152.name, by decide, Tryz.func152.trans (congrArg some (by kernel_rfl))⟩
  f41 := ⟨Tryz.f159.name, by decide, Tryz.func159.trans (congrArg some (by kernel_rfl))⟩
  t0 := Tryz.underlying0
  a0 := Tryz.isAgg0
  z0 := Tryz.sizeOf0
  v0 := Tryz.zeroValue0
  t3 := Tryz.underlying3
  a3 := Tryz.isAgg3
  z3 := Tryz.sizeOf3
  v3 := Tryz.zeroValue3
  t4 := Tryz.underlying4
  a4 := Tryz.isAgg4
  z4 := Tryz.sizeOf4
  v4 := Tryz.zeroValue4
  t5 := Tryz.underlying5
  a5 := Tryz.isAgg5
  z5 := Tryz.sizeOf5
  v5 := Tryz.zeroValue5
  t9 := Tryz.underlying9
  a9 := Tryz.isAgg9
  z9 := Tryz.sizeOf9
  v9 := Tryz.zeroValue9
  t26 := Tryz.underlying95
  a26 := Tryz.isAgg95
  z26 := Tryz.sizeOf95
  v26 := Tryz.zeroValue95
  t27 := Tryz.underlying95
  a27 := Tryz.isAgg95
  z27 := Tryz.sizeOf95
  v27 := Tryz.zeroValue95
  t29 := Tryz.underlying9
  a29 := Tryz.isAgg9
  z29 := Tryz.sizeOf9
  v29 := Tryz.zeroValue9
  t32 := Tryz.underlying156
  a32 := Tryz.isAgg156
  z32 := Tryz.sizeOf156
  v32 := Tryz.zeroValue156
  t35 := Tryz.underlying165
  a35 := Tryz.isAgg165
  z35 := Tryz.sizeOf165
  v35 := Tryz.zeroValue165
  t36 := Tryz.underlying166
  a36 := Tryz.isAgg166
  z36 := Tryz.sizeOf166
  v36 := Tryz.zeroValue166
  t41 := Tryz.underlying171
  a41 := Tryz.isAgg171
  z41 := Tryz.sizeOf171
  v41 := Tryz.zeroValue171
  t44 := Tryz.underlying174
  a44 := Tryz.isAgg174
  z44 := Tryz.sizeOf174
  v44 := Tryz.zeroValue174
  t46 := Tryz.underlying176
  a46 := Tryz.isAgg176
  z46 := Tryz.sizeOf176
  v46 := Tryz.zeroValue176
  t53 := Tryz.underlying190
  a53 := Tryz.isAgg190
  z53 := Tryz.sizeOf190
  v53 := Tryz.zeroValue190
  t57 := Tryz.underlying194
  a57 := Tryz.isAgg194
  z57 := Tryz.sizeOf194
  v57 := Tryz.zeroValue194
  t63 := Tryz.underlying204
  a63 := Tryz.isAgg204
  z63 := Tryz.sizeOf204
  v63 := Tryz.zeroValue204
  t64 := Tryz.underlying142
  a64 := Tryz.isAgg142
  z64 := Tryz.sizeOf142
  v64 := Tryz.zeroValue142 }
theorem Tryz.sorts67 (m : Nat) : AnyZ.SortsIn Tryz.prog Tryz.sorted67_ren Fence.wide m :=
  ⟨fun blk off cap ss W hH hblk hsz => callsIn_wide.2 (AnyM.slices_Sort_string Tryz.sort97 blk off cap ss W hH hblk hsz),
   fun p cap W => callsIn_wide.2 (AnyM.slices_Sort_string_none Tryz.sort97 p cap W)⟩
theorem Tryz.maps_Keys_68 (mb : Option Nat) (W : World) : CallsIn Fence.wide 5 Tryz.prog 68 #[.map mb] W fun e w' => e = .returned (.func (.func 98) #[] #[.pointer (some ⟨W.heap.size, 0, none⟩)]) ∧ w' = W.alloc (.cells #[.map mb] 97) :=
  AnyZ.keys_in Tryz.keys68 Fence.wide 5 trivial rfl mb W
set_option maxHeartbeats 1000000 in
theorem Tryz.slices_Sorted_keys_67_68 {H : Type} (b nn : Nat) (D0 : DataW H) (R : Value → Option (DataW H × List MemPlace)) (w : World) (hown : w.ownsMap Tryz.prog 9 R b nn D0) (hmax : Maps.size D0 ≤ maxLen) (hbytes : Maps.size D0 * 16 ≤ 140737488355328) :
    CallsIn Fence.wide 5 Tryz.prog 67 #[.func (.func 98) #[] #[.pointer (some ⟨w.heap.size, 0, none⟩)]] (w.alloc (.cells #[.map (some b)] 97)) fun e w' => ∃ (v : Value) (ss : List (List UInt8)), e = .returned v ∧ ss.Perm (strKeys D0) ∧
      w'.ownsRow (w.alloc (.cells #[.map (some b)] 97)).heap.size 9 1 v ss.length ((ss.mergeSort (fun x y => decide (x ≤ y))).map encStr) ∧ (v = .slice none 0 0 ↔ ss = []) ∧ Below (w.alloc (.cells #[.map (some b)] 97)).heap.size (w.alloc (.cells #[.map (some b)] 97)) w' := by
  have hbl := hown.lt
  have hseq : SeqGives Fence.wide 2 Tryz.prog 98 #[.pointer (some ⟨w.heap.size, 0, none⟩)] encStr (fun ss => ss.Perm (strKeys D0)) (Maps.size D0) (w.alloc (.cells #[.map (some b)] 97)) :=
    AnyZ.keys_gives (ρ := Tryz.keys68_ren) { Tryz.keys68 with } Fence.wide _ trivial rfl (by omega) w.heap.size b nn D0 _ (by simp) (by simp) (by
      obtain ⟨es, clock, hb, Ft, hs, hD⟩ := hown
      exact ⟨es, clock, (Below.heap_alloc _ _ b hbl).trans hb, Ft, hs, hD⟩)
  exact AnyZ.sorted_in Tryz.sorted67 Fence.wide 5 trivial trivial trivial trivial rfl (by omega) (Tryz.sorts67 _) (enters_of Tryz.func97 (by kernel_rfl) rfl) 98 #[.pointer (some ⟨w.heap.size, 0, none⟩)] trivial (enters_of Tryz.func98 (by kernel_rfl) rfl) _ _ hmax hbytes _ hseq
end Go.Proofs
