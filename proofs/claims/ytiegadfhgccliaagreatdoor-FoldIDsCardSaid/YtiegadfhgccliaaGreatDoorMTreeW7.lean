/- Walks of package tree: Rename. -/
import Derived.Deep.CutRange
import Derived.Test.YtiegadfhgccliaaGreatDoorMTreeQ
import Derived.Test.YtiegadfhgccliaaGreatDoorMTreeW6
import Derived.Deep.AppendLies
namespace Go.Proofs.YtiegadfhgccliaaGreatDoor
open Go.RowKit Go.Lib
open Go.ChangeMaps (setBlock)

theorem own_rd {w : World} {base : Nat} {e : TypeId} {g cap n : Nat} {L : List Nd} (h : w.ownsRow base e 3 (.slice (some ⟨g, 0, none⟩) n cap) n (cellsN L)) (hn : n = L.length) (h0 : L ≠ []) : RdN w g 0 L ∧ n ≤ cap ∧ base ≤ g := by
  subst hn
  obtain ⟨a, c, hv, hc, hS⟩ := SlN.own h
  have hb : base ≤ g := by
    rcases h.2 with ⟨he, _⟩ | ⟨g', _, _, he, hb, _⟩
    · cases he
    · cases he; exact hb
  cases hv
  rcases hS with h1 | ⟨b, o, e1, h1⟩
  · exact absurd h1 h0
  · cases e1
    exact ⟨h1, hc, hb⟩
set_option maxRecDepth 100000 in
set_option maxHeartbeats 8000000 in
theorem tree_rename (src dst : ByteArray) (w : World) (hs : src.size ≤ 100000) (hd : dst.size ≤ 100000) {tb mb : Nat} {T : TS} (hT : TreeP w tb mb T) (hI : TInv T) (hm : MLen w) :
    Calls Tryz.prog 31 #[.pointer (some ⟨tb, 0, none⟩), .string src, .string dst] w fun e w' => e = .returned (.tuple #[.int .i64 (renS T src dst).2.1, .int .i64 (renS T src dst).2.2]) ∧ TreeP w' tb mb (renS T src dst).1 ∧ Turn [tb, mb] w w' := by
  obtain ⟨x, hx⟩ : ∃ x, canRenS T.L src dst = x := ⟨_, rfl⟩
  have hcan := tree_canren src dst w hs hd hT hI hm hx
  have htm := hT.lt
  have hbq := beq_bytes src dst
  by_cases h0 : x = 0
  · subst h0
    by_cases he : src = dst
    · have hren : renS T src dst = (T, -1, 0) := by unfold renS; rw [if_pos hx, if_pos he]
      rw [hren]
      have HT := Lib.hid hT
      subst he
      clear hT hI hm hx hren hbq htm
      go_enter Tryz.func31, Tryz.ntmps31
      go_wp2_with fail
      refine hcan.mono ?_
      rintro e w1 ⟨rfl, hB1⟩
      go_wp2
      go_ret2
      exact ⟨rfl, HT.out.below hB1, .of_below hB1⟩
    · obtain ⟨X, Y, r⟩ := ren_of hI hx he
      have hren : renS T src dst = (⟨((T.L.filter (movesN src)).map (moveN src dst)).foldl (fun R n => insN n R) (restS T.L src dst), T.nx⟩, goneS T.L dst, 0) := by unfold renS; rw [if_pos hx, if_neg he]
      rw [hren]
      obtain ⟨n0, hn0, hp0⟩ := r.node
      have hf0 : fnd src T.L = some n0 := by rw [← hp0]; exact fnd_mem hI.rises.apart hn0
      have hbq : (src.toList == dst.toList) = false := by rw [hbq]; exact decide_eq_false he
      obtain ⟨p, i, d, hg⟩ := ndV_getD (fnd dst T.L)
      have HTW : Hid (∀ W, Below w.heap.size w W → TreeP W tb mb T) := fun W h => hT.below h
      have HI := Lib.hid hI
      have HR := Lib.hid r
      have HG := Lib.hid hg
      have HF0 := Lib.hid hf0
      have HU : Hid (∀ W, Below w.heap.size w W → Calls Tryz.prog 61 #[.pointer (some ⟨tb, 0, none⟩), .string src] W fun e w' => ∃ (U : List Nd) (v : Value), e = .returned v ∧ U.Perm (T.L.filter (preB src)) ∧ w'.ownsRow W.heap.size 51 3 v U.length (cellsN U) ∧ Below W.heap.size W w') :=
        fun W h => tree_under src W hs (hT.below h) (by have := hI.few; omega) (fun n hn => by have := path_size hI n hn; unfold maxLen; omega)
      obtain ⟨i0, hi, hz0, hz1, hz2⟩ := info_parts info_nd
      obtain ⟨np, ni, nd⟩ := n0
      have hp0' : src = np := Eq.symm hp0
      subst hp0'
      clear hp0
      have HUl : Hid (∀ U : List Nd, U.Perm (T.L.filter (preB src)) → U.length ≤ 64) := fun U h => by
        have h1 := h.length_eq
        have h2 := List.length_filter_le (preB src) T.L
        have := hI.few
        omega
      have HK : Hid (∀ W, Below w.heap.size w W → W.cell? ⟨tb, 0, none⟩ = some (.map (some mb)) ∧ (Instr.lookup 97 (.map (some mb)) (.string src) false).run Tryz.prog W = .ok ((.agg #[.string src, .int .i64 ni, .bool nd])) W) := fun W h => by
        refine ⟨(hT.below h).facts.1, ?_⟩
        have := (hT.below h).look1 hI.rises.apart src
        rw [hf0] at this
        exact this
      clear hT hI hm hx hren hg hf0 hn0 r
      obtain ⟨b, hf⟩ : ∃ b, (fnd dst T.L).isSome = b := ⟨_, rfl⟩
      have HGo : Hid (goneS T.L dst = if b then i else -1) := by
        subst hf
        have := HG.out
        unfold goneS
        cases h : fnd dst T.L with
        | none => exact Lib.hid rfl
        | some m =>
          rw [h] at this
          have e := Value.agg.inj this
          simp at e
          exact Lib.hid e.2.1
      have HF := Lib.hid hf
      clear hf
      go_enter Tryz.func31, Tryz.ntmps31
      go_wp2_with fail
      refine hcan.mono ?_
      rintro e w1 ⟨rfl, hB1⟩
      have hT1 := HTW.out w1 hB1
      have hlk := hT1.look HI.out.rises.apart dst
      rw [HG.out, HF.out] at hlk
      have hc0 := hT1.facts.1
      have htb := hT1.lt.1
      clear hT1
      go_upto_if 33 with (fail)
      go_cut [9] from 34 to 35 (fun g wx => g = .int .i64 (goneS T.L dst) ∧ Hid (Below w.heap.size w wx))
      case first =>
        have hBW : Below w.heap.size w (w1.alloc (.cells #[.string p, .int .i64 i, .bool d] 51)) := hB1.alloc hB1.size _
        cases b
        · have HGo2 := Lib.hid (show goneS T.L dst = -1 from HGo.out)
          go_wp2
          go_meet
          case rel => exact ⟨by rw [HGo2.out], Lib.hid hBW⟩
        · have HGo2 := Lib.hid (show goneS T.L dst = i from HGo.out)
          go_wp2
          go_meet
          case rel => exact ⟨by rw [HGo2.out], Lib.hid hBW⟩
      case rest =>
        obtain ⟨rfl, HBW⟩ := hcut
        have hB1s := hB1.size
        clear HGo HG HF hlk hc0 htb hB1
        generalize wc = W at *
        go_upto_region 10 with (fail)
        have HBD := Lib.hid (below_drewN' HBW.out 1)
        obtain ⟨hc1, hl1⟩ := HK.out _ HBW.out
        go_cut [46, 47, 48] from 36 to 48 (fun s n k wx => ∃ (gg cap : Nat) (U : List Nd), s = .slice (some ⟨gg, 0, none⟩) (U.length + 1) cap ∧ n = .int .i64 (U.length + 1 : Nat) ∧ k = .int .i64 0 ∧ Hid (Below w.heap.size w wx) ∧ Hid (U.Perm (T.L.filter (preB src))) ∧ U.length ≤ 64 ∧ U.length + 1 ≤ cap ∧ Hid (w.heap.size ≤ gg) ∧ Hid (RdN wx gg 0 (U ++ [⟨src, ni, nd⟩])))
        case first =>
          go_region_held3 (fun w' => w'.cell? ⟨tb, 0, none⟩ = some (.map (some mb)) ∧ (Instr.lookup 97 (.map (some mb)) (.string src) false).run Tryz.prog w' = .ok (.agg #[.string src, .int .i64 ni, .bool nd]) w') (first | (go_split_ands; exact ⟨hc1, hl1⟩) | exact HK.out _ HBW.out | exact HK.out _ HBD.out | exact HK.out _ (HBD.out.alloc HBD.out.size _) | exact HK.out _ HB2.out | exact HK.out _ (HB2.out.alloc HB2.out.size _) | exact HK.out _ HB3.out) (first | (go_at_call 61; refine (HU.out _ (by first | exact HBD.out | exact HBD.out.alloc HBD.out.size _)).mono ?_; rintro e w2 ⟨U, v, rfl, hU, hO, hB2⟩; have HB2 := Lib.hid (blw (by first | exact HBD.out | exact HBD.out.alloc HBD.out.size _) hB2); have HU2 := Lib.hid hU; have HO2 := Lib.hid hO; have hUl := HUl.out U hU; have HBl := Lib.hid hB2; have hws : W.heap.size ≤ w2.heap.size := Nat.le_trans (by first | exact Nat.le_refl _ | (show W.heap.size ≤ (W.alloc _).heap.size; simp)) hB2.size; clear hU hO hB2) | (refine step_append_lies _ (by rfl) _ _ _ (by rfl) (W.heap.size) 51 i0 _ 3 32 Tryz.underlying42 hi hz0 hz1 hz2 rfl (by omega) v U.length (cellsN U) (by rfl) (HO2.out.alloc _) ⟨w2.heap.size, 0, none⟩ 1 1 [.string src, .int .i64 ni, .bool nd] (by rfl) (by rfl) (World.news_of_block (cs := #[.string src, .int .i64 ni, .bool nd]) (t := 51) (fr := (0, 0)) (heap_alloc_new w2 _)) (by intro u hu; simp at hu; rcases hu with rfl | rfl | rfl <;> rfl) (by omega) (by unfold maxLen; omega) (by omega) (by simp; have := hws; omega) (w2.heap.size + 1) (by simp) ?_; intro gg cap w3 hown3 hgrow3 hat3 hlt3; have HB3 := Lib.hid (Below.grown (HB2.out.alloc HB2.out.size _) hgrow3 (by have := HBW.out.size; have := hws; first | omega | (simp; omega)) fun k hk => Nat.le_trans (by have := HBW.out.size; first | exact this | (show w.heap.size ≤ (W.alloc _).heap.size; simp; omega)) ((HO2.out).lt k hk).1); have HR3 := Lib.hid (own_rd (L := U ++ [⟨src, ni, nd⟩]) (by rw [cellsN_snoc]; exact hown3) (by simp) (by simp)); clear hown3 hgrow3 hat3 hlt3) | (refine step_append_lies _ (by rfl) _ _ _ (by rfl) (W.heap.size + 1) 51 i0 _ 3 32 Tryz.underlying42 hi hz0 hz1 hz2 rfl (by omega) v U.length (cellsN U) (by rfl) (by have h : w2.ownsRow (W.alloc (.cells #[.string src, .int .i64 ni, .bool nd] 51)).heap.size _ _ _ _ _ := HO2.out; simpa using h) ⟨W.heap.size, 0, none⟩ 1 1 [.string src, .int .i64 ni, .bool nd] (by rfl) (by rfl) (World.news_of_block (cs := #[.string src, .int .i64 ni, .bool nd]) (t := 51) (fr := (0, 0)) ((HBl.out.block W.heap.size (by simp)).trans (heap_alloc_new W _))) (by intro u hu; simp at hu; rcases hu with rfl | rfl | rfl <;> rfl) (by omega) (by unfold maxLen; omega) (by omega) (by have h : (W.alloc (.cells #[.string src, .int .i64 ni, .bool nd] 51)).heap.size ≤ w2.heap.size := HBl.out.size; simp at h; omega) (w2.heap.size) (by simp) ?_; intro gg cap w3 hown3 hgrow3 hat3 hlt3; have HB3 := Lib.hid (Below.grown (HB2.out) hgrow3 (by have := HBW.out.size; have := hws; first | omega | (simp; omega)) fun k hk => Nat.le_trans (by have := HBW.out.size; first | exact this | (show w.heap.size ≤ (W.alloc _).heap.size; simp; omega)) ((HO2.out).lt k hk).1); have HR3 := Lib.hid (own_rd (L := U ++ [⟨src, ni, nd⟩]) (by rw [cellsN_snoc]; exact hown3) (by simp) (by simp)); clear hown3 hgrow3 hat3 hlt3))
          all_goals
            go_wp2
            go_meet
            case rel => exact ⟨gg, cap, U, rfl, rfl, rfl, HB3, HU2, hUl, HR3.out.2.1, Lib.hid (Nat.le_trans HBW.out.size (Nat.le_trans (by simp) HR3.out.2.2)), Lib.hid HR3.out.1⟩
        case rest =>
          obtain ⟨gg, cap, U, rfl, rfl, rfl, HB2, HU2, hUl, hcap, HGg, HRd⟩ := hcut
          clear HK HBD hc1 hl1 HBW hB1s
          have HV := Lib.hid (moves_perm HI.out HR.out HF0.out HU2.out)
          obtain ⟨V, hV⟩ : ∃ V, U ++ [(⟨src, ni, nd⟩ : Nd)] = V := ⟨_, rfl⟩
          have hVl : V.length = U.length + 1 := by rw [← hV]; simp
          rw [hV] at HV HRd
          clear hV HU2 HF0 HU HUl
          have hV65 : V.length ≤ 65 := by omega
          have hcap2 : V.length ≤ cap := by omega
          have hgn : gg ∉ [tb, mb] := by have := HGg.out; simp; omega
          rw [← hVl] at *
          clear hUl hVl
          obtain ⟨L0, hp0, hTA0⟩ := HTW.out _ HB2.out
          have HP0 := Lib.hid hp0
          have HTA0 := Lib.hid hTA0
          have HT0 : Hid (Turn [tb, mb] w wc) := .of_below HB2.out
          have HPth : Hid (∀ n ∈ V, n.path.size ≤ 64 ∧ src.size ≤ n.path.size) := fun n hn => by
            obtain ⟨h1, h2⟩ := List.mem_filter.1 (HV.out.mem_iff.1 hn)
            have h3 := path_size HI.out n h1
            refine ⟨h3, ?_⟩
            unfold movesN at h2
            rw [Bool.or_eq_true, decide_eq_true_eq] at h2
            rcases h2 with h2 | h2
            · rw [h2]; exact Nat.le_refl _
            · rw [← preB_under HI.out HR.out.s HR.out.x h1] at h2
              exact Nat.le_of_lt (preB_size h2)
          clear hp0 hTA0 HTW
          go_wp2
          go_loopw [48] (fun i wr => ∃ (k : Nat) (K : List Nd), k ≤ V.length ∧ i = .int .i64 (k : Int) ∧ Hid (TreeAt wr tb mb K T.nx) ∧ Hid (Turn [tb, mb] wc wr) ∧ Hid ((V.drop k).foldl (stepR src dst) K = V.foldl (stepR src dst) L0)) (fun i _ => V.length - (intOf i).toNat)
          case atStart => exact ⟨0, L0, by omega, rfl, HTA0, Lib.hid (Turn.refl _ _), Lib.hid rfl⟩
          case round =>
            obtain ⟨k, K, hk, rfl, HTA, HTu, HSt⟩ := hrel
            by_cases hlt : k < V.length
            · obtain ⟨c0, c1, c2⟩ := (HRd.out.turn HTu.out hgn).at_ k hlt
              have hki : (k : Int) < (V.length : Int) := by omega
              have hmem : V.getD k default ∈ V := by simp [List.getD, hlt]
              obtain ⟨hp1, hp2⟩ := HPth.out _ hmem
              have hst := HSt.out
              rw [List.drop_eq_getElem_cons hlt, show V[k] = V.getD k default by simp [List.getD, hlt], List.foldl_cons] at hst
              generalize V.getD k default = n at *
              obtain ⟨np, id0, nd0⟩ := n
              simp only [Nat.zero_add] at c0 c1 c2
              dsimp only at hp1 hp2
              have HSt2 := Lib.hid hst
              have hta := HTA.out
              have htb := hta.lt
              have hmb := hta.ltm
              have hne := hta.ne
              have hc0 := hta.c0
              clear hmem hst HSt
              obtain ⟨X, hX⟩ : ∃ X, X = wr.alloc (.cells #[.string np, .int .i64 id0, .bool nd0] 51) := ⟨_, rfl⟩
              have hXb : ∀ k, k < wr.heap.size → X.drew.heap[k]? = wr.heap[k]? := fun k hk => by rw [hX]; exact Below.heap_alloc _ _ _ hk
              obtain ⟨ob1, hdel⟩ := run_del (P := Tryz.prog) strKey hta.map Tryz.underlying97 Tryz.underlying9 np #[97, 9] rfl 0
              obtain ⟨p1, p2⟩ := hdel X.drew (hXb mb hmb)
              have hXn : X.drew.heap[wr.heap.size]? = some (.cells #[.string np, .int .i64 id0, .bool nd0] 51 (0, 0)) := by rw [hX]; exact heap_alloc_new _ _
              have hXs : X.drew.heap.size = wr.heap.size + 1 := by rw [hX]; simp
              have hTX : Turn [tb, mb] wr X.drew := by rw [hX]; exact (Turn.of_below ((Below.refl _ _).alloc (Nat.le_refl _) _)).drewN 1
              have q1 : (setBlock X.drew mb ob1).heap[tb]? = some (.cells #[.map (some mb), .int .i64 T.nx] 99 (0, 0)) := (heap_setBlock_ne _ _ _ _ hne).trans ((hXb tb htb).trans hta.cells)
              have q2 : (setBlock X.drew mb ob1).heap[wr.heap.size]? = some (.cells #[.string np, .int .i64 id0, .bool nd0] 51 (0, 0)) := (heap_setBlock_ne _ _ _ _ (by omega)).trans hXn
              have q3 := HTu.out.trans (hTX.setBlock (r := mb) (.inl (by simp)) ob1)
              rw [hX] at p1
              have p1 : (Builtin.delete_ #[97, 9] 0 #[.map (some mb), .string np]).run Tryz.prog (wr.alloc (.cells #[.string np, .int .i64 id0, .bool nd0] 51)).drew = .ok (.tuple #[]) (setBlock (wr.alloc (.cells #[.string np, .int .i64 id0, .bool nd0] 51)).drew mb ob1) := p1
              have HP2 := Lib.hid p2
              have HQ1 := Lib.hid q1
              have HQ2 := Lib.hid q2
              have HQ3 := Lib.hid q3
              have HX := Lib.hid hX
              have HTs := Lib.hid HTu.out.size
              clear hdel p2 q1 q2 q3 hXb hXn hXs hTX hta HTA HTu hX
              go_wp2
              go_region
              rw [← HX.out]
              clear HX p1
              generalize setBlock X.drew mb ob1 = W2 at *
              generalize wr.heap.size = B at *
              have hBt : tb ≠ B := by omega
              have hBm : mb ≠ B := by omega
              obtain ⟨g0, _, _, g3⟩ := b3_cells HQ2.out
              have hf0 := g3 0
              have hc0 : W2.cell? ⟨tb, 0, none⟩ = some (.map (some mb)) := by unfold World.cell?; rw [HQ1.out]; rfl
              have hcat : ¬ 9223372036854775807 < dst.size + (np.extract src.size np.size).size := by rw [ByteArray.size_extract]; omega
              have hW3 := heap_setCell_at HQ2.out 0 (.string (dst ++ np.extract src.size np.size))
              have hW3 : (W2.setCell ⟨B, 0, none⟩ (.string (dst ++ np.extract src.size np.size))).heap[B]? = some (.cells #[.string (dst ++ np.extract src.size np.size), .int .i64 id0, .bool nd0] 51 (0, 0)) := hW3
              have hW3t : (W2.setCell ⟨B, 0, none⟩ (.string (dst ++ np.extract src.size np.size))).heap[tb]? = _ := (Below.heap_setCell _ _ _ _ (by simpa using hBt)).trans HQ1.out
              have hW3m : (W2.setCell ⟨B, 0, none⟩ (.string (dst ++ np.extract src.size np.size))).heap[mb]? = W2.heap[mb]? := Below.heap_setCell _ _ _ _ (by simpa using hBm)
              obtain ⟨e0, e1, e2, _⟩ := b3_cells hW3
              have et : (W2.setCell ⟨B, 0, none⟩ (.string (dst ++ np.extract src.size np.size))).cell? ⟨tb, 0, none⟩ = some (.map (some mb)) := by unfold World.cell?; rw [hW3t]; rfl
              have hTw : Turn [tb, mb] wc (W2.setCell ⟨B, 0, none⟩ (.string (dst ++ np.extract src.size np.size))) := HQ3.out.setCell (p := ⟨B, 0, none⟩) (.inr HTs.out) _
              obtain ⟨ob2, hput⟩ := run_put (P := Tryz.prog) strKey HP2.out Tryz.underlying97 Tryz.underlying9 (dst ++ np.extract src.size np.size) (.agg #[.string (dst ++ np.extract src.size np.size), .int .i64 id0, .bool nd0])
              obtain ⟨p3, p4⟩ := hput (W2.setCell ⟨B, 0, none⟩ (.string (dst ++ np.extract src.size np.size))).drew hW3m
              have p3 : (Instr.mapUpdate 97 (.map (some mb)) (.string (dst ++ np.extract src.size np.size)) (.agg #[.string (dst ++ np.extract src.size np.size), .int .i64 id0, .bool nd0])).run Tryz.prog (W2.setCell ⟨B, 0, none⟩ (.string (dst ++ np.extract src.size np.size))).drew = .ok () (setBlock (W2.setCell ⟨B, 0, none⟩ (.string (dst ++ np.extract src.size np.size))).drew mb ob2) := p3
              have hend : TreeAt (setBlock (W2.setCell ⟨B, 0, none⟩ (.string (dst ++ np.extract src.size np.size))).drew mb ob2) tb mb (stepR src dst K ⟨np, id0, nd0⟩) T.nx := by
                refine ⟨(heap_setBlock_ne _ _ _ _ hne).trans hW3t, ?_⟩
                have := p4
                rw [mdel_ents] at this
                unfold stepR
                rw [← mput_ents]
                exact this
              have HEnd := Lib.hid hend
              have HTe := Lib.hid ((hTw.drewN 1).setBlock (r := mb) (.inl (by simp)) ob2)
              clear hW3 hW3t hW3m hput p4 hend hTw HP2 HQ1 HQ2 HQ3 g3
              go_wp2
              go_region
              go_wp2
              exact ⟨⟨k + 1, stepR src dst K ⟨np, id0, nd0⟩, by omega, by go_num, HEnd, HTe, HSt2⟩, by simp [intOf]; omega⟩
            · obtain rfl : k = V.length := by omega
              have hst := HSt.out
              rw [List.drop_length] at hst
              have hst : K = V.foldl (stepR src dst) L0 := hst
              have HSt2 := Lib.hid hst
              have hlt' : decide ((V.length : Int) < (V.length : Int)) = false := by simp
              clear hlt HSt hst
              go_wp2
              go_ret2
              refine ⟨rfl, ⟨K, ?_, HTA.out⟩, HT0.out.trans HTu.out⟩
              rw [HSt2.out]
              exact steps_ren HI.out HR.out HV.out HP0.out
  · have hren : renS T src dst = (T, 0, x) := by unfold renS; rw [hx, if_neg h0]
    rw [hren]
    have HT := Lib.hid hT
    have h1 : (x == 0) = false := by rw [beq_eq_false_iff_ne]; exact h0
    clear hT hren hm h0 hI hx hbq htm
    go_enter Tryz.func31, Tryz.ntmps31
    go_wp2_with fail
    refine hcan.mono ?_
    rintro e w1 ⟨rfl, hB1⟩
    go_wp2
    go_ret2
    exact ⟨rfl, HT.out.below hB1, .of_below hB1⟩
end Go.Proofs.YtiegadfhgccliaaGreatDoor
