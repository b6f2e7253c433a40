/- A state of a law's own: what holds of it between the calls; the parts of a deed; awake. -/
import Derived.Test.YtiegadfhgccliaaGreatDoorMFoldD
import Derived.Test.YtiegadfhgccliaaGreatDoorMDocU
import Derived.Test.YtiegadfhgccliaaGreatDoorMTreeN
import Derived.BigQuiet
import Derived.Test.YtiegadfhgccliaaGreatDoorMTreeM
import Derived.Test.YtiegadfhgccliaaGreatDoorMFoldC
import Derived.Deep.RegionHeld3
import Derived.BigRegion
set_option linter.unusedVariables false
namespace Go.Proofs.YtiegadfhgccliaaGreatDoor
open Go.RowKit Go.Lib
open Go.ChangeMaps (setBlock)

theorem body_next {S : FS} (h : FInv S) : bodyOf S.fs S.t.nx = none := by
  cases hb : bodyOf S.fs S.t.nx with
  | none => rfl
  | some b =>
    obtain ⟨m, hm, e1, _⟩ := h.only _ (bodyOf_some hb)
    have := (h.t.ids m hm).2
    dsimp only at e1
    omega
theorem finv_few {S : FS} (hI : FInv S) : S.fs.length ≤ 64 := by
  have h1 : (S.fs.map (·.1)).Nodup := once_map.1 hI.once
  have h2 : (S.fs.map (·.1)) ⊆ S.t.L.map (·.id) := fun x hx => by
    obtain ⟨f, hf, rfl⟩ := List.mem_map.1 hx
    obtain ⟨n, hn, e, _⟩ := hI.only f hf
    exact List.mem_map.2 ⟨n, hn, e⟩
  have h3 := nodup_len h1 h2
  rw [List.length_map, List.length_map] at h3
  exact Nat.le_trans h3 hI.t.few
/-- A state of the program's and one of the document's, that are one. -/
structure Pair15 (w : World) (sb tb mb lb base sd : Nat) (fa : Option Addr) (S : FS) (N : Nat) : Prop where
  p : FoldP w sb tb mb lb S
  d : DocS w base sd fa S
  i : FInv S
  m : MLen w
  few : FewP N S
theorem Pair15.below {w w' : World} {sb tb mb lb base sd : Nat} {fa : Option Addr} {S : FS} {N : Nat} (h : Pair15 w sb tb mb lb base sd fa S N) (hb : Below w.heap.size w w') : Pair15 w' sb tb mb lb base sd fa S N := ⟨h.p.below hb, h.d.below hb, h.i, h.m.below hb, h.few⟩
set_option maxRecDepth 100000 in
set_option maxHeartbeats 16000000 in
theorem law15_same (w : World) {sb tb mb lb base sd : Nat} {fa : Option Addr} {S : FS} {N : Nat} (h : Pair15 w sb tb mb lb base sd fa S N) (hN2 : N ≤ 10000) :
    Calls Tryz.prog 22 #[.pointer (some ⟨sb, 0, none⟩), .pointer (some ⟨sd, 0, none⟩)] w fun e w' => e = .returned (.bool true) ∧ Below w.heap.size w w' := by
  have HP := Lib.hid h
  have hfew := h.i.t.few
  have hfl := finv_few h.i
  have HTr := Lib.hid (fold_tree w h.p)
  have HSq : Hid (∀ X cb cm, Below w.heap.size w X → TreeP X cb cm S.t → Calls Tryz.prog 52 #[.pointer (some ⟨cb, 0, none⟩), .pointer (some ⟨sd, 0, none⟩)] X fun e w' => e = .returned (.bool true) ∧ Below X.heap.size X w') := Lib.hid fun X cb cm hb ht => by
    obtain ⟨dx, hD, -⟩ := (h.d.below hb).tree
    exact law13_sameq X ⟨ht, hD, h.i.t, h.m.below hb⟩
  have hsd := h.d.lt
  clear h
  go_enter Tryz.func22, Tryz.ntmps22
  go_upto_region 1 with (fail)
  have HTr1 := Lib.hid (fun X (hb : Below w.heap.size w X) => fold_tree X (HP.out.p.below hb))
  go_region_held3 (fun _ => True) (first | go_keep | trivial) (first | (go_at_call 52; refine (HSq.out _ _ _ HB1.out HT1.out).mono ?_; rintro e w2 ⟨rfl, hB2⟩; have HB2 : Hid (Below w.heap.size w w2) := Lib.hid (blw HB1.out hB2); clear hB2) | (go_at_call 14; refine (HTr1.out _ (by first | exact Below.refl _ _ | exact below_drewN' (Below.refl _ _) 1)).mono ?_; rintro e w1 ⟨cb, cm, rfl, hT1, _, _, hB1⟩; have HT1 := Lib.hid hT1; have HB1 : Hid (Below w.heap.size w w1) := Lib.hid ((show Below w.heap.size w _ from by first | exact Below.refl _ _ | exact below_drewN' (Below.refl _ _) 1).trans hB1); clear hT1 hB1))
  all_goals
    clear HTr HTr1 HSq
    go_wp2
    go_loopw [5] (fun i wr => ∃ k : Nat, k ≤ S.t.L.length ∧ i = .int .i64 (k : Int) ∧ Hid (Below w.heap.size w wr)) (fun i _ => S.t.L.length - (intOf i).toNat)
    case atStart => exact ⟨0, by omega, rfl, HB2⟩
    case round =>
      obtain ⟨k, hk, rfl, HBr⟩ := hrel
      have HPr := Lib.hid (HP.out.below HBr.out)
      have hsr := HBr.out.size
      obtain ⟨F, cF, -, f2, -, -⟩ := HPr.out.d.ex
      obtain ⟨a0, c0, t1, t2, t3⟩ := f2.ex
      have ce : wr.cell? ⟨sd, 0, none⟩ = some (.slice a0 S.t.L.length c0) := by unfold World.cell?; rw [t1]; rfl
      obtain ⟨cn1, _⟩ := f2.cell1
      clear f2 t1
      by_cases hlt : k < S.t.L.length
      · obtain ⟨b, o, rfl, p0, p1, p2, hbl⟩ := t3.at_ hlt
        have hki : (k : Int) < (S.t.L.length : Int) := by omega
        have hkc : (k : Int) < (c0 : Int) := by omega
        have hmem : S.t.L.getD k default ∈ S.t.L := by simp [List.getD, hlt]
        have hpsz := path_size HP.out.i.t _ hmem
        have hsome := HP.out.i.isSome hmem
        generalize S.t.L.getD k default = nn at *
        obtain ⟨np, ni, nd⟩ := nn
        dsimp only at p0 p1 p2 hpsz hsome
        have HIs := Lib.hid hsome
        clear t3 hmem hsome
        have hbn := heap_alloc_new wr (.cells #[.string np, .int .i64 ni, .bool nd] 114)
        have hBn : Below wr.heap.size wr (wr.alloc (.cells #[.string np, .int .i64 ni, .bool nd] 114)) := (Below.refl _ _).alloc (Nat.le_refl _) _
        have hsn : (wr.alloc (.cells #[.string np, .int .i64 ni, .bool nd] 114)).heap.size = wr.heap.size + 1 := by simp
        go_upto_region 7 with (fail)
        generalize wr.alloc (.cells #[.string np, .int .i64 ni, .bool nd] 114) = X1 at *
        have HN1 : Hid (∀ Y, Below X1.heap.size X1 Y → Y.cell? ⟨wr.heap.size, 0, none⟩ = some (.string np) ∧ Y.cell? ⟨wr.heap.size, 1, none⟩ = some (.int .i64 ni) ∧ Y.cell? ⟨wr.heap.size, 2, none⟩ = some (.bool nd)) := Lib.hid fun Y hY => by
          obtain ⟨x0, x1, x2, _⟩ := b3_cells ((hY.block wr.heap.size (by omega)).trans hbn)
          exact ⟨x0, x1, x2⟩
        have HX1 := Lib.hid hBn
        have HC1 := Lib.hid (fold_body ni X1 ((HPr.out.p).below hBn) HP.out.i.once HP.out.few (by omega))
        obtain ⟨n0, n1, n2⟩ := HN1.out X1 (Below.refl _ _)
        clear hbn hBn p0 p1 p2 ce cn1
        go_wp2_with fail
        with_reducible refine Calls.mono HC1.out ?_
        rintro e w3 ⟨a3, c3, rfl, hc3, hS3, hB3⟩
        generalize hBA : bodyA S ni = B at *
        generalize hob : (bodyOf S.fs ni).isSome = ob at *
        have HBA := Lib.hid hBA
        have HOb := Lib.hid hob
        have hbb := heap_alloc_new w3 (.cells #[.int .i64 B.size, .slice a3 B.parts.length c3] 47)
        have hBb : Below X1.heap.size X1 (w3.alloc (.cells #[.int .i64 B.size, .slice a3 B.parts.length c3] 47)) := bal hB3 _
        have hsb : (w3.alloc (.cells #[.int .i64 B.size, .slice a3 B.parts.length c3] 47)).heap.size = w3.heap.size + 1 := by simp
        have hs3 := hB3.size
        have HS3 := Lib.hid (SlK.below hS3 ((Below.refl _ _).alloc (Nat.le_refl _) (.cells #[.int .i64 B.size, .slice a3 B.parts.length c3] 47)))
        clear hBA hob HC1 hS3 hB3 n0 n1 n2
        go_upto_region 8 with (fail)
        generalize w3.alloc (.cells #[.int .i64 B.size, .slice a3 B.parts.length c3] 47) = X2 at *
        generalize w3.heap.size = bb at *
        have HN2 : Hid (∀ Y, Below X2.heap.size X2 Y → Y.cell? ⟨bb, 0, none⟩ = some (.int .i64 B.size) ∧ Y.cell? ⟨bb, 1, none⟩ = some (.slice a3 B.parts.length c3)) := Lib.hid fun Y hY => b2_facts ((hY.block bb (by omega)).trans hbb)
        have HX2 := Lib.hid hBb
        have HC2 := Lib.hid (fold_stat np X2 (by omega) ((HPr.out.p).below (blw HX1.out hBb)) HP.out.i.t HP.out.i.once (HPr.out.m.below (blw HX1.out hBb)))
        obtain ⟨n0, n1, n2⟩ := HN1.out X2 hBb
        clear hbb hBb
        go_wp2_with fail
        with_reducible refine Calls.mono HC2.out ?_
        obtain ⟨si, sdr, ss, se, hst⟩ : ∃ si sdr ss se, statS S np = (si, sdr, ss, se) := ⟨_, _, _, _, rfl⟩
        rw [hst]
        rintro e w4 ⟨rfl, hB4⟩
        dsimp only
        have hbs := heap_alloc_new w4 (.cells #[.int .i64 si, .bool sdr, .int .i64 ss] 75)
        have hBs : Below X2.heap.size X2 (w4.alloc (.cells #[.int .i64 si, .bool sdr, .int .i64 ss] 75)) := bal hB4 _
        have hss : (w4.alloc (.cells #[.int .i64 si, .bool sdr, .int .i64 ss] 75)).heap.size = w4.heap.size + 1 := by simp
        have hs4 := hB4.size
        clear HC2 hB4 n0 n1 n2
        go_upto_region 9 with (fail)
        generalize w4.alloc (.cells #[.int .i64 si, .bool sdr, .int .i64 ss] 75) = X3 at *
        generalize w4.heap.size = st4 at *
        have HN3 : Hid (∀ Y, Below X3.heap.size X3 Y → Y.cell? ⟨st4, 0, none⟩ = some (.int .i64 si) ∧ Y.cell? ⟨st4, 1, none⟩ = some (.bool sdr) ∧ Y.cell? ⟨st4, 2, none⟩ = some (.int .i64 ss)) := Lib.hid fun Y hY => by
          obtain ⟨x0, x1, x2, _⟩ := b3_cells ((hY.block st4 (by omega)).trans hbs)
          exact ⟨x0, x1, x2⟩
        have HX3 := Lib.hid (blw HX2.out hBs)
        have HX23 := Lib.hid hBs
        have HC3 := Lib.hid (doc_stat np X3 (by omega) ((HPr.out.d).below (blw HX1.out HX3.out)) HP.out.i (by omega))
        rw [hst] at HC3
        obtain ⟨n0, n1, n2⟩ := HN1.out X3 HX3.out
        clear hbs hBs hst
        go_wp2_with fail
        with_reducible refine Calls.mono HC3.out ?_
        rintro e w5 ⟨rfl, hB5⟩
        have hbx := heap_alloc_new w5 (.cells #[.int .i64 si, .bool sdr, .int .i64 ss] 75)
        have hBx : Below X3.heap.size X3 (w5.alloc (.cells #[.int .i64 si, .bool sdr, .int .i64 ss] 75)) := bal hB5 _
        have hsx : (w5.alloc (.cells #[.int .i64 si, .bool sdr, .int .i64 ss] 75)).heap.size = w5.heap.size + 1 := by simp
        clear HC3 hB5 n0 n1 n2
        go_upto_region 10 with (fail)
        generalize w5.alloc (.cells #[.int .i64 si, .bool sdr, .int .i64 ss] 75) = X4 at *
        generalize w5.heap.size = xb at *
        obtain ⟨n0, n1, n2⟩ := HN1.out X4 (blw HX3.out hBx)
        obtain ⟨b0, b1⟩ := HN2.out X4 (blw HX23.out hBx)
        obtain ⟨s0, s1, s2⟩ := HN3.out X4 hBx
        obtain ⟨y0, y1, y2, -⟩ := b3_cells hbx
        have HF4 := Lib.hid (blw HX1.out (blw HX3.out hBx))
        have HB24 := Lib.hid (blw HX23.out hBx)
        have HN4 : Hid (∀ Y, Below X4.heap.size X4 Y → Y.cell? ⟨wr.heap.size, 1, none⟩ = some (.int .i64 ni) ∧ Y.cell? ⟨bb, 0, none⟩ = some (.int .i64 B.size) ∧ Y.cell? ⟨bb, 1, none⟩ = some (.slice a3 B.parts.length c3)) := Lib.hid fun Y hY => ⟨(HN1.out Y (blw (blw HX3.out hBx) hY)).2.1, HN2.out Y (blw (blw HX23.out hBx) hY)⟩
        clear hbx hBx HX23 HX3 HX2
        cases nd with
        | true =>
          have hobf : ob = false := by rw [show ob = !true from HIs.out]; rfl
          subst hobf
          go_upto_region 12 with (fail)
          go_quiet (fail)
          have HBn := Lib.hid (blw HBr.out (below_drewN HF4.out nq))
          go_wp2
          exact ⟨⟨k + 1, by omega, by go_num, HBn⟩, by simp [intOf]; omega⟩
        | false =>
          have hobf : ob = true := by rw [show ob = !false from HIs.out]; rfl
          subst hobf
          obtain ⟨bv, hbv⟩ := Option.isSome_iff_exists.1 HOb.out
          have hBe : B = bv := by rw [← HBA.out]; unfold bodyA; rw [hbv]; rfl
          subst hBe
          have HMem := Lib.hid (bodyOf_some hbv)
          have HBo := Lib.hid hbv
          have HP4 := Lib.hid (HPr.out.below HF4.out)
          obtain ⟨G, cG, f1, f2, f3, f4⟩ := HP4.out.d.ex
          have hGl : G.length ≤ 1000000 := by have := congrArg List.length f1; rw [List.length_map] at this; omega
          have hmem0 := HMem.out
          rw [← f1] at hmem0
          obtain ⟨f0, hf0, ef0⟩ := List.mem_map.1 hmem0
          obtain ⟨kk, hkk, rfl⟩ := List.getElem_of_mem hf0
          have hgd : G.getD kk default = G[kk] := by simp [List.getD, hkk]
          have hid : (G.getD kk default).id = ni := by rw [hgd]; exact congrArg Prod.fst ef0
          have hbk : (G.getD kk default).bd = B := by rw [hgd]; exact congrArg Prod.snd ef0
          have huq : ∀ j, j < G.length → j ≠ kk → (G.getD j default).id ≠ ni := fun j hj hjk => by
            have ho := HP.out.i.once
            rw [← f1] at ho
            have hp := List.pairwise_iff_getElem.1 ho
            have ej : (G.getD j default) = G[j] := by simp [List.getD, hj]
            rw [← hid, ej, hgd]
            rcases Nat.lt_or_gt_of_ne hjk with h | h
            · have := hp j kk (by simpa using hj) (by simpa using hkk) h; simpa using this
            · have := hp kk j (by simpa using hkk) (by simpa using hj) h; simpa using Ne.symm this
          obtain ⟨g, rfl, q0, q1, q2, hgl, hcc⟩ := rowF_at f3 hkk
          obtain ⟨k1, k2⟩ := f4 _ (show G.getD kk default ∈ G by rw [hgd]; exact hf0)
          rw [hbk] at k1 k2 q1 q2
          have HBd : Hid (∀ Y, Below X4.heap.size X4 Y → Calls Tryz.prog 49 #[.pointer (some ⟨sd, 0, none⟩), .int .i64 ni] Y fun e w' => e = .returned (.pointer (some ⟨g, kk * 3 + 1, none⟩)) ∧ w' = Y) := Lib.hid fun Y hY => by
            refine (doc_body ni Y (f2.below hY) (own_below_any f3 hY) hGl).mono ?_
            rintro e w' ⟨rfl, hor⟩
            rcases hor with ⟨hno, _⟩ | ⟨k', g', hk', hid', _, hfa, rfl⟩
            · exact absurd hid (hno _ (by rw [hgd]; exact hf0))
            · have hkq : k' = kk := by
                rcases Nat.decEq k' kk with h | h
                · exact absurd hid' (huq k' hk' h)
                · exact h
              subst hkq
              injection hfa with hfa
              injection hfa with hfa
              subst hfa
              exact ⟨rfl, rfl⟩
          generalize (G.getD kk default).a = fpa at *
          generalize (G.getD kk default).c = fpc at *
          have HSp := Lib.hid k1.s
          have HN5 : Hid (∀ Y, Below X4.heap.size X4 Y → Y.cell? ⟨g, kk * 3 + 1, none⟩ = some (.int .i64 B.size) ∧ Y.cell? ⟨g, kk * 3 + 2, none⟩ = some (.slice fpa B.parts.length fpc)) := Lib.hid fun Y hY => ⟨(hY.cell (p := ⟨g, kk * 3 + 1, none⟩) hgl).trans q1, (hY.cell (p := ⟨g, kk * 3 + 2, none⟩) hgl).trans q2⟩
          have hBl := HP.out.few _ HMem.out
          have HS4 := Lib.hid (SlK.below HS3.out HB24.out)
          clear f1 f2 f3 f4 hbv hmem0 hf0 ef0 hgd hid hbk huq q0 k1
          go_upto_region 12 with (fail)
          go_region_held3 (fun w' => w'.cell? ⟨wr.heap.size, 1, none⟩ = some (.int .i64 ni) ∧ w'.cell? ⟨bb, 0, none⟩ = some (.int .i64 B.size) ∧ w'.cell? ⟨bb, 1, none⟩ = some (.slice a3 B.parts.length c3) ∧ w'.cell? ⟨g, kk * 3 + 1, none⟩ = some (.int .i64 B.size) ∧ w'.cell? ⟨g, kk * 3 + 2, none⟩ = some (.slice fpa B.parts.length fpc)) (first | go_keep | exact ⟨n1, b0, b1, q1, q2⟩ | exact ⟨(HN4.out _ HZ.out).1, (HN4.out _ HZ.out).2.1, (HN4.out _ HZ.out).2.2, HN5.out _ HZ.out⟩) (first | (go_at_call 54; refine (law12_same B a3 fpa c3 fpc _ (SlK.below HS4.out (by first | exact Below.refl _ _ | exact below_drewN' (Below.refl _ _) 1)) hc3 (SlK.below HSp.out (by first | exact Below.refl _ _ | exact below_drewN' (Below.refl _ _) 1)) k2 (by omega)).mono ?_; rintro e w7 ⟨rfl, hB7⟩; have HZ : Hid (Below X4.heap.size X4 w7) := Lib.hid ((show Below X4.heap.size X4 _ from by first | exact Below.refl _ _ | exact below_drewN' (Below.refl _ _) 1).trans hB7); clear hB7) | (go_at_call 49; refine (HBd.out _ (by first | exact Below.refl _ _ | exact below_drewN' (Below.refl _ _) 1)).mono ?_; rintro e w6 ⟨rfl, rfl⟩))
          all_goals
            have HBn := Lib.hid (blw HBr.out (blw HF4.out HZ.out))
            go_wp2
            exact ⟨⟨k + 1, by omega, by go_num, HBn⟩, by simp [intOf]; omega⟩
      · obtain rfl : k = S.t.L.length := by omega
        have hlt' : decide ((S.t.L.length : Int) < (S.t.L.length : Int)) = false := by simp
        have hUl := usesS_len S.fs [] HP.out.few
        have hFN : S.fs.length * N ≤ 64 * 10000 := Nat.mul_le_mul hfl hN2
        have HU1 := Lib.hid (fold_uses wr HPr.out.p HP.out.i HP.out.few (by omega))
        have HU2 : Hid (∀ Y, Below wr.heap.size wr Y → _) := Lib.hid fun Y hY => doc_uses Y (HPr.out.d.below hY) (by omega) HP.out.few (by omega)
        rw [List.length_nil, Nat.zero_add] at hUl
        generalize usesS S.fs [] = U at *
        clear hlt t3
        go_wp2_with fail
        with_reducible refine Calls.mono HU1.out ?_
        rintro e w3 ⟨a3, c3, rfl, hc3, ⟨hS3, _⟩, hB3⟩
        go_wp2_with fail
        with_reducible refine Calls.mono (HU2.out w3 hB3) ?_
        rintro e w4 ⟨a4, c4, rfl, hc4, hS4, hB4⟩
        have HS3 := Lib.hid (SlK.below hS3 hB4)
        have HS4 := Lib.hid hS4
        have HB4 := Lib.hid (blw hB3 hB4)
        clear hS3 hS4 hB3 hB4 HU1 HU2 ce cn1
        go_wp2
        go_loopw [15] (fun i wx => ∃ j : Nat, j ≤ U.length ∧ i = .int .i64 (j : Int) ∧ Hid (Below w4.heap.size w4 wx)) (fun i _ => U.length - (intOf i).toNat)
        case atStart => exact ⟨0, by omega, rfl, Lib.hid (Below.refl _ _)⟩
        case round =>
          obtain ⟨j, hj, rfl, HBx⟩ := hrel
          by_cases hjl : j < U.length
          · obtain ⟨b1, o1, rfl, hc1, _⟩ := SlI_at (HS3.out.below HBx.out) hjl
            obtain ⟨b2, o2, rfl, hc2, _⟩ := SlI_at (HS4.out.below HBx.out) hjl
            have hji : (j : Int) < (U.length : Int) := by omega
            have hj3 : (j : Int) < (c3 : Int) := by omega
            have hj4 : (j : Int) < (c4 : Int) := by omega
            generalize U.getD j default = u at *
            go_wp2_with fail
            go_quiet (fail)
            have HBq := Lib.hid (below_drewN HBx.out nq)
            go_wp2
            exact ⟨⟨j + 1, by omega, by go_num, HBq⟩, by simp [intOf]; omega⟩
          · obtain rfl : j = U.length := by omega
            have hlt2 : decide ((U.length : Int) < (U.length : Int)) = false := by simp
            have HPx := Lib.hid (HPr.out.below (blw HB4.out HBx.out))
            obtain ⟨F2, cF2, -, g2, -, -⟩ := HPx.out.d.ex
            obtain ⟨cn1, _⟩ := g2.cell1
            have HC1 := Lib.hid (fold_body S.t.nx _ HPx.out.p HP.out.i.once HP.out.few (by omega))
            rw [body_next HP.out.i] at HC1
            have HBf := Lib.hid (blw HBr.out (blw HB4.out HBx.out))
            clear hjl g2
            go_wp2_with fail
            with_reducible refine Calls.mono HC1.out ?_
            rintro e w6 ⟨a6, c6, rfl, _, _, hB6⟩
            have HF := Lib.hid (bal (blw HBf.out hB6) (.cells #[.int .i64 (bodyA S S.t.nx).size, .slice a6 (bodyA S S.t.nx).parts.length c6] 47))
            clear hB6 HC1
            go_wp2
            go_ret
            exact ⟨rfl, HF.out⟩
end Go.Proofs.YtiegadfhgccliaaGreatDoor
namespace Go.Proofs.YtiegadfhgccliaaGreatDoor
open Go.RowKit Go.Lib

/-- A deed, and where its rows lie. -/
structure DeedM where
  e : Ev
  da : Option Addr
  dc : Nat
  l : List Bp
  la : Option Addr
  lc : Nat
instance : Inhabited DeedM := ⟨⟨⟨0, ⟨#[]⟩, ⟨#[]⟩, 0, 0, []⟩, none, 0, [], none, 0⟩⟩
def DeedM.cells (d : DeedM) : List Value := [.int .i64 d.e.op, .string d.e.path, .string d.e.to, .int .i64 d.e.off, .int .i64 d.e.size, .slice d.da d.e.data.length d.dc, .slice d.la d.l.length d.lc]
structure DeedAt (w : World) (b o : Nat) (d : DeedM) : Prop where
  c : ∀ j u, d.cells[j]? = some u → w.cell? ⟨b, o + j, none⟩ = some u
  l : SlPt w d.la d.l
  lc : d.l.length ≤ d.lc
  dc : d.e.data.length ≤ d.dc
  lm : d.lc ≤ 9223372036854775807
  dm : d.dc ≤ 9223372036854775807
theorem DeedAt.lt {w : World} {b o : Nat} {d : DeedM} (h : DeedAt w b o d) (j : Nat) (u : Value) (hu : d.cells[j]? = some u) : b < w.heap.size := by
  have := h.c j u hu
  unfold World.cell? at this
  cases e : w.heap[b]? with
  | none => rw [e] at this; cases this
  | some x => exact (Array.getElem?_eq_some_iff.1 e).1
theorem DeedAt.below {w w' : World} {b o : Nat} {d : DeedM} (h : DeedAt w b o d) (hb : Below w.heap.size w w') : DeedAt w' b o d :=
  ⟨fun j u hu => (hb.cell (p := ⟨b, o + j, none⟩) (h.lt j u hu)).trans (h.c j u hu), h.l.below hb, h.lc, h.dc, h.lm, h.dm⟩
/-- A row of deeds. -/
def SlDd (w : World) (a : Option Addr) (L : List DeedM) : Prop := L = [] ∨ ∃ b o, a = some ⟨b, o, none⟩ ∧ b < w.heap.size ∧ ∀ k, k < L.length → DeedAt w b (o + k * 7) (L.getD k default)
theorem SlDd.below {w w' : World} {a : Option Addr} {L : List DeedM} (h : SlDd w a L) (hb : Below w.heap.size w w') : SlDd w' a L := by
  rcases h with h | ⟨b, o, e, h1, h2⟩
  · exact .inl h
  · refine .inr ⟨b, o, e, Nat.lt_of_lt_of_le h1 hb.size, fun k hk => ?_⟩
    obtain ⟨c, l, lc, dc, lm, dm⟩ := h2 k hk
    exact ⟨fun j u hu => (hb.cell (p := ⟨b, o + k * 7 + j, none⟩) h1).trans (c j u hu), l.below hb, lc, dc, lm, dm⟩
theorem SlDd.at_ {w : World} {a : Option Addr} {L : List DeedM} (h : SlDd w a L) {k : Nat} (hk : k < L.length) : ∃ b o, a = some ⟨b, o, none⟩ ∧ DeedAt w b (o + k * 7) (L.getD k default) ∧ b < w.heap.size := by
  rcases h with rfl | ⟨b, o, e, h1, h2⟩
  · simp at hk
  · exact ⟨b, o, e, h2 k hk, h1⟩
theorem DeedAt.cells {w : World} {b o : Nat} {d : DeedM} (h : DeedAt w b o d) : w.cell? ⟨b, o, none⟩ = some (.int .i64 d.e.op) ∧ w.cell? ⟨b, o + 1, none⟩ = some (.string d.e.path) ∧ w.cell? ⟨b, o + 2, none⟩ = some (.string d.e.to) ∧ w.cell? ⟨b, o + 3, none⟩ = some (.int .i64 d.e.off) ∧
    w.cell? ⟨b, o + 4, none⟩ = some (.int .i64 d.e.size) ∧ w.cell? ⟨b, o + 5, none⟩ = some (.slice d.da d.e.data.length d.dc) ∧ w.cell? ⟨b, o + 6, none⟩ = some (.slice d.la d.l.length d.lc) :=
  ⟨h.c 0 _ rfl, h.c 1 _ rfl, h.c 2 _ rfl, h.c 3 _ rfl, h.c 4 _ rfl, h.c 5 _ rfl, h.c 6 _ rfl⟩
/-- Few deeds, and not great. -/
def smallD (L : List DeedM) (most : Int) : Bool := decide ((L.length : Int) ≤ most) && L.all fun d => decide (d.e.path.size ≤ 300) && decide (d.e.to.size ≤ 300) && decide (d.e.data.length ≤ 2000) && decide (d.l.length ≤ 60)
theorem smallD_spec {L : List DeedM} {most : Int} (h : smallD L most = true) : (L.length : Int) ≤ most ∧ ∀ d ∈ L, d.e.path.size ≤ 300 ∧ d.e.to.size ≤ 300 ∧ d.e.data.length ≤ 2000 ∧ d.l.length ≤ 60 := by
  unfold smallD at h
  rw [Bool.and_eq_true, decide_eq_true_eq, List.all_eq_true] at h
  refine ⟨h.1, fun d hd => ?_⟩
  have := h.2 d hd
  simp only [Bool.and_eq_true, decide_eq_true_eq] at this
  exact ⟨this.1.1.1, this.1.1.2, this.1.2, this.2⟩
end Go.Proofs.YtiegadfhgccliaaGreatDoor
set_option linter.unusedVariables false
namespace Go.Proofs.YtiegadfhgccliaaGreatDoor
open Go.RowKit Go.Lib

set_option maxRecDepth 100000 in
set_option maxHeartbeats 8000000 in
theorem parts_own (L : List Bp) (a : Option Addr) (c : Nat) (w : World) (hS : SlPt w a L) (hc : L.length ≤ c) (hl : L.length ≤ 1000000000) :
    Calls Tryz.prog 11 #[.slice a L.length c] w fun e w' => ∃ v, e = .returned v ∧ w'.ownsRow w.heap.size 40 4 v L.length (encP.cells L) ∧ Below w.heap.size w w' := by
  have HS := Lib.hid hS
  obtain ⟨i0, hi, hz0, hz1, hz2⟩ := info_parts info_part
  clear hS
  go_enter Tryz.func11, Tryz.ntmps11
  go_wp2
  go_loopw [3, 4] (fun u i wr => ∃ (k : Nat) (v : Value), k ≤ L.length ∧ v = u ∧ i = .int .i64 (k : Int) ∧ Hid (wr.ownsRow w.heap.size 40 4 v k (encP.cells (L.take k))) ∧ Hid (Below w.heap.size w wr)) (fun _ i _ => L.length - (intOf i).toNat)
  case atStart => exact ⟨0, _, by omega, rfl, rfl, Lib.hid (World.ownsRow_nil _ _ _ _), Lib.hid (Below.refl _ _)⟩
  case round =>
    obtain ⟨k, v, hk, rfl, rfl, HO, HB⟩ := hrel
    have hsB := HB.out.size
    by_cases hlt : k < L.length
    · obtain ⟨bb, o, rfl, q0, q1, q2, q3, hbl⟩ := SlPt_at HS.out hlt
      have hki : (k : Int) < (L.length : Int) := by omega
      have hkc : (k : Int) < (c : Int) := by omega
      have HTk : Hid (encP.cells (L.take (k + 1)) = encP.cells (L.take k) ++ [.int .i64 (L.getD k default).off, .int .i64 (L.getD k default).ln, .int .i64 (L.getD k default).ch, .int .i64 (L.getD k default).at_]) := Lib.hid (by rw [take_at hlt, cellsK_snoc]; rfl)
      have HRow : Hid (∀ W, Below w.heap.size w W → W.cell? ⟨bb, o + k * 4, none⟩ = some (.int .i64 (L.getD k default).off) ∧ W.cell? ⟨bb, o + k * 4 + 1, none⟩ = some (.int .i64 (L.getD k default).ln) ∧ W.cell? ⟨bb, o + k * 4 + 2, none⟩ = some (.int .i64 (L.getD k default).ch) ∧ W.cell? ⟨bb, o + k * 4 + 3, none⟩ = some (.int .i64 (L.getD k default).at_)) := Lib.hid fun W h => by
        have hb := h.block bb hbl
        exact ⟨(World.cell?_of_block hb).trans q0, (World.cell?_of_block hb).trans q1, (World.cell?_of_block hb).trans q2, (World.cell?_of_block hb).trans q3⟩
      clear q0 q1 q2 q3
      generalize L.getD k default = p at *
      obtain ⟨po, pl, pc, pa⟩ := p
      dsimp only at HTk HRow
      obtain ⟨p0, p1, p2, p3⟩ := HRow.out _ HB.out
      generalize encP.cells (L.take k) = xs at *
      have HBr := HB
      have HBd : Hid (Below w.heap.size w wr.drew) := Lib.hid (below_drewN' HB.out 1)
      go_upto_region 5 with (fail)
      go_region_held3 (fun w' => w'.cell? ⟨bb, o + k * 4, none⟩ = some (.int .i64 po) ∧ w'.cell? ⟨bb, o + k * 4 + 1, none⟩ = some (.int .i64 pl) ∧ w'.cell? ⟨bb, o + k * 4 + 2, none⟩ = some (.int .i64 pc) ∧ w'.cell? ⟨bb, o + k * 4 + 3, none⟩ = some (.int .i64 pa)) (first | exact HRow.out _ HBr.out | exact HRow.out _ HBd.out | exact HRow.out _ (HBd.out.alloc HBd.out.size _) | exact HRow.out _ HB9.out | go_keep) ((refine step_append_any (by rfl) _ _ _ (by rfl) (w.heap.size) 40 i0 _ 4 32 Tryz.underlying35 hi hz0 hz1 hz2 rfl (by omega) v k xs (by rfl) ((own_heap (w' := wr.drew) HO.out rfl).alloc _) (some ⟨wr.heap.size, 0, none⟩) 1 1 [.int .i64 po, .int .i64 pl, .int .i64 pc, .int .i64 pa] (by rfl) rfl (fun j u hu => ⟨_, rfl, new4 wr.drew _ _ _ _ _ _ rfl j u hu⟩) (encP_one ⟨po, pl, pc, pa⟩) (by unfold maxLen; omega) (by omega) (by simp; omega) ?_; intro v' w9 ho9 hg9 hat9; have HO9 := Lib.hid ho9; have HB9' : Hid (Below w.heap.size w w9) := Lib.hid (grown_below (B := w.heap.size) (w := w) ((below_drewN' HB.out 1).alloc (by exact hsB) _) (by simp; omega) ((own_heap (w' := wr.drew) HO.out rfl).alloc _) hg9); have HB9 := HB9'; clear ho9 hg9 hat9))
      all_goals
        go_wp2
        exact ⟨⟨k + 1, v', by omega, rfl, by go_num, by rw [HTk.out]; exact HO9, HB9'⟩, by simp [intOf]; omega⟩
    · obtain rfl : k = L.length := by omega
      have hlt' : decide ((L.length : Int) < (L.length : Int)) = false := by simp
      have ht : L.take L.length = L := List.take_length
      rw [ht] at HO
      clear hlt ht
      go_wp2
      go_ret
      exact ⟨v, rfl, HO.out, HB.out⟩
end Go.Proofs.YtiegadfhgccliaaGreatDoor
namespace Go.Proofs.YtiegadfhgccliaaGreatDoor
open Go.RowKit Go.Lib
open Go.ChangeMaps (setBlock)

/-- A state that the call itself made. -/
structure FK (w0 w : World) (sb tb mb lb : Nat) (S : FS) (N : Nat) : Prop where
  p : FoldP w sb tb mb lb S
  i : FInv S
  m : MLen w
  few : FewP N S
  m0 : MLen w0
  below : Below w0.heap.size w0 w
  h1 : w0.heap.size ≤ sb
  h2 : w0.heap.size ≤ tb
  h3 : w0.heap.size ≤ mb
  h4 : w0.heap.size ≤ lb
theorem FK.turn {w0 w w' : World} {sb tb mb lb : Nat} {S S' : FS} {N N' : Nat} (h : FK w0 w sb tb mb lb S N) (ht : Turn [tb, mb, lb] w w') (hp : FoldP w' sb tb mb lb S') (hi : FInv S') (hf : FewP N' S') : FK w0 w' sb tb mb lb S' N' := by
  have a1 := h.h1
  have a2 := h.h2
  have a3 := h.h3
  have a4 := h.h4
  refine ⟨hp, hi, ?_, hf, h.m0, ?_, a1, a2, a3, a4⟩
  · refine h.m.turn ht ?_
    have := h.m0.lt
    simp
    omega
  · refine ht.below h.below ?_
    intro x hx
    simp at hx
    omega
theorem FK.bel {w0 w w' : World} {sb tb mb lb : Nat} {S : FS} {N : Nat} (h : FK w0 w sb tb mb lb S N) (hb : Below w.heap.size w w') : FK w0 w' sb tb mb lb S N :=
  h.turn (.of_below hb) (h.p.below hb) h.i h.few
theorem FK.mono {w0 w : World} {sb tb mb lb : Nat} {S : FS} {N M : Nat} (h : FK w0 w sb tb mb lb S N) (hn : N ≤ M) : FK w0 w sb tb mb lb S M := { h with few := h.few.mono hn }
theorem kf_new (w : World) (hm : MLen w) : Calls Tryz.prog 9 #[] w fun e w' => ∃ sb tb mb lb, e = .returned (.pointer (some ⟨sb, 0, none⟩)) ∧ FK w w' sb tb mb lb ⟨⟨[], 1⟩, []⟩ 0 := by
  refine (fold_new w).mono ?_
  rintro e w' ⟨sb, tb, mb, lb, rfl, h1, h2, h3, h4, h5, h6⟩
  exact ⟨sb, tb, mb, lb, rfl, h1, FInv.new, hm.below h6, (fun f hf => by cases hf), hm, h6, h2, h3, h4, h5⟩
/-- Apply; what it makes has a name. -/
theorem kf_apply (e0 : Ev) (l : List Bp) (a a2 : Option Addr) (c c2 : Nat) {w0 w : World} {sb tb mb lb : Nat} {S S' : FS} {N : Nat} {x : Int} (h : FK w0 w sb tb mb lb S N) (hp : e0.path.size ≤ 100000) (hq : e0.to.size ≤ 100000) (hd : e0.data.length ≤ 1000000)
    (hnx : S.t.nx ≤ 1000000000000) (hN2 : N ≤ 1000000000) (hS2 : SlPt w a2 l) (hc2 : l.length ≤ c2) (hl : l.length ≤ 1000000) (hx : applyS S e0 l = (S', x)) :
    Calls Tryz.prog 10 #[.pointer (some ⟨sb, 0, none⟩), evV e0 a c, .slice a2 l.length c2] w fun e w' => e = .returned (.int .i64 x) ∧ FK w0 w' sb tb mb lb S' (N + l.length + 1) ∧ Turn [tb, mb, lb] w w' := by
  refine (fold_apply e0 l a a2 c c2 w hp hq hd h.p h.i h.m hnx h.few hN2 hS2 hc2 hl).mono ?_
  rintro e w' ⟨rfl, hF, ht⟩
  have hi := h.i.apply e0 l
  have hf := h.few.apply e0 l
  rw [hx] at hF hi hf ⊢
  exact ⟨rfl, h.turn ht hF hi hf, ht⟩
set_option maxRecDepth 100000 in
set_option maxHeartbeats 8000000 in
theorem law15_small (L : List DeedM) (a : Option Addr) (c : Nat) (most : Int) (w : World) (hS : SlDd w a L) (hc : L.length ≤ c) (hcm : L.length ≤ 9223372036854775807) (hm : 0 ≤ most) :
    Calls Tryz.prog 8 #[.slice a L.length c, .int .i64 most] w fun e w' => e = .returned (.bool (smallD L most)) ∧ w' = w := by
  have HS := Lib.hid hS
  clear hS
  go_enter Tryz.func8, Tryz.ntmps8
  go_wp2
  go_loopw [5] (fun i wr => ∃ k : Nat, k ≤ L.length ∧ i = .int .i64 (k : Int) ∧ Hid (wr = w) ∧ (k : Int) ≤ most ∧ Hid (∀ j, j < k → (L.getD j default).e.path.size ≤ 300 ∧ (L.getD j default).e.to.size ≤ 300 ∧ (L.getD j default).e.data.length ≤ 2000 ∧ (L.getD j default).l.length ≤ 60)) (fun i _ => L.length - (intOf i).toNat)
  case atStart => exact ⟨0, by omega, rfl, Lib.hid rfl, by omega, Lib.hid fun j hj => by omega⟩
  case round =>
    obtain ⟨k, hk, rfl, HW, hkm, HF⟩ := hrel
    have hw := HW.out
    by_cases hlt : k < L.length
    · obtain ⟨b, o, rfl, hd, _⟩ := HS.out.at_ hlt
      obtain ⟨_, p1, p2, _, _, p5, p6⟩ := hd.cells
      rw [← hw] at p1 p2 p5 p6
      have hki : (k : Int) < (L.length : Int) := by omega
      have hkc : (k : Int) < (c : Int) := by omega
      have hmem : L.getD k default ∈ L := by simp [List.getD, hlt]
      have HNo : Hid ((most ≤ k ∨ 300 < (L.getD k default).e.path.size ∨ 300 < (L.getD k default).e.to.size ∨ 2000 < (L.getD k default).e.data.length ∨ 60 < (L.getD k default).l.length) → smallD L most = false) := Lib.hid fun h => by
        cases hsm : smallD L most with
        | false => rfl
        | true =>
          obtain ⟨s1, s2⟩ := smallD_spec hsm
          have := s2 _ hmem
          omega
      have HF3 : Hid ((L.getD k default).e.path.size ≤ 300 ∧ (L.getD k default).e.to.size ≤ 300 ∧ (L.getD k default).e.data.length ≤ 2000 ∧ (L.getD k default).l.length ≤ 60 → ∀ j, j < k + 1 → (L.getD j default).e.path.size ≤ 300 ∧ (L.getD j default).e.to.size ≤ 300 ∧ (L.getD j default).e.data.length ≤ 2000 ∧ (L.getD j default).l.length ≤ 60) := fun h j hj => by
        by_cases e : j = k
        · subst e; exact h
        · exact HF.out j (by omega)
      clear hmem hw HF hd
      generalize L.getD k default = d at *
      obtain ⟨⟨op, dp, dq, off, size, data⟩, da, dc, l, la, lc⟩ := d
      dsimp only at p1 p2 p5 p6 HNo HF3
      generalize data.length = dn at *
      generalize l.length = ln at *
      have HE := HW
      by_cases h1 : most ≤ k
      · have HR := Lib.hid (HNo.out (.inl h1))
        clear HNo HF3 HW
        go_wp2
        go_ret
        exact ⟨by rw [HR.out]; rfl, HE.out⟩
      have h1' : ¬ most ≤ (k : Int) := h1
      by_cases h2 : (300 : Int) < (dp.size : Int)
      · have HR := Lib.hid (HNo.out (.inr (.inl (by omega))))
        clear HNo HF3 HW
        go_wp2
        go_ret
        exact ⟨by rw [HR.out]; rfl, HE.out⟩
      by_cases h3 : (300 : Int) < (dq.size : Int)
      · have HR := Lib.hid (HNo.out (.inr (.inr (.inl (by omega)))))
        clear HNo HF3 HW
        go_wp2
        go_ret
        exact ⟨by rw [HR.out]; rfl, HE.out⟩
      by_cases h4 : (2000 : Int) < (dn : Int)
      · have HR := Lib.hid (HNo.out (.inr (.inr (.inr (.inl (by omega))))))
        clear HNo HF3 HW
        go_wp2
        go_ret
        exact ⟨by rw [HR.out]; rfl, HE.out⟩
      by_cases h5 : (60 : Int) < (ln : Int)
      · have HR := Lib.hid (HNo.out (.inr (.inr (.inr (.inr (by omega))))))
        clear HNo HF3 HW
        go_wp2
        go_ret
        exact ⟨by rw [HR.out]; rfl, HE.out⟩
      have HF2 := Lib.hid (HF3.out ⟨by show dp.size ≤ 300; omega, by show dq.size ≤ 300; omega, by omega, by omega⟩)
      have hk1 : (k : Int) + 1 ≤ most := by omega
      clear HNo HF3
      go_wp2
      exact ⟨⟨k + 1, by omega, by go_num, HW, by omega, HF2⟩, by simp [intOf]; omega⟩
    · obtain rfl : k = L.length := by omega
      have hyes : smallD L most = true := by
        unfold smallD
        rw [Bool.and_eq_true, decide_eq_true_eq, List.all_eq_true]
        refine ⟨hkm, fun d hd => ?_⟩
        obtain ⟨j, hj, rfl⟩ := List.getElem_of_mem hd
        have e : L[j] = L.getD j default := by simp [List.getD, hj]
        rw [e]
        have := HF.out j hj
        simp only [Bool.and_eq_true, decide_eq_true_eq]
        exact ⟨⟨⟨this.1, this.2.1⟩, this.2.2.1⟩, this.2.2.2⟩
      have HR := Lib.hid hyes
      have hlt' : decide ((L.length : Int) < (L.length : Int)) = false := by simp
      clear hlt HF hyes hw
      go_wp2
      go_ret
      exact ⟨by rw [HR.out]; rfl, HW.out⟩

/-! ### awake -/
def fsA0 : FS := ⟨⟨[], 1⟩, []⟩
def evA1 : Ev := ⟨1, ⟨#[47, 97]⟩, ⟨#[]⟩, 0, 0, []⟩
def evA2 : Ev := ⟨3, ⟨#[47, 97]⟩, ⟨#[]⟩, 2, 0, []⟩
def ptA : Bp := ⟨0, 3, 1, 0⟩
def fsA1 : FS := (applyS fsA0 evA1 []).1
def fsA2 : FS := (applyS fsA1 evA2 [ptA]).1
theorem aA1 : (applyS fsA0 evA1 []).2 = 0 := by decide +kernel
theorem aA2 : (applyS fsA1 evA2 [ptA]).2 = 0 := by decide +kernel
theorem aAx2 : fsA1.t.nx ≤ 1000000000000 := by decide +kernel
theorem aAs : statS fsA2 ⟨#[47, 97]⟩ = (1, false, 5, 0) := by decide +kernel
theorem aAr : statS fsA2 ⟨#[47]⟩ = (0, true, 0, 0) := by decide +kernel
theorem kf_stat (p : ByteArray) {w0 w : World} {sb tb mb lb : Nat} {S : FS} {N : Nat} (h : FK w0 w sb tb mb lb S N) (hp : p.size ≤ 100000) {i : Int} {d : Bool} {z x : Int} (hx : statS S p = (i, d, z, x)) :
    Calls Tryz.prog 25 #[.pointer (some ⟨sb, 0, none⟩), .string p] w fun e w' => e = .returned (.tuple #[.agg #[.int .i64 i, .bool d, .int .i64 z], .int .i64 x]) ∧ FK w0 w' sb tb mb lb S N ∧ Below w.heap.size w w' := by
  refine (fold_stat p w hp h.p h.i.t h.i.once h.m).mono ?_
  rintro e w' ⟨rfl, hB⟩
  rw [hx]
  exact ⟨rfl, h.bel hB, hB⟩
theorem apply_pair {S S' : FS} {e : Ev} {l : List Bp} {x : Int} (h1 : (applyS S e l).1 = S') (h2 : (applyS S e l).2 = x) : applyS S e l = (S', x) := by rw [← h1, ← h2]
set_option maxRecDepth 100000 in
set_option maxHeartbeats 16000000 in
theorem awake15 (w : World) (hm : MLen w) : Calls Tryz.prog 7 #[] w fun e w' => e = .returned (.bool true) ∧ Below w.heap.size w w' := by
  have HNw := Lib.hid (kf_new w hm)
  clear hm
  go_enter Tryz.func7, Tryz.ntmps7
  go_wp2_with fail
  refine HNw.out.mono ?_
  rintro e w1 ⟨sb, tb, mb, lb, rfl, hk⟩
  have HK1 := Lib.hid hk
  have HA1 := Lib.hid (show Calls Tryz.prog 10 #[.pointer (some ⟨sb, 0, none⟩), .agg #[.int .i64 1, .string ⟨#[47, 97]⟩, .string ⟨#[]⟩, .int .i64 0, .int .i64 0, .slice none 0 0], .slice none 0 0] w1 _ from kf_apply evA1 [] none none 0 0 hk (by decide) (by decide) (by decide) (by decide) (by decide) (.inl rfl) (by decide) (by decide) (apply_pair (S' := fsA1) rfl aA1))
  clear hk HNw
  go_wp2_with fail
  with_reducible refine Calls.mono HA1.out ?_
  rintro e w2 ⟨rfl, hk, _⟩
  have HK2 := Lib.hid hk
  clear hk HA1 HK1
  go_upto_region 5 with (fail)
  have hbx := heap_alloc_new w2 (.cells #[.int .i64 0, .int .i64 3, .int .i64 1, .int .i64 0] 40)
  have hB : Below w2.heap.size w2 (w2.alloc (.cells #[.int .i64 0, .int .i64 3, .int .i64 1, .int .i64 0] 40)) := (Below.refl _ _).alloc (Nat.le_refl _) _
  have hSl : SlPt (w2.alloc (.cells #[.int .i64 0, .int .i64 3, .int .i64 1, .int .i64 0] 40)) (some ⟨w2.heap.size, 0, none⟩) [ptA] := .inr ⟨w2.heap.size, 0, rfl, ⟨fun k hk j u hu => by
    obtain rfl : k = 0 := by simpa using hk
    have hj : j < 4 := (List.getElem?_eq_some_iff.1 hu).1
    unfold World.cell?
    rw [hbx]
    have e : 0 + 0 * encP.K + j = j := by omega
    rw [e]
    have : (encP.enc (([ptA] : List Bp).getD 0 default)) = [.int .i64 0, .int .i64 3, .int .i64 1, .int .i64 0] := rfl
    rw [this] at hu
    simpa using hu, by simp⟩⟩
  have HA2 := Lib.hid (show Calls Tryz.prog 10 #[.pointer (some ⟨sb, 0, none⟩), .agg #[.int .i64 3, .string ⟨#[47, 97]⟩, .string ⟨#[]⟩, .int .i64 2, .int .i64 0, .slice none 0 0], .slice (some ⟨w2.heap.size, 0, none⟩) 1 1] (w2.alloc (.cells #[.int .i64 0, .int .i64 3, .int .i64 1, .int .i64 0] 40)) _ from kf_apply evA2 [ptA] none (some ⟨w2.heap.size, 0, none⟩) 0 1 (HK2.out.bel hB) (by decide) (by decide) (by decide) aAx2 (by decide) hSl (by decide) (by decide) (apply_pair (S' := fsA2) rfl aA2))
  clear hbx hB hSl
  go_wp2_with fail
  with_reducible refine Calls.mono HA2.out ?_
  rintro e w3 ⟨rfl, hk, _⟩
  have HS1 := Lib.hid (kf_stat ⟨#[47, 97]⟩ hk (by decide) aAs)
  clear hk HA2 HK2
  go_wp2_with fail
  with_reducible refine Calls.mono HS1.out ?_
  rintro e w4 ⟨rfl, hk, _⟩
  have HK4 := Lib.hid hk
  clear hk HS1
  go_upto_region 7 with (fail)
  have hb4 := heap_alloc_new w4 (.cells #[.int .i64 1, .bool false, .int .i64 5] 75)
  have hB4 : Below w4.heap.size w4 (w4.alloc (.cells #[.int .i64 1, .bool false, .int .i64 5] 75)) := (Below.refl _ _).alloc (Nat.le_refl _) _
  have hk4 := HK4.out.bel hB4
  have hs4 : (w4.alloc (.cells #[.int .i64 1, .bool false, .int .i64 5] 75)).heap.size = w4.heap.size + 1 := by simp
  have HS2 := Lib.hid (kf_stat ⟨#[47]⟩ hk4 (by decide) aAr)
  clear hk4 hB4
  go_wp2_with fail
  with_reducible refine Calls.mono HS2.out ?_
  rintro e w5 ⟨rfl, hk, hB5⟩
  have hb5 := (hB5.block w4.heap.size (by omega)).trans hb4
  obtain ⟨q0, q1, q2, _⟩ := b3_cells hb5
  have hb6 := (((Below.refl _ _).alloc (Nat.le_refl _) (.cells #[.int .i64 0, .bool true, .int .i64 0] 75) : Below w5.heap.size w5 (w5.alloc (.cells #[.int .i64 0, .bool true, .int .i64 0] 75))).block w4.heap.size (by have := hB5.size; omega)).trans hb5
  obtain ⟨r0, r1, r2, _⟩ := b3_cells hb6
  clear hb6
  have HK5 := Lib.hid hk
  clear hk hB5 hb4 HS2 HK4 hb5
  go_wp2
  go_ret
  exact ⟨rfl, HK5.out.below.alloc HK5.out.below.size _⟩
end Go.Proofs.YtiegadfhgccliaaGreatDoor
