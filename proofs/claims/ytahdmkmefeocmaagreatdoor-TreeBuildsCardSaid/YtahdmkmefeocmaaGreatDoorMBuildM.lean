/- Walks of the document: BuildMay. -/
import Derived.Test.YtahdmkmefeocmaaGreatDoorMDocM
import Derived.Test.YtahdmkmefeocmaaGreatDoorMBuildL
import Derived.Deep.CutRange
namespace Go.Proofs.YtahdmkmefeocmaaGreatDoor
open Go.RowKit Go.Lib
open Go.ChangeMaps (setBlock)

/-- What BuildMay asks of one node. -/
def OkD (next : Int) (L : List Nd) (j : Nat) : Prop :=
  (∃ P, psplit (L.getD j default).path = some P ∧ P ≠ [] ∧ (P.dropLast = [] ∨ ∃ m ∈ L, m.path = pjoin P.dropLast ∧ m.dir = true)) ∧ 1 ≤ (L.getD j default).id ∧ (L.getD j default).id < next ∧
  ∀ k, k < L.length → k ≠ j → (L.getD k default).path ≠ (L.getD j default).path ∧ (L.getD k default).id ≠ (L.getD j default).id
theorem getD_at {L : List Nd} {j : Nat} (hj : j < L.length) : L.getD j default = L[j] := by simp [List.getD, hj]
theorem MayL.at_ {next : Int} {L : List Nd} (h : MayL next L) {j : Nat} (hj : j < L.length) : OkD next L j := by
  have hm : L.getD j default ∈ L := by simp [List.getD, hj]
  refine ⟨h.path _ hm, (h.ids _ hm).1, (h.ids _ hm).2, fun k hk hne => ?_⟩
  have hap := List.pairwise_iff_getElem.1 h.apart
  rw [getD_at hk, getD_at hj]
  rcases Nat.lt_or_gt_of_ne hne with hlt | hlt
  · exact hap k j hk hj hlt
  · have := hap j k hj hk hlt
    exact ⟨Ne.symm this.1, Ne.symm this.2⟩
theorem MayL.mk_ {next : Int} {L : List Nd} (h : ∀ j, j < L.length → OkD next L j) (hf : L.length ≤ 64) (hn : 1 ≤ next) : MayL next L := by
  have hmem : ∀ n ∈ L, ∃ j, j < L.length ∧ n = L.getD j default := fun n hn => by
    obtain ⟨j, hj, rfl⟩ := List.getElem_of_mem hn
    exact ⟨j, hj, (getD_at hj).symm⟩
  refine ⟨fun n hn => ?_, fun n hn => ?_, List.pairwise_iff_getElem.2 fun i j hi hj hij => ?_, hf, hn⟩
  · obtain ⟨j, hj, rfl⟩ := hmem n hn
    exact (h j hj).1
  · obtain ⟨j, hj, rfl⟩ := hmem n hn
    exact ⟨(h j hj).2.1, (h j hj).2.2.1⟩
  · have := (h j hj).2.2.2 i hi (by omega)
    rw [getD_at hi, getD_at hj] at this
    exact this
theorem up_root {P : List ByteArray} (h : PathOk P) : decide (pjoin P.dropLast = rootP) = P.dropLast.isEmpty := by
  have := root_split (psplit_pjoin h.dropLast)
  exact this
set_option maxRecDepth 100000 in
set_option maxHeartbeats 16000000 in
theorem doc_buildmay (next : Int) (L : List Nd) (a : Option Addr) (c : Nat) (w : World) (hS : SlN w a L) (hc : L.length ≤ c) (hl : L.length ≤ 1000) (hps : ∀ n ∈ L, n.path.size ≤ 1000) {rb : Bool} (hrb : rb = true ↔ MayL next L ∧ next ≤ 4611686018427387904) :
    Calls Tryz.prog 20 #[.int .i64 next, .slice a L.length c] w fun e w' => e = .returned (.bool rb) ∧ Below w.heap.size w w' := by
  have hfl : ¬ (MayL next L ∧ next ≤ 4611686018427387904) → rb = false := fun h => by
    cases rb
    · rfl
    · exact absurd (hrb.1 rfl) h
  have HFl := Lib.hid hfl
  have HTr := Lib.hid hrb.2
  have HS := Lib.hid hS
  have HPs := Lib.hid hps
  have HSp : Hid (∀ (p : ByteArray) (W : World), p.size ≤ 1000 → Calls Tryz.prog 35 #[.string p] W (RSplitAns W p)) := fun p W hp => ref_split p W (by unfold maxLen; omega)
  clear hS hps hfl hrb
  by_cases b1 : next < 1
  · have hr0 : rb = false := HFl.out fun h => by have := h.1.nx1; omega
    subst hr0
    clear HTr HFl
    go_enter Tryz.func20, Tryz.ntmps20
    go_wp2
    go_ret
    exact ⟨rfl, Below.refl _ _⟩
  by_cases b2 : next > 4611686018427387904
  · have hr0 : rb = false := HFl.out fun h => by have := h.2; omega
    subst hr0
    clear HTr HFl
    go_enter Tryz.func20, Tryz.ntmps20
    go_wp2
    go_ret
    exact ⟨rfl, Below.refl _ _⟩
  by_cases b3 : (L.length : Int) > 64
  · have hr0 : rb = false := HFl.out fun h => by have := h.1.few; omega
    subst hr0
    clear HTr HFl
    go_enter Tryz.func20, Tryz.ntmps20
    go_wp2
    go_ret
    exact ⟨rfl, Below.refl _ _⟩
  go_enter Tryz.func20, Tryz.ntmps20
  go_wp2
  go_loopw [5] (fun i wr => ∃ k : Nat, k ≤ L.length ∧ i = .int .i64 (k : Int) ∧ Hid (Below w.heap.size w wr) ∧ Hid (∀ j, j < k → OkD next L j)) (fun i _ => L.length - (intOf i).toNat)
  case atStart => exact ⟨0, by omega, rfl, Lib.hid (Below.refl _ _), Lib.hid fun j hj => by omega⟩
  case round =>
    obtain ⟨k, hk, rfl, HB, HF⟩ := hrel
    by_cases hlt : k < L.length
    · have HR : Hid (∀ W, Below w.heap.size w W → ∀ j, j < L.length → ∃ b o, a = some ⟨b, o, none⟩ ∧ W.cell? ⟨b, o + j * 3, none⟩ = some (.string (L.getD j default).path) ∧ W.cell? ⟨b, o + j * 3 + 1, none⟩ = some (.int .i64 (L.getD j default).id) ∧ W.cell? ⟨b, o + j * 3 + 2, none⟩ = some (.bool (L.getD j default).dir)) := fun W h j hj => by
        obtain ⟨b, o, e, q0, q1, q2, _⟩ := (HS.out.below h).at_ hj
        exact ⟨b, o, e, q0, q1, q2⟩
      have hki : (k : Int) < (L.length : Int) := by omega
      have hkc : (k : Int) < (c : Int) := by omega
      have hmem : L.getD k default ∈ L := by simp [List.getD, hlt]
      have hpsz := HPs.out _ hmem
      obtain ⟨b, o, rfl, p0, p1, p2⟩ := HR.out wr HB.out k hlt
      have HR2 : Hid (∀ W, Below w.heap.size w W → ∀ j, j < L.length → W.cell? ⟨b, o + j * 3, none⟩ = some (.string (L.getD j default).path) ∧ W.cell? ⟨b, o + j * 3 + 1, none⟩ = some (.int .i64 (L.getD j default).id) ∧ W.cell? ⟨b, o + j * 3 + 2, none⟩ = some (.bool (L.getD j default).dir)) := fun W h j hj => by
        obtain ⟨b', o', e, q⟩ := HR.out W h j hj
        cases e
        exact q
      have HOk : Hid (MayL next L → OkD next L k) := fun h => h.at_ hlt
      have HD : Hid (OkD next L k ↔ (∃ P, psplit (L.getD k default).path = some P ∧ P ≠ [] ∧ (P.dropLast = [] ∨ ∃ m ∈ L, m.path = pjoin P.dropLast ∧ m.dir = true)) ∧ 1 ≤ (L.getD k default).id ∧ (L.getD k default).id < next ∧ ∀ j, j < L.length → j ≠ k → (L.getD j default).path ≠ (L.getD k default).path ∧ (L.getD j default).id ≠ (L.getD k default).id) := Lib.hid Iff.rfl
      have HNo : Hid (¬ OkD next L k → ¬ (MayL next L ∧ next ≤ 4611686018427387904)) := fun h1 h2 => h1 (HOk.out h2.1)
      obtain ⟨n, hn⟩ : ∃ n, L.getD k default = n := ⟨_, rfl⟩
      rw [hn] at p0 p1 p2 HD hpsz
      have HGk := Lib.hid hn
      obtain ⟨np, ni, nd⟩ := n
      dsimp only at p0 p1 p2 HD hpsz
      clear hmem hn HR HOk
      cases hP : psplit np with
      | none =>
        have HX := Lib.hid hP
        have HN : Hid (¬ (MayL next L ∧ next ≤ 4611686018427387904)) := HNo.out fun h => by
          obtain ⟨⟨P, h1, _⟩, _⟩ := HD.out.1 h
          rw [hP] at h1; cases h1
        clear hP HD HNo
        go_wp2_with fail
        with_reducible refine Calls.mono (HSp.out np _ hpsz) ?_
        intro e w1 hr
        obtain ⟨rfl, hB1⟩ := rsplitAns_none HX.out hr
        have HB1 := Lib.hid (blw HB.out hB1)
        clear hr hB1
        go_wp2
        go_ret
        have hr0 := HFl.out HN.out
        subst hr0
        exact ⟨rfl, HB1.out⟩
      | some P =>
        have HX := Lib.hid hP
        have hroot := beq_bytes np rootP
        rw [show rootP.toList = [47] by rw [toList_data]; rfl, root_split hP] at hroot
        have hsp := HSp.out np wr hpsz
        by_cases hbad : P = [] ∨ ni < 1 ∨ ni ≥ next
        · have HN : Hid (¬ (MayL next L ∧ next ≤ 4611686018427387904)) := HNo.out fun h => by
            obtain ⟨⟨Q, h1, h2, _⟩, h3, h4, _⟩ := HD.out.1 h
            rw [hP] at h1
            cases h1
            rcases hbad with e | e | e
            · exact h2 e
            · omega
            · omega
          have HSq := Lib.hid hsp
          by_cases e0 : P = []
          · have hnp : np = ⟨#[47]⟩ := by
              have := root_split hP
              rw [e0] at this
              exact of_decide_eq_true this
            clear hP HD HNo hbad e0 hsp hroot
            subst hnp
            go_wp2_with fail
            with_reducible refine Calls.mono HSq.out ?_
            intro e w1 hr
            obtain ⟨a1, c1, rfl, _, _, hB1⟩ := rsplitAns_some HX.out hr
            have HB1 := Lib.hid (blw HB.out hB1)
            obtain ⟨q0, q1, q2⟩ := HR2.out _ HB1.out k hlt
            rw [HGk.out] at q0 q1 q2
            dsimp only at q0 q1 q2
            clear hr hB1 p0 p1 p2
            go_wp2
            go_ret
            have hr0 := HFl.out HN.out
            subst hr0
            exact ⟨rfl, HB1.out⟩
          · replace hroot : (np.toList == [47]) = false := by rw [hroot]; cases P; exact absurd rfl e0; rfl
            by_cases e1 : ni < 1
            · clear hP HD HNo hbad e0 hsp
              go_wp2_with fail
              with_reducible refine Calls.mono HSq.out ?_
              intro e w1 hr
              obtain ⟨a1, c1, rfl, _, _, hB1⟩ := rsplitAns_some HX.out hr
              have HB1 := Lib.hid (blw HB.out hB1)
              obtain ⟨q0, q1, q2⟩ := HR2.out _ HB1.out k hlt
              rw [HGk.out] at q0 q1 q2
              dsimp only at q0 q1 q2
              clear hr hB1 p0 p1 p2
              go_wp2
              go_ret
              have hr0 := HFl.out HN.out
              subst hr0
              exact ⟨rfl, HB1.out⟩
            · have e2 : ni ≥ next := by
                rcases hbad with e | e | e
                · exact absurd e e0
                · exact absurd e e1
                · exact e
              clear hP HD HNo hbad e0 hsp
              go_wp2_with fail
              with_reducible refine Calls.mono HSq.out ?_
              intro e w1 hr
              obtain ⟨a1, c1, rfl, _, _, hB1⟩ := rsplitAns_some HX.out hr
              have HB1 := Lib.hid (blw HB.out hB1)
              obtain ⟨q0, q1, q2⟩ := HR2.out _ HB1.out k hlt
              rw [HGk.out] at q0 q1 q2
              dsimp only at q0 q1 q2
              clear hr hB1 p0 p1 p2
              go_wp2
              go_ret
              have hr0 := HFl.out HN.out
              subst hr0
              exact ⟨rfl, HB1.out⟩
        · rw [not_or, not_or] at hbad
          obtain ⟨e0, e1, e2⟩ := hbad
          replace hroot : (np.toList == [47]) = false := by rw [hroot]; cases P; exact absurd rfl e0; rfl
          have HSq := Lib.hid hsp
          have HPar : Hid (∀ W, Calls Tryz.prog 41 #[.string np] W fun e w' => e = .returned (.string (pjoin P.dropLast)) ∧ Below W.heap.size W w') := fun W => doc_parent np W (by unfold maxLen; omega) hP e0
          have hup := beq_bytes (pjoin P.dropLast) rootP
          rw [show rootP.toList = [47] by rw [toList_data]; rfl, up_root (psplit_ok hP).1] at hup
          have HUp : Hid (P.dropLast.isEmpty = true ↔ P.dropLast = []) := Lib.hid (by cases P.dropLast <;> simp)
          have HD2 : Hid (OkD next L k ↔ (P.dropLast = [] ∨ ∃ m ∈ L, m.path = pjoin P.dropLast ∧ m.dir = true) ∧ ∀ j, j < L.length → j ≠ k → (L.getD j default).path ≠ np ∧ (L.getD j default).id ≠ ni) := Lib.hid (by
            rw [HD.out]
            constructor
            · rintro ⟨⟨Q, h1, _, h3⟩, _, _, h4⟩
              rw [hP] at h1
              cases h1
              exact ⟨h3, h4⟩
            · rintro ⟨h3, h4⟩
              exact ⟨⟨P, hP, e0, h3⟩, by omega, by omega, h4⟩)
          obtain ⟨up, hue⟩ : ∃ up, pjoin P.dropLast = up := ⟨_, rfl⟩
          have HUe := Lib.hid hue
          rw [hue] at HPar hup
          clear hue
          generalize hri : P.dropLast.isEmpty = ri at *
          clear hP HD e0 hsp hri
          go_wp2_with fail
          with_reducible refine Calls.mono HSq.out ?_
          intro e w1 hr
          obtain ⟨a1, c1, rfl, _, _, hB1⟩ := rsplitAns_some HX.out hr
          have HB1 := Lib.hid (blw HB.out hB1)
          obtain ⟨q0, q1, q2⟩ := HR2.out _ HB1.out k hlt
          rw [HGk.out] at q0 q1 q2
          dsimp only at q0 q1 q2
          clear hr hB1 p0 p1 p2 HSq
          go_wp2_with fail
          with_reducible refine Calls.mono (HPar.out _) ?_
          rintro e w2 ⟨rfl, hB2⟩
          have HB2 := Lib.hid (blw HB1.out hB2)
          clear hB2 q0 q1 q2
          go_wp2
          go_loopw [9, 10] (fun fv i wr => ∃ (j : Nat) (fb : Bool), j ≤ L.length ∧ fv = .bool fb ∧ i = .int .i64 (j : Int) ∧ Hid (Below w.heap.size w wr) ∧ Hid (fb = true ↔ P.dropLast = [] ∨ ∃ q, q < j ∧ (L.getD q default).path = up ∧ (L.getD q default).dir = true) ∧ Hid (∀ q, q < j → q ≠ k → (L.getD q default).path ≠ np ∧ (L.getD q default).id ≠ ni)) (fun _ i _ => L.length - (intOf i).toNat)
          case atStart => exact ⟨0, ri, by omega, rfl, rfl, HB2, Lib.hid ⟨fun h => .inl (HUp.out.1 h), fun h => HUp.out.2 (h.elim id fun ⟨q, hq, _⟩ => by omega)⟩, Lib.hid fun q hq => by omega⟩
          case round =>
            obtain ⟨j, fb, hj, rfl, rfl, HBj, HFb, HDi⟩ := hrel
            by_cases hjl : j < L.length
            · have hji : (j : Int) < (L.length : Int) := by omega
              have hjc : (j : Int) < (c : Int) := by omega
              obtain ⟨q0, q1, q2⟩ := HR2.out _ HBj.out k hlt
              rw [HGk.out] at q0 q1 q2
              dsimp only at q0 q1 q2
              obtain ⟨r0, r1, r2⟩ := HR2.out _ HBj.out j hjl
              obtain ⟨m, hm⟩ : ∃ m, L.getD j default = m := ⟨_, rfl⟩
              rw [hm] at r0 r1 r2
              have HGj := Lib.hid hm
              obtain ⟨mp, mi, md⟩ := m
              dsimp only at r0 r1 r2
              clear hm
              go_upto_region 14 with (fail)
              go_cut [106] from 72 to 123 (fun bv wx => ∃ bb : Bool, bv = .bool bb ∧ Hid (Below wr.heap.size wr wx) ∧ Hid (bb = true → ¬ OkD next L k) ∧ Hid (bb = false → j ≠ k → mp ≠ np ∧ mi ≠ ni))
              case first =>
                by_cases hjk : j = k
                · subst hjk
                  clear r0 r1 r2
                  go_quiet (fail)
                  have HBd : Hid (Below wr.heap.size wr (wr.drewN nq)) := Lib.hid (below_drewN (Below.refl _ _) _)
                  generalize wr.drewN nq = wq at *
                  go_wp2
                  go_meet
                  case rel => exact ⟨false, rfl, HBd, Lib.hid fun h => (by cases h), Lib.hid fun _ h => absurd rfl h⟩
                · have hz : ((j : Int) == (k : Int)) = false := by rw [beq_eq_false_iff_ne]; omega
                  have hzn : ((j : Int) != (k : Int)) = true := by rw [bne, hz]; rfl
                  have HJ := Lib.hid hjk
                  have HNd : Hid (OkD next L k → mp ≠ np ∧ mi ≠ ni) := fun h => by
                    have h2 := (HD2.out.1 h).2 j hjl HJ.out
                    rw [HGj.out] at h2
                    exact h2
                  clear hjk
                  by_cases hpp : mp = np
                  · subst hpp
                    have hbq : (mp.toList == mp.toList) = true := by rw [beq_bytes]; simp
                    go_quiet (fail)
                    have HBd : Hid (Below wr.heap.size wr (wr.drewN nq)) := Lib.hid (below_drewN (Below.refl _ _) _)
                    generalize wr.drewN nq = wq at *
                    go_wp2
                    go_meet
                    case rel => exact ⟨true, rfl, HBd, Lib.hid fun _ h => (HNd.out h).1 rfl, Lib.hid fun h => (by cases h)⟩
                  · have hbq : (mp.toList == np.toList) = false := by rw [beq_bytes]; exact decide_eq_false hpp
                    have HPp := Lib.hid hpp
                    clear hpp
                    by_cases hii : mi = ni
                    · subst hii
                      go_quiet (fail)
                      have HBd : Hid (Below wr.heap.size wr (wr.drewN nq)) := Lib.hid (below_drewN (Below.refl _ _) _)
                      generalize wr.drewN nq = wq at *
                      go_wp2
                      go_meet
                      case rel => exact ⟨true, rfl, HBd, Lib.hid fun _ h => (HNd.out h).2 rfl, Lib.hid fun h => (by cases h)⟩
                    · have hiq : (mi == ni) = false := by rw [beq_eq_false_iff_ne]; exact hii
                      have HIi := Lib.hid hii
                      clear hii
                      go_quiet (fail)
                      have HBd : Hid (Below wr.heap.size wr (wr.drewN nq)) := Lib.hid (below_drewN (Below.refl _ _) _)
                      generalize wr.drewN nq = wq at *
                      go_wp2
                      go_meet
                      case rel => exact ⟨false, rfl, HBd, Lib.hid fun h => (by cases h), Lib.hid fun _ _ => ⟨HPp.out, HIi.out⟩⟩
              case rest =>
                obtain ⟨bb, rfl, HBd, HNb, HYb⟩ := hcut
                have HBw := Lib.hid (blw HBj.out HBd.out)
                obtain ⟨r0, r1, r2⟩ := HR2.out _ HBw.out j hjl
                rw [HGj.out] at r0 r1 r2
                dsimp only at r0 r1 r2
                clear q0 q1 q2
                generalize wc = wd at *
                cases bb
                · have HDn : Hid (∀ q, q < j + 1 → q ≠ k → (L.getD q default).path ≠ np ∧ (L.getD q default).id ≠ ni) := fun q hq hqk => by
                    by_cases e : q = j
                    · subst e; rw [HGj.out]; exact HYb.out rfl hqk
                    · exact HDi.out q (by omega) hqk
                  cases fb
                  · by_cases hpu : mp = up
                    · subst hpu
                      have hbu : (mp.toList == mp.toList) = true := by rw [beq_bytes]; simp
                      have HFn : Hid (md = true ↔ P.dropLast = [] ∨ ∃ q, q < j + 1 ∧ (L.getD q default).path = mp ∧ (L.getD q default).dir = true) := Lib.hid ⟨fun h => .inr ⟨j, by omega, by rw [HGj.out], by rw [HGj.out]; exact h⟩, fun h => by
                        rcases h with h | ⟨q, h1, h2, h3⟩
                        · have := HFb.out.2 (.inl h); cases this
                        · by_cases e : q = j
                          · subst e; rw [HGj.out] at h3; exact h3
                          · have := HFb.out.2 (.inr ⟨q, by omega, h2, h3⟩); cases this⟩
                      clear HFb HDi HNb HYb
                      go_wp2
                      exact ⟨⟨j + 1, md, by omega, rfl, by go_num, HBw, HFn, HDn⟩, by simp [intOf]; omega⟩
                    · have hbu : (mp.toList == up.toList) = false := by rw [beq_bytes]; exact decide_eq_false hpu
                      have HFn : Hid (false = true ↔ P.dropLast = [] ∨ ∃ q, q < j + 1 ∧ (L.getD q default).path = up ∧ (L.getD q default).dir = true) := Lib.hid ⟨fun h => (by cases h), fun h => by
                        rcases h with h | ⟨q, h1, h2, h3⟩
                        · have := HFb.out.2 (.inl h); cases this
                        · by_cases e : q = j
                          · subst e; rw [HGj.out] at h2; exact absurd h2 hpu
                          · have := HFb.out.2 (.inr ⟨q, by omega, h2, h3⟩); cases this⟩
                      clear HFb HDi HNb HYb hpu
                      go_wp2
                      exact ⟨⟨j + 1, false, by omega, rfl, by go_num, HBw, HFn, HDn⟩, by simp [intOf]; omega⟩
                  · have HFn : Hid (true = true ↔ P.dropLast = [] ∨ ∃ q, q < j + 1 ∧ (L.getD q default).path = up ∧ (L.getD q default).dir = true) := Lib.hid ⟨fun h => (HFb.out.1 h).imp id fun ⟨q, h1, h2⟩ => ⟨q, by omega, h2⟩, fun _ => rfl⟩
                    clear HFb HDi HNb HYb
                    go_wp2
                    exact ⟨⟨j + 1, true, by omega, rfl, by go_num, HBw, HFn, HDn⟩, by simp [intOf]; omega⟩
                · have hr0 := HFl.out (HNo.out (HNb.out rfl))
                  subst hr0
                  clear HFb HDi HNb HYb
                  go_wp2
                  go_ret
                  exact ⟨rfl, HBw.out⟩
            · obtain rfl : j = L.length := by omega
              have hlt' : decide ((L.length : Int) < (L.length : Int)) = false := by simp
              clear hjl
              cases fb
              · have hno : ¬ OkD next L k := fun h => by
                  rcases (HD2.out.1 h).1 with h1 | ⟨m, h1, h2, h3⟩
                  · have := HFb.out.2 (.inl h1); cases this
                  · obtain ⟨q, hq, rfl⟩ := List.getElem_of_mem h1
                    rw [← getD_at hq] at h2 h3
                    have := HFb.out.2 (.inr ⟨q, hq, h2.trans HUe.out, h3⟩)
                    cases this
                have hr0 := HFl.out (HNo.out hno)
                subst hr0
                clear HFb HDi hno
                go_wp2
                go_ret
                exact ⟨rfl, HBj.out⟩
              · have HFn : Hid (∀ q, q < k + 1 → OkD next L q) := fun q hq => by
                  by_cases e : q = k
                  · subst e
                    refine HD2.out.2 ⟨(HFb.out.1 rfl).imp id fun ⟨x, h1, h2, h3⟩ => ⟨L.getD x default, by simp [List.getD, h1], h2.trans HUe.out.symm, h3⟩, fun x hx hxk => HDi.out x hx hxk⟩
                  · exact HF.out q (by omega)
                clear HFb HDi
                go_wp2
                exact ⟨⟨k + 1, by omega, by go_num, HBj, HFn⟩, by simp [intOf]; omega⟩
    · obtain rfl : k = L.length := by omega
      have hlt' : decide ((L.length : Int) < (L.length : Int)) = false := by simp
      have HYes : Hid (MayL next L ∧ next ≤ 4611686018427387904) := Lib.hid ⟨MayL.mk_ HF.out (by omega) (by omega), by omega⟩
      clear hlt HF
      go_wp2
      go_ret
      have hr0 := HTr.out HYes.out
      subst hr0
      exact ⟨rfl, HB.out⟩
end Go.Proofs.YtahdmkmefeocmaaGreatDoor
