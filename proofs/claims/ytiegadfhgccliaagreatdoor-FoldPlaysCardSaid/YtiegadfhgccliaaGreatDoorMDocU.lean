/- Walks of package fold: Uses. -/
import Derived.Test.YtiegadfhgccliaaGreatDoorMFoldD
import Derived.Test.YtiegadfhgccliaaGreatDoorMTreeN
import Derived.Test.YtiegadfhgccliaaGreatDoorMFoldA
import Derived.Test.YtiegadfhgccliaaGreatDoorMFoldU
import Derived.BigRegion
namespace Go.Proofs.YtiegadfhgccliaaGreatDoor
open Go.RowKit Go.Lib
open Go.ChangeMaps (setBlock)

theorem insI_len (n : Int) : ∀ U : List Int, (insI n U).length ≤ U.length + 1
  | [] => by simp [insI]
  | m :: r => by
    unfold insI
    split
    · have := insI_len n r
      simp only [List.length_cons]; omega
    · split <;> simp
theorem usesB_snoc (L : List Bp) (p : Bp) (U : List Int) : usesB (L ++ [p]) U = insI p.ch (usesB L U) := by unfold usesB; rw [List.foldl_append]; rfl
theorem usesS_snoc (fs : List (Int × Bd)) (f : Int × Bd) (U : List Int) : usesS (fs ++ [f]) U = usesB f.2.parts (usesS fs U) := by unfold usesS; rw [List.foldl_append]; rfl
theorem usesS_len : ∀ (fs : List (Int × Bd)) (U : List Int) {N : Nat}, (∀ f ∈ fs, f.2.parts.length ≤ N) → (usesS fs U).length ≤ U.length + fs.length * N
  | [], U, _, _ => by simp [usesS]
  | f :: r, U, N, h => by
    have h1 := usesS_len r (usesB f.2.parts U) fun g hg => h g (by simp [hg])
    have h2 := usesB_len f.2.parts U
    have h3 := h f (by simp)
    have e : usesS (f :: r) U = usesS r (usesB f.2.parts U) := rfl
    rw [e, List.length_cons, Nat.add_mul]
    omega
set_option maxRecDepth 100000 in
set_option maxHeartbeats 8000000 in
/-- Uses. -/
theorem doc_uses (w : World) {base sd : Nat} {fa : Option Addr} {S : FS} (hS : DocS w base sd fa S) (hl : S.fs.length ≤ 1000) {N : Nat} (hN : FewP N S) (hN2 : N ≤ 10000) :
    Calls Tryz.prog 55 #[.pointer (some ⟨sd, 0, none⟩)] w fun e w' => ∃ a c, e = .returned (.slice a (usesS S.fs []).length c) ∧ (usesS S.fs []).length ≤ c ∧ SlI w' a (usesS S.fs []) ∧ Below w.heap.size w w' := by
  obtain ⟨F, c, f1, f2, f3, f4⟩ := hS.ex
  have hFl : F.length ≤ 1000 := by rw [← f1, List.length_map] at hl; exact hl
  have hsd := f2.lt
  have HD := Lib.hid f2
  have HO := Lib.hid f3
  have HF4 := Lib.hid f4
  have HE := Lib.hid f1
  have HFw : Hid (∀ f ∈ F, f.bd.parts.length ≤ N) := Lib.hid fun f hf => hN f.pair (by rw [← f1]; exact List.mem_map.2 ⟨f, hf, rfl⟩)
  have HLen : Hid (∀ k, k ≤ F.length → (usesS ((F.take k).map FileM.pair) []).length ≤ F.length * N) := Lib.hid fun k hk => by
    have h := usesS_len ((F.take k).map FileM.pair) [] (N := N) fun f hf => by
      obtain ⟨g, hg, rfl⟩ := List.mem_map.1 hf
      exact hN _ (by rw [← f1]; exact List.mem_map.2 ⟨g, List.mem_of_mem_take hg, rfl⟩)
    rw [List.length_map, List.length_take, Nat.min_eq_left hk] at h
    have : k * N ≤ F.length * N := Nat.mul_le_mul_right N hk
    rw [List.length_nil, Nat.zero_add] at h
    exact Nat.le_trans h this
  have hFN : F.length * N ≤ 10000000 := Nat.le_trans (Nat.mul_le_mul hFl hN2) (by decide)
  have HIn := Lib.hid (fun U n a c X hS hc hl => doc_insert U n a c X hS hc hl)
  clear f1 f2 f3 f4 hS hl hN
  go_enter Tryz.func55, Tryz.ntmps55
  go_wp2
  go_loopw [3, 4] (fun v i wr => ∃ (k : Nat) (U : List Int) (a : Option Addr) (cu : Nat), k ≤ F.length ∧ v = .slice a U.length cu ∧ i = .int .i64 (k : Int) ∧ U.length ≤ cu ∧ Hid (SlI wr a U) ∧ Hid (U = usesS ((F.take k).map FileM.pair) []) ∧ Hid (Below w.heap.size w wr)) (fun _ i _ => F.length - (intOf i).toNat)
  case atStart => exact ⟨0, [], none, 0, by omega, rfl, rfl, by simp, Lib.hid (.inl rfl), Lib.hid rfl, Lib.hid (Below.refl _ _)⟩
  case round =>
    obtain ⟨k, U, au, cu, hk, rfl, rfl, hcu, HS, HU, HB⟩ := hrel
    obtain ⟨c2, _⟩ := (HD.out.below HB.out).cell2
    by_cases hlt : k < F.length
    · obtain ⟨g, rfl, p0, p1, p2, hgl, hcc⟩ := rowF_at (own_below_any HO.out HB.out) hlt
      have hki : (k : Int) < (F.length : Int) := by omega
      have hkc : (k : Int) < (c : Int) := by omega
      have hgm : F.getD k default ∈ F := by simp [List.getD, hlt]
      have hok := HF4.out _ hgm
      have hfw := HFw.out _ hgm
      have htk : F.take (k + 1) = F.take k ++ [F.getD k default] := by
        rw [List.take_succ_eq_append_getElem hlt]
        congr 2
        simp [List.getD, hlt]
      have HUn : Hid (usesS ((F.take (k + 1)).map FileM.pair) [] = usesB (F.getD k default).bd.parts U) := Lib.hid (by rw [htk, List.map_append, HU.out]; exact usesS_snoc _ _ _)
      have hUl := HLen.out k hk
      rw [← HU.out] at hUl
      have hsB := HB.out.size
      clear htk hgm
      have HRow : Hid (∀ X, Below w.heap.size w X → X.cell? ⟨sd, 2, none⟩ = some (.slice (some ⟨g, 0, none⟩) F.length c) ∧ X.cell? ⟨g, k * 3 + 2, none⟩ = some (.slice (F.getD k default).a (F.getD k default).bd.parts.length (F.getD k default).c)) := Lib.hid fun X h => by
        obtain ⟨g', e, _, _, q2, _, _⟩ := rowF_at (own_below_any HO.out h) hlt
        obtain rfl : g = g' := by injection e with e; injection e
        exact ⟨(HD.out.below h).cell2.1, q2⟩
      generalize F.getD k default = f at *
      obtain ⟨fi, ⟨fsz, L⟩, fpa, fpc⟩ := f
      obtain ⟨hok1, hok2⟩ := hok
      dsimp only at p0 p1 p2 hok1 hok2 hfw HRow HUn
      have HL := Lib.hid hok1.s
      clear p0 p1 hok1
      go_wp2
      go_loopw [3, 5] (fun v j wr => ∃ (m : Nat) (V : List Int) (a : Option Addr) (cv : Nat), m ≤ L.length ∧ v = .slice a V.length cv ∧ j = .int .i64 (m : Int) ∧ V.length ≤ cv ∧ Hid (SlI wr a V) ∧ Hid (V = usesB (L.take m) U) ∧ V.length ≤ U.length + m ∧ Hid (Below w.heap.size w wr)) (fun _ j _ => L.length - (intOf j).toNat)
      case atStart => exact ⟨0, U, au, cu, by omega, rfl, rfl, hcu, HS, Lib.hid rfl, by omega, HB⟩
      case round =>
        obtain ⟨m, V, av, cv, hm, rfl, rfl, hcv, HSv, HV, hVl, HBv⟩ := hrel
        obtain ⟨r2, q2⟩ := HRow.out wr HBv.out
        by_cases hml : m < L.length
        · obtain ⟨b, o, rfl, t0, t1, t2, t3, hbl⟩ := SlPt_at (HL.out.below HBv.out) hml
          have hmi : (m : Int) < (L.length : Int) := by omega
          have hmc : (m : Int) < (fpc : Int) := by omega
          have HV2 : Hid (insI (L.getD m default).ch V = usesB (L.take (m + 1)) U) := Lib.hid (by
            have e : L.take (m + 1) = L.take m ++ [L.getD m default] := by
              rw [List.take_succ_eq_append_getElem hml]
              congr 2
              simp [List.getD, hml]
            rw [e, usesB_snoc, HV.out])
          have hVl2 := insI_len (L.getD m default).ch V
          generalize L.getD m default = p at *
          obtain ⟨po, pl, pc, pa⟩ := p
          dsimp only at t0 t1 t2 t3 HV2 hVl2
          have HCa := Lib.hid (HIn.out V pc av cv wr HSv.out hcv (by omega))
          clear t0 t1 t3
          go_wp2_with fail
          with_reducible refine Calls.mono HCa.out ?_
          rintro e w3 ⟨a3, c3, rfl, hc3, hS3, hB3⟩
          have HS3 := Lib.hid hS3
          have HB3 := Lib.hid (blw HBv.out hB3)
          clear hS3 hB3 HCa
          generalize insI pc V = V2 at *
          go_wp2
          exact ⟨⟨m + 1, V2, a3, c3, by omega, rfl, by go_num, hc3, HS3, HV2, by omega, HB3⟩, by simp [intOf]; omega⟩
        · obtain rfl : m = L.length := by omega
          have hltm : decide ((L.length : Int) < (L.length : Int)) = false := by simp
          have HU2 : Hid (V = usesS ((F.take (k + 1)).map FileM.pair) []) := Lib.hid (by rw [HUn.out, HV.out, List.take_length])
          clear hml
          go_wp2
          exact ⟨⟨k + 1, V, av, cv, by omega, rfl, by go_num, hcv, HSv, HU2, HBv⟩, by simp [intOf]; omega⟩
    · obtain rfl : k = F.length := by omega
      have hlt' : decide ((F.length : Int) < (F.length : Int)) = false := by simp
      have HU2 : Hid (U = usesS S.fs []) := Lib.hid (by rw [HU.out, List.take_length, HE.out])
      clear hlt
      go_wp2
      go_ret
      rw [← HU2.out]
      exact ⟨au, cu, rfl, hcu, HS.out, HB.out⟩
end Go.Proofs.YtiegadfhgccliaaGreatDoor
set_option linter.unusedVariables false
namespace Go.Proofs.YtiegadfhgccliaaGreatDoor
open Go.RowKit Go.Lib
open Go.ChangeMaps (setBlock)

set_option maxRecDepth 100000 in
set_option maxHeartbeats 8000000 in
theorem law12_same (b : Bd) (a a2 : Option Addr) (c c2 : Nat) (w : World) (hS : SlPt w a b.parts) (hc : b.parts.length ≤ c) (hS2 : SlPt w a2 b.parts) (hc2 : b.parts.length ≤ c2) (hl : b.parts.length ≤ 1000000000) :
    Calls Tryz.prog 54 #[.agg #[.int .i64 b.size, .slice a b.parts.length c], .agg #[.int .i64 b.size, .slice a2 b.parts.length c2]] w fun e w' => e = .returned (.bool true) ∧ Below w.heap.size w w' := by
  obtain ⟨size, L⟩ := b
  dsimp only at *
  have hb0 := Below.heap_alloc (w.alloc (.cells #[.int .i64 size, .slice a L.length c] 47)) (.cells #[.int .i64 size, .slice a2 L.length c2] 68) w.heap.size (by simp)
  rw [heap_alloc_new] at hb0
  have hb1 := heap_alloc_new (w.alloc (.cells #[.int .i64 size, .slice a L.length c] 47)) (.cells #[.int .i64 size, .slice a2 L.length c2] 68)
  have hsv1 : (w.alloc (.cells #[.int .i64 size, .slice a L.length c] 47)).heap.size = w.heap.size + 1 := by simp
  rw [hsv1] at hb1
  have hBV : Below w.heap.size w ((w.alloc (.cells #[.int .i64 size, .slice a L.length c] 47)).alloc (.cells #[.int .i64 size, .slice a2 L.length c2] 68)) := ((Below.refl _ _).alloc (Nat.le_refl _) _).alloc (by omega) _
  have hsV : ((w.alloc (.cells #[.int .i64 size, .slice a L.length c] 47)).alloc (.cells #[.int .i64 size, .slice a2 L.length c2] 68)).heap.size = w.heap.size + 2 := by simp
  have HS := Lib.hid hS
  have HS2 := Lib.hid hS2
  clear hS hS2
  go_enter Tryz.func54, Tryz.ntmps54
  go_upto_region 1 with (fail)
  generalize (w.alloc (.cells #[.int .i64 size, .slice a L.length c] 47)).alloc (.cells #[.int .i64 size, .slice a2 L.length c2] 68) = V at *
  clear hsv1
  have HB := Lib.hid hBV
  have HK : Hid (∀ X, Below V.heap.size V X → X.cell? ⟨w.heap.size, 0, none⟩ = some (.int .i64 size) ∧ X.cell? ⟨w.heap.size, 1, none⟩ = some (.slice a L.length c) ∧ X.cell? ⟨w.heap.size + 1, 0, none⟩ = some (.int .i64 size) ∧ X.cell? ⟨w.heap.size + 1, 1, none⟩ = some (.slice a2 L.length c2)) := Lib.hid fun X h => by
    unfold World.cell?
    rw [h.block w.heap.size (by omega), h.block (w.heap.size + 1) (by omega), hb0, hb1]
    exact ⟨rfl, rfl, rfl, rfl⟩
  obtain ⟨e0, e1, e2, e3⟩ := HK.out V (Below.refl _ _)
  clear hb0 hb1 hBV
  go_wp2
  go_loopw [5] (fun i wr => ∃ k : Nat, k ≤ L.length ∧ i = .int .i64 (k : Int) ∧ Hid (Below V.heap.size V wr)) (fun i _ => L.length - (intOf i).toNat)
  case atStart => exact ⟨0, by omega, rfl, Lib.hid (Below.refl _ _)⟩
  case round =>
    obtain ⟨k, hk, rfl, HBr⟩ := hrel
    obtain ⟨e0, e1, e2, e3⟩ := HK.out wr HBr.out
    have hsr := HBr.out.size
    have hw0 : w.heap.size < wr.heap.size := by omega
    have hw1 : w.heap.size + 1 < wr.heap.size := by omega
    by_cases hlt : k < L.length
    · obtain ⟨b1, o1, rfl, p0, p1, p2, p3, hbl⟩ := SlPt_at ((HS.out.below HB.out).below HBr.out) hlt
      obtain ⟨b2, o2, rfl, q0, q1, q2, q3, hbl2⟩ := SlPt_at ((HS2.out.below HB.out).below HBr.out) hlt
      have hki : (k : Int) < (L.length : Int) := by omega
      have hkc : (k : Int) < (c : Int) := by omega
      have hkc2 : (k : Int) < (c2 : Int) := by omega
      generalize L.getD k default = p at *
      obtain ⟨po, pl, pc, pa⟩ := p
      dsimp only at p0 p1 p2 p3 q0 q1 q2 q3
      go_upto_region 6 with (fail)
      go_region
      · have h1 := heap_alloc_new wr (.cells #[.int .i64 po, .int .i64 pl, .int .i64 pc, .int .i64 pa] 40)
        have h2 := heap_alloc_new (wr.alloc (.cells #[.int .i64 po, .int .i64 pl, .int .i64 pc, .int .i64 pa] 40)) (.cells #[.int .i64 po, .int .i64 pl, .int .i64 pc, .int .i64 pa] 87)
        have hs1 : (wr.alloc (.cells #[.int .i64 po, .int .i64 pl, .int .i64 pc, .int .i64 pa] 40)).heap.size = wr.heap.size + 1 := by simp
        have h3 := (Below.heap_alloc (wr.alloc (.cells #[.int .i64 po, .int .i64 pl, .int .i64 pc, .int .i64 pa] 40)) (.cells #[.int .i64 po, .int .i64 pl, .int .i64 pc, .int .i64 pa] 87) wr.heap.size (by omega)).trans h1
        rw [hs1] at h2
        have hBx : Below V.heap.size V ((wr.alloc (.cells #[.int .i64 po, .int .i64 pl, .int .i64 pc, .int .i64 pa] 40)).alloc (.cells #[.int .i64 po, .int .i64 pl, .int .i64 pc, .int .i64 pa] 87)).drew := below_drewN' ((HBr.out.alloc hsr _).alloc (by omega) _) 1
        replace h2 : ((wr.alloc (.cells #[.int .i64 po, .int .i64 pl, .int .i64 pc, .int .i64 pa] 40)).alloc (.cells #[.int .i64 po, .int .i64 pl, .int .i64 pc, .int .i64 pa] 87)).drew.heap[wr.heap.size + 1]? = _ := h2
        replace h3 : ((wr.alloc (.cells #[.int .i64 po, .int .i64 pl, .int .i64 pc, .int .i64 pa] 40)).alloc (.cells #[.int .i64 po, .int .i64 pl, .int .i64 pc, .int .i64 pa] 87)).drew.heap[wr.heap.size]? = _ := h3
        have HBx := Lib.hid hBx
        clear hBx h1 hs1
        generalize ((wr.alloc (.cells #[.int .i64 po, .int .i64 pl, .int .i64 pc, .int .i64 pa] 40)).alloc (.cells #[.int .i64 po, .int .i64 pl, .int .i64 pc, .int .i64 pa] 87)).drew = X at *
        obtain ⟨x0, x1, x2, x3, -⟩ := b4_cells h2
        obtain ⟨y0, y1, y2, y3, -⟩ := b4_cells h3
        clear h2 h3
        go_wp2
        exact ⟨⟨k + 1, by omega, by go_num, HBx⟩, by simp [intOf]; omega⟩
      · have h1 := heap_alloc_new wr (.cells #[.int .i64 po, .int .i64 pl, .int .i64 pc, .int .i64 pa] 87)
        have h2 := heap_alloc_new (wr.alloc (.cells #[.int .i64 po, .int .i64 pl, .int .i64 pc, .int .i64 pa] 87)) (.cells #[.int .i64 po, .int .i64 pl, .int .i64 pc, .int .i64 pa] 40)
        have hs1 : (wr.alloc (.cells #[.int .i64 po, .int .i64 pl, .int .i64 pc, .int .i64 pa] 87)).heap.size = wr.heap.size + 1 := by simp
        have h3 := (Below.heap_alloc (wr.alloc (.cells #[.int .i64 po, .int .i64 pl, .int .i64 pc, .int .i64 pa] 87)) (.cells #[.int .i64 po, .int .i64 pl, .int .i64 pc, .int .i64 pa] 40) wr.heap.size (by omega)).trans h1
        rw [hs1] at h2
        have hBx : Below V.heap.size V ((wr.alloc (.cells #[.int .i64 po, .int .i64 pl, .int .i64 pc, .int .i64 pa] 87)).alloc (.cells #[.int .i64 po, .int .i64 pl, .int .i64 pc, .int .i64 pa] 40)).drew := below_drewN' ((HBr.out.alloc hsr _).alloc (by omega) _) 1
        replace h2 : ((wr.alloc (.cells #[.int .i64 po, .int .i64 pl, .int .i64 pc, .int .i64 pa] 87)).alloc (.cells #[.int .i64 po, .int .i64 pl, .int .i64 pc, .int .i64 pa] 40)).drew.heap[wr.heap.size + 1]? = _ := h2
        replace h3 : ((wr.alloc (.cells #[.int .i64 po, .int .i64 pl, .int .i64 pc, .int .i64 pa] 87)).alloc (.cells #[.int .i64 po, .int .i64 pl, .int .i64 pc, .int .i64 pa] 40)).drew.heap[wr.heap.size]? = _ := h3
        have HBx := Lib.hid hBx
        clear hBx h1 hs1
        generalize ((wr.alloc (.cells #[.int .i64 po, .int .i64 pl, .int .i64 pc, .int .i64 pa] 87)).alloc (.cells #[.int .i64 po, .int .i64 pl, .int .i64 pc, .int .i64 pa] 40)).drew = X at *
        obtain ⟨x0, x1, x2, x3, -⟩ := b4_cells h2
        obtain ⟨y0, y1, y2, y3, -⟩ := b4_cells h3
        clear h2 h3
        go_wp2
        exact ⟨⟨k + 1, by omega, by go_num, HBx⟩, by simp [intOf]; omega⟩
    · obtain rfl : k = L.length := by omega
      have hlt' : decide ((L.length : Int) < (L.length : Int)) = false := by simp
      have HF := Lib.hid (blw HB.out HBr.out)
      clear hlt
      go_wp2
      go_ret
      exact ⟨rfl, HF.out⟩
end Go.Proofs.YtiegadfhgccliaaGreatDoor
namespace Go.Proofs.YtiegadfhgccliaaGreatDoor
open Go.RowKit Go.Lib Go.Maps
open Go.ChangeMaps (setBlock)

theorem iti_left {w : World} {mb r : Nat} {M left : List (Int × Value)} (h : MapIt intKey w mb r M left) : w.rangeLeft mb r = left.length := by
  obtain ⟨es, clock, since, seen, c0, a, _, _, d, _, _, _, e⟩ := h
  have := congrArg List.length e
  rw [List.length_map, List.length_map, Array.length_toList] at this
  simp only [World.rangeLeft, a, d]
  exact this
section ops
variable {ops : Array Oper} {rest : List Oper} {o : Oper} {a : Act} {Q : Exit → Act → World → Prop} {P : Program}
theorem wpList_next_fm (w : World) (hg : o.guard = none) (it : Operand) (hop : o.op = Op.next it false) (mb r : Nat) (L left : List FileM)
    (hit : a.eval it = .pointer (some ⟨r, 0, none⟩)) (h : MapIt intKey w mb r (L.map FileM.ent) (left.map FileM.ent))
    (hDone : left = [] → wpList P ops Q rest (a.put o.dst (.tuple #[.bool false])) w)
    (hMore : ∀ i (f : FileM) w1 ob, left[i]? = some f → (w1 = w ∨ w1 = w.drew) → MapIt intKey (setBlock w1 r ob) mb r (L.map FileM.ent) ((left.eraseIdx i).map FileM.ent) →
      (Instr.entry (.pointer (some ⟨r, 0, none⟩))).run P (setBlock w1 r ob) = .ok (.tuple #[.int .i64 f.id, bdV f.bd f.a f.c]) (setBlock w1 r ob) → wpList P ops Q rest (a.put o.dst (.tuple #[.bool true, .int .i64 f.id, bdV f.bd f.a f.c])) (setBlock w1 r ob)) :
    wpList P ops Q (o :: rest) a w := by
  refine wpList_next_it w hg it hop intKey mb r (L.map FileM.ent) (left.map FileM.ent) hit h (fun e => hDone (List.map_eq_nil_iff.1 e)) fun i k v w1 ob hi hw1 hit2 hen => ?_
  rw [List.getElem?_map] at hi
  cases hn : left[i]? with
  | none => rw [hn] at hi; cases hi
  | some n =>
    rw [hn] at hi
    obtain ⟨rfl, rfl⟩ := Prod.mk.inj (Option.some.inj hi)
    refine hMore i n w1 ob hn hw1 ?_ hen
    have e : (left.eraseIdx i).map FileM.ent = (left.map FileM.ent).eraseIdx i := Go.ChangeMaps.map_eraseIdx _ _ _
    rw [e]; exact hit2
end ops
theorem nodup_len : ∀ {a b : List Int}, a.Nodup → a ⊆ b → a.length ≤ b.length
  | [], _, _, _ => Nat.zero_le _
  | x :: r, b, h, hs => by
    obtain ⟨h1, h2⟩ := List.nodup_cons.1 h
    have hx : x ∈ b := hs (by simp)
    have ih := nodup_len (a := r) (b := b.erase x) h2 fun y hy => (List.mem_erase_of_ne (fun e => h1 (by rw [← e]; exact hy))).2 (hs (by simp [hy]))
    rw [List.length_erase_of_mem hx] at ih
    have := List.length_pos_of_mem hx
    rw [List.length_cons]
    omega
/-- The pieces of these files. -/
def usesF (L : List FileM) (x : Int) : Prop := ∃ f ∈ L, ∃ p ∈ f.bd.parts, p.ch = x
set_option maxRecDepth 100000 in
set_option maxHeartbeats 16000000 in
/-- Uses. -/
theorem fold_uses (w : World) {sb tb mb lb : Nat} {S : FS} (hS : FoldP w sb tb mb lb S) (hI : FInv S) {N : Nat} (hN : FewP N S) (hN2 : N ≤ 1000000000) :
    Calls Tryz.prog 12 #[.pointer (some ⟨sb, 0, none⟩)] w fun e w' => ∃ a c, e = .returned (.slice a (usesS S.fs []).length c) ∧ (usesS S.fs []).length ≤ c ∧ (SlI w' a (usesS S.fs []) ∧ ∀ b o, a = some ⟨b, o, none⟩ → w.heap.size ≤ b) ∧ Below w.heap.size w w' := by
  have hfew : S.fs.length ≤ 64 := by
    have h1 : (S.fs.map (·.1)).Nodup := once_map.1 hI.once
    have h2 : (S.fs.map (·.1)) ⊆ S.t.L.map (·.id) := fun x hx => by
      obtain ⟨f, hf, rfl⟩ := List.mem_map.1 hx
      obtain ⟨n, hn, e, _⟩ := hI.only f hf
      exact List.mem_map.2 ⟨n, hn, e⟩
    have h3 := nodup_len h1 h2
    rw [List.length_map, List.length_map] at h3
    exact Nat.le_trans h3 hI.t.few
  have hmm := @run_makeMap Tryz.prog
  obtain ⟨l1, l2, l3, l4⟩ := hS.lt
  obtain ⟨g0, g1⟩ := hS.cells
  obtain ⟨F, f1, f2, f3⟩ := hS.f
  have hFl : F.length ≤ 64 := by have := f1.length_eq; rw [List.length_map] at this; omega
  have HF : Hid (∀ f ∈ F, SlPt w f.a f.bd.parts ∧ f.bd.parts.length ≤ f.c ∧ f.bd.parts.length ≤ N ∧ ∀ p ∈ f.bd.parts, 1 ≤ p.ch ∧ p.ch ≤ 4611686018427387904) := Lib.hid fun f hf => by
    have hm : f.pair ∈ S.fs := f1.mem_iff.1 (List.mem_map.2 ⟨f, hf, rfl⟩)
    refine ⟨(f3 f hf).1.s, (f3 f hf).2, hN _ hm, fun p hp => ?_⟩
    have hmay := hI.may _ hm
    obtain ⟨m1, m2, m3⟩ := mayBd_spec hmay
    have : ∀ (L : List Bp) (a : Int), mayFrom f.bd.size a L = true → ∀ p ∈ L, 1 ≤ p.ch ∧ p.ch ≤ 4611686018427387904 := fun L => by
      induction L with
      | nil => intro a _ p hp; cases hp
      | cons q r ih =>
        intro a h p hp
        obtain ⟨h1, _, _, h4⟩ := mayFrom_cons h
        have hq := fitsP_spec h1
        rcases List.mem_cons.1 hp with rfl | hp
        · omega
        · exact ih _ h4 p hp
    exact this _ _ m3 p hp
  have HU : Hid (∀ x, usesF F x ↔ x ∈ usesS S.fs []) := Lib.hid fun x => by
    rw [usesS_mem]
    constructor
    · rintro ⟨f, h1, h2⟩
      exact .inr ⟨f.pair, f1.mem_iff.1 (List.mem_map.2 ⟨f, h1, rfl⟩), h2⟩
    · rintro (h | ⟨f, h1, h2⟩)
      · cases h
      · obtain ⟨g, hg, rfl⟩ := List.mem_map.1 (f1.mem_iff.2 h1)
        exact ⟨g, hg, h2⟩
  have HM := Lib.hid f2
  clear hS hI hN f1 f2 f3 hfew
  have hB0 : Below w.heap.size w (w.alloc (.map #[] 0)) := (Below.refl _ _).alloc (Nat.le_refl _) _
  have hk1 : (w.alloc (.map #[] 0)).cell? ⟨sb, 1, none⟩ = some (.map (some lb)) := (hB0.cell (p := ⟨sb, 1, none⟩) l1).trans g1
  have HM1 : Hid (MapIs intKey (w.alloc (.map #[] 0)) lb (F.map FileM.ent)) := Lib.hid (HM.out.of_block (hB0.block lb l4))
  have HMh := Lib.hid (MapIs.new intKey w)
  have HB0 := Lib.hid hB0
  clear hB0
  go_enter Tryz.func12, Tryz.ntmps12
  go_wp2_with (at_range; refine wpList_range_it _ rfl _ 78 rfl 3 47 intKey Tryz.underlying78 lb _ rfl HM1.out ?_; intro ob hit)
  go_frame
  have HIt := Lib.hid hit
  clear hit
  have hsz0 : (w.alloc (.map #[] 0)).heap.size = w.heap.size + 1 := by simp
  have HB1 : Hid (Below w.heap.size w ((w.alloc (.map #[] 0)).alloc ob)) := Lib.hid (HB0.out.alloc HB0.out.size ob)
  have HMh1 : Hid (MapIs intKey ((w.alloc (.map #[] 0)).alloc ob) w.heap.size (entsB [])) := Lib.hid (HMh.out.of_block (Below.heap_alloc _ _ _ (by omega)))
  have hlb : lb < w.heap.size := l4
  obtain ⟨r, hr⟩ : ∃ r, r = (w.alloc (.map #[] 0)).heap.size := ⟨_, rfl⟩
  rw [← hr] at HIt
  have hrr : r = w.heap.size + 1 := by omega
  obtain ⟨hb, hhb⟩ : ∃ hb, hb = w.heap.size := ⟨_, rfl⟩
  have HMh2 : Hid (MapIs intKey ((w.alloc (.map #[] 0)).alloc ob) hb (entsB [])) := by rw [hhb]; exact HMh1
  have HR := Lib.hid hr
  have HH := Lib.hid hhb
  have hrb : r = hb + 1 := by omega
  have hbw : w.heap.size ≤ hb := by omega
  have HRb := Lib.hid hrb
  rw [← HR.out, ← HH.out]
  generalize (w.alloc (.map #[] 0)).alloc ob = w0 at *
  clear hr hhb hrr hrb hsz0 hk1 HMh HMh1 HM1 HB0
  go_loopw [16] (fun _ wr => ∃ (left : List FileM) (K : List Int), Hid (MapIt intKey wr lb r (F.map FileM.ent) (left.map FileM.ent)) ∧ Hid (MapIs intKey wr hb (entsB K)) ∧ Hid (∀ x, (x ∈ K ∨ usesF left x) ↔ usesF F x) ∧ Hid (∀ f ∈ left, f ∈ F) ∧ Hid (Below w.heap.size w wr) ∧ Hid (K.length + left.length * N ≤ F.length * N)) (fun _ wr => wr.rangeLeft lb r)
  case atStart => exact ⟨F, [], HIt, HMh2, Lib.hid fun x => by simp, Lib.hid fun f h => h, HB1, Lib.hid (by simp)⟩
  case round =>
    obtain ⟨left, K, HI, HK, HX, HL, HB, HN⟩ := hrel
    go_wp2_with (at_next; refine wpList_next_fm _ rfl _ rfl lb r F left rfl HI.out ?_ ?_)
    · intro hnil
      subst hnil
      have hKm : ∀ x, x ∈ K ↔ x ∈ usesS S.fs [] := fun x => by
        rw [← HU.out x, ← HX.out x]
        constructor
        · exact .inl
        · rintro (h | ⟨f, h1, _⟩)
          · exact h
          · cases h1
      have hKb : ∀ x ∈ K, 1 ≤ x ∧ x ≤ 4611686018427387904 := fun x hx => by
        obtain ⟨f, h1, p, h2, h3⟩ := (HX.out x).1 (.inl hx)
        rw [← h3]
        exact (HF.out f h1).2.2.2 p h2
      have hNN := HN.out
      have hKl : K.length ≤ 1000000000000 := by
        have : F.length * N ≤ 64 * 1000000000 := Nat.mul_le_mul hFl hN2
        simp at hNN
        omega
      have HSo := Lib.hid (sorted_int wr HK.out hKb hKl (usesS_rise (L := S.fs) rise_nil) hKm)
      have HKe := Lib.hid (keys_int hb wr)
      clear hKm hKb hNN hKl
      go_wp2_with fail
      with_reducible refine Calls.mono HKe.out ?_
      rintro e w2 ⟨rfl, rfl⟩
      go_wp2_with fail
      with_reducible refine Calls.mono HSo.out ?_
      rintro e w3 ⟨a3, c3, rfl, hc3, ⟨hS3, hfr⟩, hB3⟩
      have HS3 := Lib.hid (show SlI w3 a3 (usesS S.fs []) ∧ ∀ b o, a3 = some ⟨b, o, none⟩ → w.heap.size ≤ b from ⟨hS3, fun b o e => Nat.le_trans HB.out.size (hfr b o e)⟩)
      clear hfr
      have HB3 := Lib.hid ((HB.out.alloc HB.out.size _).trans (hB3.mono (HB.out.alloc HB.out.size _).size))
      clear hS3 hB3
      go_wp2
      go_ret
      exact ⟨a3, c3, rfl, hc3, HS3.out, HB3.out⟩
    · intro i f w1 ob1 hi1 hw1 hit1 hen
      have hmem := HL.out f (List.mem_of_getElem? hi1)
      obtain ⟨s1, s2, s3, s4⟩ := HF.out f hmem
      have hBw1 : Below w.heap.size w w1 := by rcases hw1 with rfl | rfl; exact HB.out; exact below_drewN' HB.out 1
      have hKw1 : MapIs intKey w1 hb (entsB K) := by rcases hw1 with rfl | rfl; exact HK.out; exact HK.out.of_block rfl
      have hB1 : Below w.heap.size w (setBlock w1 r ob1) := below_setBlock hBw1 (by have := HRb.out; omega) ob1
      have hK1 : MapIs intKey (setBlock w1 r ob1) hb (entsB K) := hKw1.of_block (heap_setBlock_ne _ _ _ _ (by have := HRb.out; omega))
      have hil := (List.getElem?_eq_some_iff.1 hi1).1
      have HLen := Lib.hid (show (left.eraseIdx i).length + 1 = left.length by rw [List.length_eraseIdx, if_pos hil]; omega)
      have HLft := Lib.hid (iti_left HI.out)
      have HX1 : Hid (∀ x, (x ∈ K ∨ (∃ p ∈ f.bd.parts, p.ch = x) ∨ usesF (left.eraseIdx i) x) ↔ usesF F x) := Lib.hid fun x => by
        rw [← HX.out x]
        have hpm := perm_erase hi1
        refine or_congr_right ?_
        constructor
        · rintro (h | ⟨g, h1, h2⟩)
          · exact ⟨f, hpm.mem_iff.2 (by simp), h⟩
          · exact ⟨g, hpm.mem_iff.2 (by simp [h1]), h2⟩
        · rintro ⟨g, h1, h2⟩
          rcases List.mem_cons.1 (hpm.mem_iff.1 h1) with rfl | h1
          · exact .inl h2
          · exact .inr ⟨g, h1, h2⟩
      have HL1 : Hid (∀ x ∈ left.eraseIdx i, x ∈ F) := fun x hx => HL.out x (List.mem_of_mem_eraseIdx hx)
      obtain ⟨fid, ⟨fsz, fp⟩, fa, fc⟩ := f
      dsimp only at hen s1 s2 s3 s4 HX1
      have HUs : Hid (∀ W, Below w.heap.size w W → Calls Tryz.prog 33 #[.agg #[.int .i64 fsz, .slice fa fp.length fc]] W fun e w' => ∃ a2 c2, e = .returned (.slice a2 (usesB fp []).length c2) ∧ (usesB fp []).length ≤ c2 ∧ SlI w' a2 (usesB fp []) ∧ Below W.heap.size W w') := Lib.hid fun W h => buses_any ⟨fsz, fp⟩ fa fc W (s1.below h) s2 (by show fp.length ≤ _; omega) s4
      have HUl := Lib.hid (usesB_len fp [])
      have HUm : Hid (∀ x, x ∈ usesB fp [] ↔ ∃ p ∈ fp, p.ch = x) := Lib.hid fun x => by rw [usesB_mem]; simp
      have hul : (usesB fp []).length ≤ 1000000000 := by have := usesB_len fp []; simp at this; omega
      have HB1 := Lib.hid hB1
      have HK1 := Lib.hid hK1
      have HI1 := Lib.hid hit1
      have HN1 := Lib.hid s3
      clear hw1 hit1 hBw1 hKw1 hB1 hK1 hmem hi1 HI HB HK HX s1 s2 s3 s4 hil
      generalize setBlock w1 r ob1 = W at *
      go_upto_region 7 with (fail)
      have hbx := heap_alloc_new W (.cells #[.int .i64 fsz, .slice fa fp.length fc] 47)
      have HB2 : Hid (Below w.heap.size w (W.alloc (.cells #[.int .i64 fsz, .slice fa fp.length fc] 47))) := Lib.hid (HB1.out.alloc HB1.out.size _)
      have HK2 := Lib.hid (HK1.out.of_block (w' := W.alloc (.cells #[.int .i64 fsz, .slice fa fp.length fc] 47)) (Below.heap_alloc _ _ _ HK1.out.lt))
      have HI2 := Lib.hid (HI1.out.alloc (.cells #[.int .i64 fsz, .slice fa fp.length fc] 47))
      obtain ⟨q0, q1⟩ := b2_facts hbx
      generalize W.alloc (.cells #[.int .i64 fsz, .slice fa fp.length fc] 47) = W2 at *
      clear hen hbx HB1 HK1 HI1
      go_wp2_with fail
      refine (HUs.out _ HB2.out).mono ?_
      rintro e W3 ⟨a2, c2, rfl, hc2, hS2, hB3⟩
      have HS2 := Lib.hid hS2
      have HB3 := Lib.hid (blw HB2.out hB3)
      have HK3 := Lib.hid (HK2.out.of_block (hB3.block hb HK2.out.lt))
      have HI3 := Lib.hid (HI2.out.of_blocks (hB3.block lb HI2.out.is.lt) (hB3.block r HI2.out.lt))
      have HS2w : Hid (∀ X, Turn [hb] W3 X → SlI X a2 (usesB fp [])) := Lib.hid fun X h => by
        cases hU : usesB fp [] with
        | nil => exact .inl rfl
        | cons x y =>
          rw [hU] at hS2
          rcases hS2 with h0 | ⟨b, o, e, hr⟩
          · cases h0
          · refine .inr ⟨b, o, e, hr.turn h ?_⟩
            intro hm
            have c0 := hr.at_ 0 (by simp) 0 _ rfl
            obtain ⟨es, clock, hbk, _⟩ := HK3.out
            rw [List.mem_singleton.1 hm] at c0
            unfold World.cell? at c0
            rw [hbk] at c0
            simp at c0
      clear q0 q1 hS2 hB3 HB2 HK2 HI2 HUs
      generalize usesB fp [] = U at *
      go_wp2
      go_loopw [23] (fun j wq => ∃ (k : Nat) (K2 : List Int), k ≤ U.length ∧ j = .int .i64 (k : Int) ∧ Hid (MapIs intKey wq hb (entsB K2)) ∧ Hid (∀ x, x ∈ K2 ↔ x ∈ K ∨ x ∈ U.take k) ∧ K2.length ≤ K.length + k ∧ Hid (Turn [hb] W3 wq)) (fun j _ => U.length - (intOf j).toNat)
      case atStart => exact ⟨0, K, by omega, rfl, HK3, Lib.hid (by simp), by omega, Lib.hid (Turn.refl _ _)⟩
      case round =>
        obtain ⟨k, K2, hk, rfl, HM2, HX2, hkl, HT2⟩ := hrel
        by_cases hlt : k < U.length
        · obtain ⟨bb, o, rfl, c0, _⟩ := SlI_at (HS2w.out _ HT2.out) hlt
          have hki : (k : Int) < (U.length : Int) := by omega
          have hkc : (k : Int) < (c2 : Int) := by omega
          have HT : Hid (U.take (k + 1) = U.take k ++ [U.getD k default]) := by
            rw [List.take_succ_eq_append_getElem hlt]
            refine Lib.hid ?_
            congr 2
            simp [List.getD, hlt]
          generalize U.getD k default = ch at *
          obtain ⟨ob, hput⟩ := run_put (P := Tryz.prog) intKey HM2.out Tryz.underlying88 Tryz.underlying3 ch (.bool true)
          obtain ⟨p1, p2⟩ := hput wr rfl
          rw [mput_true] at p2
          have HP2 := Lib.hid p2
          replace p1 : (Instr.mapUpdate 88 (.map (some hb)) (.int .i64 ch) (.bool true)).run Tryz.prog wr = .ok () (setBlock wr hb ob) := p1
          clear hput p2
          go_wp2
          refine ⟨⟨k + 1, addK ch K2, by omega, by go_num, HP2, ?_, by have := addK_len ch K2; omega, Lib.hid (HT2.out.setBlock (.inl (by simp)) ob)⟩, by simp [intOf]; omega⟩
          refine Lib.hid fun x => ?_
          rw [HT.out, addK_mem, HX2.out x, List.mem_append, List.mem_singleton]
          constructor
          · rintro (h | h | h)
            · exact .inr (.inr h)
            · exact .inl h
            · exact .inr (.inl h)
          · rintro (h | h | h)
            · exact .inr (.inl h)
            · exact .inr (.inr h)
            · exact .inl h
        · obtain rfl : k = U.length := by omega
          have hlt' : decide ((U.length : Int) < (U.length : Int)) = false := by simp
          clear hlt
          have hn1 := HRb.out
          have hI4 := HI3.out.of_blocks (HT2.out.block lb HI3.out.is.lt (by simp; omega)) (HT2.out.block r HI3.out.lt (by simp; omega))
          have HI4 := Lib.hid hI4
          clear hI4 hn1
          go_wp2
          refine ⟨⟨left.eraseIdx i, K2, HI4, HM2, ?_, HL1, Lib.hid (HT2.out.below HB3.out (by intro x hx; simp at hx; omega)), ?_⟩, ?_⟩
          · refine Lib.hid fun x => ?_
            rw [← HX1.out x, HX2.out x, List.take_length, HUm.out x, or_assoc]
          · refine Lib.hid ?_
            have h1 := HN.out
            have h2 := HLen.out
            have h3 := HUl.out
            have h4 := HN1.out
            simp at h3
            rw [← h2, Nat.add_mul] at h1
            omega
          · rw [iti_left HI4.out, HLft.out, List.length_map, List.length_map]
            have := HLen.out
            omega
end Go.Proofs.YtiegadfhgccliaaGreatDoor
