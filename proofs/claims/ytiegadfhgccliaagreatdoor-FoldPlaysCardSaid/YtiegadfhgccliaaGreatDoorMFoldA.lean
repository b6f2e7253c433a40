/- Walks: slices.Sorted(maps.Keys(set)), body.Uses, fold's Tree, Uses. -/
import Derived.Test.YtiegadfhgccliaaGreatDoorMFoldU
import Derived.Test.YtiegadfhgccliaaGreatDoorMIterI
namespace Go.Proofs.YtiegadfhgccliaaGreatDoor
open Go.RowKit Go.Lib
open Go.ChangeMaps (setBlock)

theorem applyS_ok {S : FS} {e : Ev} {l : List Bp} (h : checkS S e = 0) : applyS S e l =
    (if e.op = 1 then (⟨(makeS S.t e.path false).1, S.fs ++ [((makeS S.t e.path false).2.1, ⟨0, []⟩)]⟩, 0)
    else if e.op = 2 then (⟨(makeS S.t e.path true).1, S.fs⟩, 0)
    else if e.op = 3 then putS S e l
    else if e.op = 4 then (⟨S.t, setF S.fs (fileS S.t e.path).1 (truncS ((bodyOf S.fs (fileS S.t e.path).1).getD default) e.size).1⟩, 0)
    else if e.op = 5 then (⟨(renS S.t e.path e.to).1, dropF S.fs (renS S.t e.path e.to).2.1⟩, 0)
    else if e.op = 6 ∨ e.op = 7 then (⟨(dropS S.t e.path (decide (e.op = 7))).1, dropF S.fs (dropS S.t e.path (decide (e.op = 7))).2.1⟩, 0)
    else (S, 0)) := by unfold applyS; rw [if_pos h]
set_option maxRecDepth 100000 in
set_option maxHeartbeats 16000000 in
/-- Apply. -/
theorem fold_apply (e0 : Ev) (l : List Bp) (a a2 : Option Addr) (c c2 : Nat) (w : World) (hp : e0.path.size ≤ 100000) (hq : e0.to.size ≤ 100000) (hd : e0.data.length ≤ 1000000) {sb tb mb lb : Nat} {S : FS} (hS : FoldP w sb tb mb lb S) (hI : FInv S) (hm : MLen w)
    (hnx : S.t.nx ≤ 1000000000000) {N : Nat} (hN : FewP N S) (hN2 : N ≤ 1000000000) (hS2 : SlPt w a2 l) (hc2 : l.length ≤ c2) (hl : l.length ≤ 1000000) :
    Calls Tryz.prog 10 #[.pointer (some ⟨sb, 0, none⟩), evV e0 a c, .slice a2 l.length c2] w fun e w' => e = .returned (.int .i64 (applyS S e0 l).2) ∧ FoldP w' sb tb mb lb (applyS S e0 l).1 ∧ Turn [tb, mb, lb] w w' := by
  have HCk : Hid (∀ W, Below w.heap.size w W → Calls Tryz.prog 19 #[.pointer (some ⟨sb, 0, none⟩), evV e0 a c] W fun e w' => e = .returned (.int .i64 (checkS S e0)) ∧ Below W.heap.size W w') := fun W h => fold_check e0 a c W hp hq hd (hS.below h) hI.t (hm.below h)
  have HS := Lib.hid hS
  have HI := Lib.hid hI
  have HM := Lib.hid hm
  have HFw := Lib.hid hN
  have HS2 := Lib.hid hS2
  have hnx1 := hI.t.nx1
  obtain ⟨l1, l2, l3, l4⟩ := hS.lt
  obtain ⟨_, _, _, n1, n2, n3, n4, n5⟩ := hS.maps
  have n6 := hS.n
  obtain ⟨c0, c1⟩ := hS.cells
  obtain ⟨chk, hchk⟩ : ∃ x, checkS S e0 = x := ⟨_, rfl⟩
  rw [hchk] at HCk
  by_cases hck : chk = 0
  rotate_left
  · have hap : applyS S e0 l = (S, chk) := by unfold applyS; rw [if_neg (by rw [hchk]; exact hck), hchk]
    rw [hap]
    have hx1 : (chk == 0) = false := by rw [beq_eq_false_iff_ne]; exact hck
    have hx2 : (chk != 0) = true := by simp [hck]
    obtain ⟨op, path, dst, off, size, data⟩ := e0
    dsimp only [evV] at *
    have hB0 : Below w.heap.size w (w.alloc (.cells #[.int .i64 op, .string path, .string dst, .int .i64 off, .int .i64 size, .slice a data.length c] 31)) := (Below.refl _ _).alloc (Nat.le_refl _) _
    have hbx := heap_alloc_new w (.cells #[.int .i64 op, .string path, .string dst, .int .i64 off, .int .i64 size, .slice a data.length c] 31)
    obtain ⟨W, hW⟩ : ∃ W, W = w.alloc (.cells #[.int .i64 op, .string path, .string dst, .int .i64 off, .int .i64 size, .slice a data.length c] 31) := ⟨_, rfl⟩
    rw [← hW] at hB0 hbx
    obtain ⟨e0, e1, e2, e3, e4, e5⟩ := b6_cells hbx
    clear hS hI hm hN hS2 hck hchk hap
    go_enter Tryz.func10, Tryz.ntmps10
    go_upto_region 1 with (fail)
    rw [← hW]
    clear hW
    go_wp2_with fail
    refine (HCk.out _ hB0).mono ?_
    rintro e w1 ⟨rfl, hB1⟩
    go_wp2
    go_ret
    exact ⟨rfl, HS.out.below (blw hB0 hB1), .of_below (blw hB0 hB1)⟩
  subst hck
  have hchk2 := hchk
  unfold checkS at hchk2
  have hap := applyS_ok (l := l) hchk
  have HMk : Hid (∀ W (dir : Bool), Below w.heap.size w W → Calls Tryz.prog 27 #[.pointer (some ⟨tb, 0, none⟩), .string e0.path, .bool dir] W fun e w' => e = .returned (.tuple #[.int .i64 (makeS S.t e0.path dir).2.1, .int .i64 (makeS S.t e0.path dir).2.2]) ∧ TreeP w' tb mb (makeS S.t e0.path dir).1 ∧ Turn [tb, mb] W w') := fun W dir h => tree_make e0.path dir W (by unfold maxLen; omega) (hS.t.below h) hI.t.rises.apart (hm.below h) (by have := hI.t.few; omega) ⟨by omega, by omega⟩
  have HRn : Hid (∀ W, Below w.heap.size w W → Calls Tryz.prog 31 #[.pointer (some ⟨tb, 0, none⟩), .string e0.path, .string e0.to] W fun e w' => e = .returned (.tuple #[.int .i64 (renS S.t e0.path e0.to).2.1, .int .i64 (renS S.t e0.path e0.to).2.2]) ∧ TreeP w' tb mb (renS S.t e0.path e0.to).1 ∧ Turn [tb, mb] W w') := fun W h => tree_rename e0.path e0.to W hp hq (hS.t.below h) hI.t (hm.below h)
  have HDr : Hid (∀ W (dir : Bool), Below w.heap.size w W → Calls Tryz.prog 32 #[.pointer (some ⟨tb, 0, none⟩), .string e0.path, .bool dir] W fun e w' => e = .returned (.tuple #[.int .i64 (dropS S.t e0.path dir).2.1, .int .i64 (dropS S.t e0.path dir).2.2]) ∧ TreeP w' tb mb (dropS S.t e0.path dir).1 ∧ Turn [tb, mb] W w') := fun W dir h => tree_drop e0.path dir W hp (hS.t.below h) hI.t (hm.below h)
  have HPt : Hid ((fileS S.t e0.path).2 = 0 → ∀ W, Below w.heap.size w W → Calls Tryz.prog 28 #[.pointer (some ⟨sb, 0, none⟩), evV e0 a c, .slice a2 l.length c2] W fun e w' => e = .returned (.int .i64 (putS S e0 l).2) ∧ FoldP w' sb tb mb lb (putS S e0 l).1 ∧ Turn [lb] W w') := fun hf W h => fold_put e0 l a a2 c c2 W hp hd (hS.below h) hI (hm.below h) hf hN hN2 (hS2.below h) hc2 hl
  obtain ⟨i0, x0, hfi⟩ : ∃ i x, fileS S.t e0.path = (i, x) := ⟨_, _, rfl⟩
  have HF : Hid (∀ W, Below w.heap.size w W → Calls Tryz.prog 29 #[.pointer (some ⟨sb, 0, none⟩), .string e0.path] W fun e w' => e = .returned (.tuple #[.int .i64 i0, .int .i64 x0]) ∧ Below W.heap.size W w') := fun W h => fold_file e0.path W hp (hS.below h) hI.t (hm.below h) hfi
  obtain ⟨ba, bc, hbS, hbc, hlk, _⟩ := hS.look hI.once i0
  have hbl := getD_few hN i0
  have HTr : Hid (∀ W, Below w.heap.size w W → Calls Tryz.prog 30 #[.agg #[.int .i64 ((bodyOf S.fs i0).getD default).size, .slice ba ((bodyOf S.fs i0).getD default).parts.length bc], .int .i64 e0.size] W fun e w' => ∃ a3 c3, e = .returned (.tuple #[.agg #[.int .i64 (truncS ((bodyOf S.fs i0).getD default) e0.size).1.size, .slice a3 (truncS ((bodyOf S.fs i0).getD default) e0.size).1.parts.length c3], .int .i64 (truncS ((bodyOf S.fs i0).getD default) e0.size).2]) ∧
      (truncS ((bodyOf S.fs i0).getD default) e0.size).1.parts.length ≤ c3 ∧ SlPo w' a3 (truncS ((bodyOf S.fs i0).getD default) e0.size).1.parts ∧ Below W.heap.size W w') := Lib.hid fun W h => by
    refine (btrunc_any ((bodyOf S.fs i0).getD default) e0.size ba bc W (hbS.below h) hbc (by omega)).mono ?_
    rintro e w' ⟨v, rfl, hO, hB⟩
    obtain ⟨a3, c3, rfl, hc3, hS3, _⟩ := SlPo.own hO (.inl rfl)
    exact ⟨a3, c3, rfl, hc3, hS3, hB⟩
  have HLk : Hid (∀ W, Below w.heap.size w W → (Instr.lookup 78 (.map (some lb)) (.int .i64 i0) false).run Tryz.prog W = .ok (.agg #[.int .i64 ((bodyOf S.fs i0).getD default).size, .slice ba ((bodyOf S.fs i0).getD default).parts.length bc]) W) := fun W h => hlk W (h.block lb l4)
  have hB0 : Below w.heap.size w (w.alloc (.cells #[.int .i64 e0.op, .string e0.path, .string e0.to, .int .i64 e0.off, .int .i64 e0.size, .slice a e0.data.length c] 31)) := (Below.refl _ _).alloc (Nat.le_refl _) _
  have hbx := heap_alloc_new w (.cells #[.int .i64 e0.op, .string e0.path, .string e0.to, .int .i64 e0.off, .int .i64 e0.size, .slice a e0.data.length c] 31)
  have hsz : (w.alloc (.cells #[.int .i64 e0.op, .string e0.path, .string e0.to, .int .i64 e0.off, .int .i64 e0.size, .slice a e0.data.length c] 31)).heap.size = w.heap.size + 1 := by simp
  obtain ⟨W, hW⟩ : ∃ W, W = w.alloc (.cells #[.int .i64 e0.op, .string e0.path, .string e0.to, .int .i64 e0.off, .int .i64 e0.size, .slice a e0.data.length c] 31) := ⟨_, rfl⟩
  rw [← hW] at hB0 hbx hsz
  have hwW : w.heap.size < W.heap.size := by omega
  obtain ⟨op, path, dst, off, size, data⟩ := e0
  dsimp only [evV] at *
  generalize hnn : data.length = n at *
  clear hS hm hS2 hN hlk hbc
  by_cases h1 : op = 1
  · subst h1
    have hcan : canS S.t.L path = 0 := by rw [if_pos (.inl rfl)] at hchk2; exact hchk2
    have hap : applyS S ⟨1, path, dst, off, size, data⟩ l = (⟨(makeS S.t path false).1, S.fs ++ [((makeS S.t path false).2.1, ⟨0, []⟩)]⟩, 0) := by rw [hap, if_pos rfl]
    rw [hap]
    have hid0 : ∀ f ∈ S.fs, f.1 ≠ (makeS S.t path false).2.1 := fun f hf => by
      obtain ⟨nd, hn1, hn2, _⟩ := hI.only f hf
      have := hI.t.ids nd hn1
      have e : (makeS S.t path false).2.1 = S.t.nx := by unfold makeS; rw [if_pos hcan]
      rw [e]; omega
    have HId := Lib.hid hid0
    clear hap hchk2 hcan hid0 hI HRn HDr HPt HF HTr HLk hbl hbS hfi
    go_enter Tryz.func10, Tryz.ntmps10
    go_upto_region 1 with (fail)
    rw [← hW]
    clear hW
    obtain ⟨e0, e1, e2, e3, e4, e5⟩ := b6_cells hbx
    go_wp2_with fail
    refine (HCk.out _ hB0).mono ?_
    rintro e V ⟨rfl, hBV⟩
    have HBV := Lib.hid (blw hB0 hBV)
    have hbV := (hBV.block w.heap.size hwW).trans hbx
    have hsV := hBV.size
    clear e0 e1 e2 e3 e4 e5 hBV hbx HCk
    obtain ⟨e0, e1, e2, e3, e4, e5⟩ := b6_cells hbV
    have g0 := (HBV.out.cell (p := ⟨sb, 0, none⟩) l1).trans c0
    have g1 := (HBV.out.cell (p := ⟨sb, 1, none⟩) l1).trans c1
    have HBxV := Lib.hid hbV
    clear hbV c0 c1
    have HKt : Hid (∀ X, Turn [tb, mb] V X → X.cell? ⟨sb, 0, none⟩ = some (.pointer (some ⟨tb, 0, none⟩)) ∧ X.cell? ⟨w.heap.size, 0, none⟩ = some (.int .i64 1) ∧ X.cell? ⟨w.heap.size, 1, none⟩ = some (.string path) ∧ X.cell? ⟨w.heap.size, 2, none⟩ = some (.string dst)) := Lib.hid fun X h => ⟨(h.cell (p := ⟨sb, 0, none⟩) (by show sb < _; omega) (by simp; omega)).trans g0, (h.cell (p := ⟨w.heap.size, 0, none⟩) (by show w.heap.size < _; omega) (by simp; omega)).trans e0, (h.cell (p := ⟨w.heap.size, 1, none⟩) (by show w.heap.size < _; omega) (by simp; omega)).trans e1, (h.cell (p := ⟨w.heap.size, 2, none⟩) (by show w.heap.size < _; omega) (by simp; omega)).trans e2⟩
    go_upto_region 7 with (fail)
    go_region_held3 (fun w' => w'.cell? ⟨sb, 0, none⟩ = some (.pointer (some ⟨tb, 0, none⟩)) ∧ w'.cell? ⟨w.heap.size, 0, none⟩ = some (.int .i64 1) ∧ w'.cell? ⟨w.heap.size, 1, none⟩ = some (.string path) ∧ w'.cell? ⟨w.heap.size, 2, none⟩ = some (.string dst)) (first | go_keep | exact ⟨g0, e0, e1, e2⟩ | exact HKt.out _ HTn.out) (first | (go_at_call 27; refine (HMk.out _ false (by first | exact HBV.out | exact below_drewN' HBV.out 1)).mono ?_; rintro e w' ⟨rfl, hT2, hTn⟩; have HT2 := Lib.hid hT2; have HTn : Hid (Turn [tb, mb] V w') := Lib.hid ((Turn.of_below (bs := [tb, mb]) (by first | exact Below.refl _ _ | exact below_drewN' (Below.refl _ _) 1)).trans hTn); clear hT2 hTn))
    all_goals
      have hFT := (HS.out.below HBV.out).tree HTn.out HT2.out
      have hk1 := (HTn.out.cell (p := ⟨sb, 1, none⟩) (by show sb < _; omega) (by simp; omega)).trans g1
      have hk0 := HKt.out _ HTn.out
      obtain ⟨k0, k1, k2, k3⟩ := hk0
      have HTw : Hid (Turn [tb, mb, lb] w w') := Lib.hid ((Turn.of_below HBV.out).trans (HTn.out.mono (by intro x hx; simp at hx ⊢; omega)))
      obtain ⟨ob, hput⟩ := hFT.put (makeS S.t path false).2.1 ⟨0, []⟩ (a := none) (c := 0) (.nil _) (Nat.le_refl _)
      obtain ⟨p1, p2⟩ := hput w' rfl
      replace p1 : (Instr.mapUpdate 78 (.map (some lb)) (.int .i64 (makeS S.t path false).2.1) (.agg #[.int .i64 0, .slice none 0 0])).run Tryz.prog w' = .ok () (setBlock w' lb ob) := p1
      rw [putF_new HId.out] at p2
      have HP2 := Lib.hid p2
      clear hput p2 hFT HMk
      go_wp2
      go_ret
      exact ⟨rfl, HP2.out, HTw.out.setBlock (.inl (by simp)) ob⟩
  by_cases h2 : op = 2
  · subst h2
    have hap : applyS S ⟨2, path, dst, off, size, data⟩ l = (⟨(makeS S.t path true).1, S.fs⟩, 0) := by rw [hap, if_neg (by decide), if_pos rfl]
    rw [hap]
    clear hap hchk2 hI HRn HDr HPt HF HTr HLk hbl hbS hfi
    go_enter Tryz.func10, Tryz.ntmps10
    go_upto_region 1 with (fail)
    rw [← hW]
    clear hW
    obtain ⟨e0, e1, e2, e3, e4, e5⟩ := b6_cells hbx
    go_wp2_with fail
    refine (HCk.out _ hB0).mono ?_
    rintro e V ⟨rfl, hBV⟩
    have HBV := Lib.hid (blw hB0 hBV)
    have hbV := (hBV.block w.heap.size hwW).trans hbx
    have hsV := hBV.size
    clear e0 e1 e2 e3 e4 e5 hBV hbx HCk
    obtain ⟨e0, e1, e2, e3, e4, e5⟩ := b6_cells hbV
    have g0 := (HBV.out.cell (p := ⟨sb, 0, none⟩) l1).trans c0
    have g1 := (HBV.out.cell (p := ⟨sb, 1, none⟩) l1).trans c1
    have HBxV := Lib.hid hbV
    clear hbV c0 c1
    have HKt : Hid (∀ X, Turn [tb, mb] V X → X.cell? ⟨sb, 0, none⟩ = some (.pointer (some ⟨tb, 0, none⟩)) ∧ X.cell? ⟨w.heap.size, 0, none⟩ = some (.int .i64 2) ∧ X.cell? ⟨w.heap.size, 1, none⟩ = some (.string path) ∧ X.cell? ⟨w.heap.size, 2, none⟩ = some (.string dst)) := Lib.hid fun X h => ⟨(h.cell (p := ⟨sb, 0, none⟩) (by show sb < _; omega) (by simp; omega)).trans g0, (h.cell (p := ⟨w.heap.size, 0, none⟩) (by show w.heap.size < _; omega) (by simp; omega)).trans e0, (h.cell (p := ⟨w.heap.size, 1, none⟩) (by show w.heap.size < _; omega) (by simp; omega)).trans e1, (h.cell (p := ⟨w.heap.size, 2, none⟩) (by show w.heap.size < _; omega) (by simp; omega)).trans e2⟩
    go_upto_region 7 with (fail)
    go_region_held3 (fun w' => w'.cell? ⟨sb, 0, none⟩ = some (.pointer (some ⟨tb, 0, none⟩)) ∧ w'.cell? ⟨w.heap.size, 0, none⟩ = some (.int .i64 2) ∧ w'.cell? ⟨w.heap.size, 1, none⟩ = some (.string path) ∧ w'.cell? ⟨w.heap.size, 2, none⟩ = some (.string dst)) (first | go_keep | exact ⟨g0, e0, e1, e2⟩ | exact HKt.out _ HTn.out) (first | (go_at_call 27; refine (HMk.out _ true (by first | exact HBV.out | exact below_drewN' HBV.out 1)).mono ?_; rintro e w' ⟨rfl, hT2, hTn⟩; have HT2 := Lib.hid hT2; have HTn : Hid (Turn [tb, mb] V w') := Lib.hid ((Turn.of_below (bs := [tb, mb]) (by first | exact Below.refl _ _ | exact below_drewN' (Below.refl _ _) 1)).trans hTn); clear hT2 hTn))
    all_goals
      have hFT := (HS.out.below HBV.out).tree HTn.out HT2.out
      have hk1 := (HTn.out.cell (p := ⟨sb, 1, none⟩) (by show sb < _; omega) (by simp; omega)).trans g1
      have hk0 := HKt.out _ HTn.out
      obtain ⟨k0, k1, k2, k3⟩ := hk0
      have HTw : Hid (Turn [tb, mb, lb] w w') := Lib.hid ((Turn.of_below HBV.out).trans (HTn.out.mono (by intro x hx; simp at hx ⊢; omega)))
      have HFT := Lib.hid hFT
      clear hFT HMk
      go_wp2
      go_ret
      exact ⟨rfl, HFT.out, HTw.out⟩
  rw [if_neg (by omega)] at hchk2
  by_cases h3 : op = 3
  · subst h3
    rw [if_pos rfl] at hchk2
    have hx0 : x0 = 0 := by
      rw [hfi] at hchk2
      by_cases h : x0 = 0
      · exact h
      · rw [if_neg h] at hchk2; exact hchk2
    have hap : applyS S ⟨3, path, dst, off, size, data⟩ l = putS S ⟨3, path, dst, off, size, data⟩ l := by rw [hap, if_neg (by decide), if_neg (by decide), if_pos rfl]
    rw [hap]
    have HPt := Lib.hid (HPt.out (by rw [hfi]; exact hx0))
    generalize putS S ⟨3, path, dst, off, size, data⟩ l = R at *
    obtain ⟨S', rc⟩ := R
    dsimp only at HPt ⊢
    clear hap hchk2 hI HRn HDr HMk HF HTr HLk hbl hbS hfi hx0
    go_enter Tryz.func10, Tryz.ntmps10
    go_upto_region 1 with (fail)
    rw [← hW]
    clear hW
    obtain ⟨e0, e1, e2, e3, e4, e5⟩ := b6_cells hbx
    go_wp2_with fail
    refine (HCk.out _ hB0).mono ?_
    rintro e V ⟨rfl, hBV⟩
    have HBV := Lib.hid (blw hB0 hBV)
    have hbV := (hBV.block w.heap.size hwW).trans hbx
    have hsV := hBV.size
    clear e0 e1 e2 e3 e4 e5 hBV hbx HCk
    obtain ⟨e0, e1, e2, e3, e4, e5⟩ := b6_cells hbV
    have g0 := (HBV.out.cell (p := ⟨sb, 0, none⟩) l1).trans c0
    have g1 := (HBV.out.cell (p := ⟨sb, 1, none⟩) l1).trans c1
    have HBxV := Lib.hid hbV
    clear hbV c0 c1
    go_wp2_with fail
    refine (HPt.out _ HBV.out).mono ?_
    rintro e w' ⟨rfl, hF2, hTn⟩
    have HF2 := Lib.hid hF2
    have HTw : Hid (Turn [tb, mb, lb] w w') := Lib.hid ((Turn.of_below HBV.out).trans (hTn.mono (by simp)))
    clear hF2 hTn
    go_wp2
    go_ret
    exact ⟨rfl, HF2.out, HTw.out⟩
  rw [if_neg h3] at hchk2
  by_cases h4 : op = 4
  · subst h4
    rw [if_pos rfl] at hchk2
    have hx0 : x0 = 0 := by
      rw [hfi] at hchk2
      by_cases h : x0 = 0
      · exact h
      · rw [if_neg h] at hchk2; exact hchk2
    subst hx0
    have hap : applyS S ⟨4, path, dst, off, size, data⟩ l = (⟨S.t, setF S.fs i0 (truncS ((bodyOf S.fs i0).getD default) size).1⟩, 0) := by rw [hap, if_neg (by decide), if_neg (by decide), if_neg (by decide), if_pos rfl, hfi]
    rw [hap]
    obtain ⟨b0, hb0⟩ := file_has hI (p := path) (by rw [hfi])
    rw [hfi] at hb0
    have HHas := Lib.hid hb0
    generalize (bodyOf S.fs i0).getD default = BB at *
    generalize truncS BB size = R at *
    obtain ⟨⟨rs, rp⟩, rc⟩ := R
    dsimp only at HTr ⊢
    clear hap hchk2 hI HRn HDr HMk HPt hbl hbS hfi hb0
    go_enter Tryz.func10, Tryz.ntmps10
    go_upto_region 1 with (fail)
    rw [← hW]
    clear hW
    obtain ⟨e0, e1, e2, e3, e4, e5⟩ := b6_cells hbx
    go_wp2_with fail
    refine (HCk.out _ hB0).mono ?_
    rintro e V ⟨rfl, hBV⟩
    have HBV := Lib.hid (blw hB0 hBV)
    have hbV := (hBV.block w.heap.size hwW).trans hbx
    have hsV := hBV.size
    clear e0 e1 e2 e3 e4 e5 hBV hbx HCk
    obtain ⟨e0, e1, e2, e3, e4, e5⟩ := b6_cells hbV
    have g0 := (HBV.out.cell (p := ⟨sb, 0, none⟩) l1).trans c0
    have g1 := (HBV.out.cell (p := ⟨sb, 1, none⟩) l1).trans c1
    have HBxV := Lib.hid hbV
    clear hbV c0 c1
    go_wp2_with fail
    refine (HF.out _ HBV.out).mono ?_
    rintro e V1 ⟨rfl, hB1⟩
    have HBV1 := Lib.hid (blw HBV.out hB1)
    have hbV1 := (hB1.block w.heap.size (by omega)).trans HBxV.out
    have hs1 := hB1.size
    clear e0 e1 e2 e3 e4 e5 g0 g1
    have g1 := ((HS.out.below HBV1.out).cells).2
    obtain ⟨e0, e1, e2, e3, e4, e5⟩ := b6_cells hbV1
    have hl1 := HLk.out V1 HBV1.out
    have hl2 := HLk.out V1.drew (below_drewN' HBV1.out 1)
    have HKb : Hid (∀ X, Turn [lb] V1 X → X.cell? ⟨sb, 1, none⟩ = some (.map (some lb)) ∧ X.cell? ⟨w.heap.size, 4, none⟩ = some (.int .i64 size)) := Lib.hid fun X h => ⟨(h.cell (p := ⟨sb, 1, none⟩) (by show sb < _; omega) (by simp; omega)).trans g1, (h.cell (p := ⟨w.heap.size, 4, none⟩) (by show w.heap.size < _; omega) (by simp; omega)).trans e4⟩
    clear hB1 hbV1 HLk HF
    go_upto_region 14 with (fail)
    go_region_held3 (fun w' => w'.cell? ⟨sb, 1, none⟩ = some (.map (some lb)) ∧ w'.cell? ⟨w.heap.size, 4, none⟩ = some (.int .i64 size)) (first | go_keep | exact ⟨g1, e4⟩ | exact HKb.out _ (.of_below HBc.out) | exact HKb.out _ ((Turn.of_below HBc.out).setBlock (.inl (by simp)) ob)) (first | (go_at_call 30; refine (HTr.out _ (by first | exact HBV1.out | exact below_drewN' HBV1.out 1)).mono ?_; rintro e w' ⟨a3, c3, rfl, hc3, hS3, hBc⟩; have HBc : Hid (Below V1.heap.size V1 w') := Lib.hid (blw (by first | exact Below.refl _ _ | exact below_drewN' (Below.refl _ _) 1) hBc); have hFw := HS.out.below (blw HBV1.out HBc.out); obtain ⟨ob, hput⟩ := hFw.put i0 ⟨rs, rp⟩ hS3 hc3; obtain ⟨p1, p2⟩ := hput w' rfl; rw [putF_has HHas.out] at p2; have HP2 := Lib.hid p2; clear hput p2 hFw hS3 hBc))
    all_goals
      go_wp2
      go_ret
      exact ⟨rfl, HP2.out, (Turn.of_below (blw HBV1.out HBc.out)).setBlock (.inl (by simp)) ob⟩
  rw [if_neg h4] at hchk2
  by_cases h5 : op = 5
  · subst h5
    have hap : applyS S ⟨5, path, dst, off, size, data⟩ l = (⟨(renS S.t path dst).1, dropF S.fs (renS S.t path dst).2.1⟩, 0) := by rw [hap, if_neg (by decide), if_neg (by decide), if_neg (by decide), if_neg (by decide), if_pos rfl]
    rw [hap]
    clear hap hchk2 hI HMk HDr HPt HF HTr HLk hbl hbS hfi
    go_enter Tryz.func10, Tryz.ntmps10
    go_upto_region 1 with (fail)
    rw [← hW]
    clear hW
    obtain ⟨e0, e1, e2, e3, e4, e5⟩ := b6_cells hbx
    go_wp2_with fail
    refine (HCk.out _ hB0).mono ?_
    rintro e V ⟨rfl, hBV⟩
    have HBV := Lib.hid (blw hB0 hBV)
    have hbV := (hBV.block w.heap.size hwW).trans hbx
    have hsV := hBV.size
    clear e0 e1 e2 e3 e4 e5 hBV hbx HCk
    obtain ⟨e0, e1, e2, e3, e4, e5⟩ := b6_cells hbV
    have g0 := (HBV.out.cell (p := ⟨sb, 0, none⟩) l1).trans c0
    have g1 := (HBV.out.cell (p := ⟨sb, 1, none⟩) l1).trans c1
    have HBxV := Lib.hid hbV
    clear hbV c0 c1
    have HKt : Hid (∀ X, Turn [tb, mb] V X → X.cell? ⟨sb, 0, none⟩ = some (.pointer (some ⟨tb, 0, none⟩)) ∧ X.cell? ⟨w.heap.size, 0, none⟩ = some (.int .i64 5) ∧ X.cell? ⟨w.heap.size, 1, none⟩ = some (.string path) ∧ X.cell? ⟨w.heap.size, 2, none⟩ = some (.string dst)) := Lib.hid fun X h => ⟨(h.cell (p := ⟨sb, 0, none⟩) (by show sb < _; omega) (by simp; omega)).trans g0, (h.cell (p := ⟨w.heap.size, 0, none⟩) (by show w.heap.size < _; omega) (by simp; omega)).trans e0, (h.cell (p := ⟨w.heap.size, 1, none⟩) (by show w.heap.size < _; omega) (by simp; omega)).trans e1, (h.cell (p := ⟨w.heap.size, 2, none⟩) (by show w.heap.size < _; omega) (by simp; omega)).trans e2⟩
    go_upto_region 16 with (fail)
    go_region_held3 (fun w' => w'.cell? ⟨sb, 0, none⟩ = some (.pointer (some ⟨tb, 0, none⟩)) ∧ w'.cell? ⟨w.heap.size, 0, none⟩ = some (.int .i64 5) ∧ w'.cell? ⟨w.heap.size, 1, none⟩ = some (.string path) ∧ w'.cell? ⟨w.heap.size, 2, none⟩ = some (.string dst)) (first | go_keep | exact ⟨g0, e0, e1, e2⟩ | exact HKt.out _ HTn.out) (first | (go_at_call 31; refine (HRn.out _ (by first | exact HBV.out | exact below_drewN' HBV.out 1)).mono ?_; rintro e w' ⟨rfl, hT2, hTn⟩; have HT2 := Lib.hid hT2; have HTn : Hid (Turn [tb, mb] V w') := Lib.hid ((Turn.of_below (bs := [tb, mb]) (by first | exact Below.refl _ _ | exact below_drewN' (Below.refl _ _) 1)).trans hTn); clear hT2 hTn))
    all_goals
      have hFT := (HS.out.below HBV.out).tree HTn.out HT2.out
      have hk1 := (HTn.out.cell (p := ⟨sb, 1, none⟩) (by show sb < _; omega) (by simp; omega)).trans g1
      have hk0 := HKt.out _ HTn.out
      obtain ⟨k0, k1, k2, k3⟩ := hk0
      have HTw : Hid (Turn [tb, mb, lb] w w') := Lib.hid ((Turn.of_below HBV.out).trans (HTn.out.mono (by intro x hx; simp at hx ⊢; omega)))
      obtain ⟨ob, hput⟩ := hFT.del (renS S.t path dst).2.1 0
      obtain ⟨p1, p2⟩ := hput w' rfl
      have HP2 := Lib.hid p2
      clear hput p2 hFT HRn
      go_wp2
      go_ret
      exact ⟨rfl, HP2.out, HTw.out.setBlock (.inl (by simp)) ob⟩
  rw [if_neg h5] at hchk2
  by_cases h6 : op = 6
  · subst h6
    have hap : applyS S ⟨6, path, dst, off, size, data⟩ l = (⟨(dropS S.t path false).1, dropF S.fs (dropS S.t path false).2.1⟩, 0) := by rw [hap, if_neg (by decide), if_neg (by decide), if_neg (by decide), if_neg (by decide), if_neg (by decide), if_pos (by decide)]; rfl
    rw [hap]
    clear hap hchk2 hI HMk HRn HPt HF HTr HLk hbl hbS hfi
    go_enter Tryz.func10, Tryz.ntmps10
    go_upto_region 1 with (fail)
    rw [← hW]
    clear hW
    obtain ⟨e0, e1, e2, e3, e4, e5⟩ := b6_cells hbx
    go_wp2_with fail
    refine (HCk.out _ hB0).mono ?_
    rintro e V ⟨rfl, hBV⟩
    have HBV := Lib.hid (blw hB0 hBV)
    have hbV := (hBV.block w.heap.size hwW).trans hbx
    have hsV := hBV.size
    clear e0 e1 e2 e3 e4 e5 hBV hbx HCk
    obtain ⟨e0, e1, e2, e3, e4, e5⟩ := b6_cells hbV
    have g0 := (HBV.out.cell (p := ⟨sb, 0, none⟩) l1).trans c0
    have g1 := (HBV.out.cell (p := ⟨sb, 1, none⟩) l1).trans c1
    have HBxV := Lib.hid hbV
    clear hbV c0 c1
    have HKt : Hid (∀ X, Turn [tb, mb] V X → X.cell? ⟨sb, 0, none⟩ = some (.pointer (some ⟨tb, 0, none⟩)) ∧ X.cell? ⟨w.heap.size, 0, none⟩ = some (.int .i64 6) ∧ X.cell? ⟨w.heap.size, 1, none⟩ = some (.string path) ∧ X.cell? ⟨w.heap.size, 2, none⟩ = some (.string dst)) := Lib.hid fun X h => ⟨(h.cell (p := ⟨sb, 0, none⟩) (by show sb < _; omega) (by simp; omega)).trans g0, (h.cell (p := ⟨w.heap.size, 0, none⟩) (by show w.heap.size < _; omega) (by simp; omega)).trans e0, (h.cell (p := ⟨w.heap.size, 1, none⟩) (by show w.heap.size < _; omega) (by simp; omega)).trans e1, (h.cell (p := ⟨w.heap.size, 2, none⟩) (by show w.heap.size < _; omega) (by simp; omega)).trans e2⟩
    go_upto_region 20 with (fail)
    go_region_held3 (fun w' => w'.cell? ⟨sb, 0, none⟩ = some (.pointer (some ⟨tb, 0, none⟩)) ∧ w'.cell? ⟨w.heap.size, 0, none⟩ = some (.int .i64 6) ∧ w'.cell? ⟨w.heap.size, 1, none⟩ = some (.string path) ∧ w'.cell? ⟨w.heap.size, 2, none⟩ = some (.string dst)) (first | go_keep | exact ⟨g0, e0, e1, e2⟩ | exact HKt.out _ HTn.out) (first | (go_at_call 32; refine (HDr.out _ false (by first | exact HBV.out | exact below_drewN' HBV.out 1)).mono ?_; rintro e w' ⟨rfl, hT2, hTn⟩; have HT2 := Lib.hid hT2; have HTn : Hid (Turn [tb, mb] V w') := Lib.hid ((Turn.of_below (bs := [tb, mb]) (by first | exact Below.refl _ _ | exact below_drewN' (Below.refl _ _) 1)).trans hTn); clear hT2 hTn))
    all_goals
      have hFT := (HS.out.below HBV.out).tree HTn.out HT2.out
      have hk1 := (HTn.out.cell (p := ⟨sb, 1, none⟩) (by show sb < _; omega) (by simp; omega)).trans g1
      have hk0 := HKt.out _ HTn.out
      obtain ⟨k0, k1, k2, k3⟩ := hk0
      have HTw : Hid (Turn [tb, mb, lb] w w') := Lib.hid ((Turn.of_below HBV.out).trans (HTn.out.mono (by intro x hx; simp at hx ⊢; omega)))
      obtain ⟨ob, hput⟩ := hFT.del (dropS S.t path false).2.1 0
      obtain ⟨p1, p2⟩ := hput w' rfl
      have HP2 := Lib.hid p2
      clear hput p2 hFT HDr
      go_wp2
      go_ret
      exact ⟨rfl, HP2.out, HTw.out.setBlock (.inl (by simp)) ob⟩
  by_cases h7 : op = 7
  · subst h7
    have hap : applyS S ⟨7, path, dst, off, size, data⟩ l = (⟨(dropS S.t path true).1, dropF S.fs (dropS S.t path true).2.1⟩, 0) := by rw [hap, if_neg (by decide), if_neg (by decide), if_neg (by decide), if_neg (by decide), if_neg (by decide), if_pos (by decide)]; rfl
    rw [hap]
    clear hap hchk2 hI HMk HRn HPt HF HTr HLk hbl hbS hfi
    go_enter Tryz.func10, Tryz.ntmps10
    go_upto_region 1 with (fail)
    rw [← hW]
    clear hW
    obtain ⟨e0, e1, e2, e3, e4, e5⟩ := b6_cells hbx
    go_wp2_with fail
    refine (HCk.out _ hB0).mono ?_
    rintro e V ⟨rfl, hBV⟩
    have HBV := Lib.hid (blw hB0 hBV)
    have hbV := (hBV.block w.heap.size hwW).trans hbx
    have hsV := hBV.size
    clear e0 e1 e2 e3 e4 e5 hBV hbx HCk
    obtain ⟨e0, e1, e2, e3, e4, e5⟩ := b6_cells hbV
    have g0 := (HBV.out.cell (p := ⟨sb, 0, none⟩) l1).trans c0
    have g1 := (HBV.out.cell (p := ⟨sb, 1, none⟩) l1).trans c1
    have HBxV := Lib.hid hbV
    clear hbV c0 c1
    have HKt : Hid (∀ X, Turn [tb, mb] V X → X.cell? ⟨sb, 0, none⟩ = some (.pointer (some ⟨tb, 0, none⟩)) ∧ X.cell? ⟨w.heap.size, 0, none⟩ = some (.int .i64 7) ∧ X.cell? ⟨w.heap.size, 1, none⟩ = some (.string path) ∧ X.cell? ⟨w.heap.size, 2, none⟩ = some (.string dst)) := Lib.hid fun X h => ⟨(h.cell (p := ⟨sb, 0, none⟩) (by show sb < _; omega) (by simp; omega)).trans g0, (h.cell (p := ⟨w.heap.size, 0, none⟩) (by show w.heap.size < _; omega) (by simp; omega)).trans e0, (h.cell (p := ⟨w.heap.size, 1, none⟩) (by show w.heap.size < _; omega) (by simp; omega)).trans e1, (h.cell (p := ⟨w.heap.size, 2, none⟩) (by show w.heap.size < _; omega) (by simp; omega)).trans e2⟩
    go_upto_region 20 with (fail)
    go_region_held3 (fun w' => w'.cell? ⟨sb, 0, none⟩ = some (.pointer (some ⟨tb, 0, none⟩)) ∧ w'.cell? ⟨w.heap.size, 0, none⟩ = some (.int .i64 7) ∧ w'.cell? ⟨w.heap.size, 1, none⟩ = some (.string path) ∧ w'.cell? ⟨w.heap.size, 2, none⟩ = some (.string dst)) (first | go_keep | exact ⟨g0, e0, e1, e2⟩ | exact HKt.out _ HTn.out) (first | (go_at_call 32; refine (HDr.out _ true (by first | exact HBV.out | exact below_drewN' HBV.out 1)).mono ?_; rintro e w' ⟨rfl, hT2, hTn⟩; have HT2 := Lib.hid hT2; have HTn : Hid (Turn [tb, mb] V w') := Lib.hid ((Turn.of_below (bs := [tb, mb]) (by first | exact Below.refl _ _ | exact below_drewN' (Below.refl _ _) 1)).trans hTn); clear hT2 hTn))
    all_goals
      have hFT := (HS.out.below HBV.out).tree HTn.out HT2.out
      have hk1 := (HTn.out.cell (p := ⟨sb, 1, none⟩) (by show sb < _; omega) (by simp; omega)).trans g1
      have hk0 := HKt.out _ HTn.out
      obtain ⟨k0, k1, k2, k3⟩ := hk0
      have HTw : Hid (Turn [tb, mb, lb] w w') := Lib.hid ((Turn.of_below HBV.out).trans (HTn.out.mono (by intro x hx; simp at hx ⊢; omega)))
      obtain ⟨ob, hput⟩ := hFT.del (dropS S.t path true).2.1 0
      obtain ⟨p1, p2⟩ := hput w' rfl
      have HP2 := Lib.hid p2
      clear hput p2 hFT HDr
      go_wp2
      go_ret
      exact ⟨rfl, HP2.out, HTw.out.setBlock (.inl (by simp)) ob⟩
  rw [if_neg (by omega)] at hchk2
  have h8 : op = 8 := by
    by_cases h : op = 8
    · exact h
    · rw [if_neg h] at hchk2; cases hchk2
  have hap : applyS S ⟨op, path, dst, off, size, data⟩ l = (S, 0) := by rw [hap, if_neg h1, if_neg h2, if_neg h3, if_neg h4, if_neg h5, if_neg (by omega)]
  rw [hap]
  subst h8
  clear hap hchk2 hI HMk HRn HDr HPt HF HTr HLk hbl hbS hfi h1 h2 h3 h4 h5 h6 h7
  go_enter Tryz.func10, Tryz.ntmps10
  go_upto_region 1 with (fail)
  rw [← hW]
  clear hW
  obtain ⟨e0, e1, e2, e3, e4, e5⟩ := b6_cells hbx
  go_wp2_with fail
  refine (HCk.out _ hB0).mono ?_
  rintro e V ⟨rfl, hBV⟩
  have HBV := Lib.hid (blw hB0 hBV)
  have hbV := (hBV.block w.heap.size hwW).trans hbx
  have hsV := hBV.size
  clear e0 e1 e2 e3 e4 e5 hBV hbx HCk
  obtain ⟨e0, e1, e2, e3, e4, e5⟩ := b6_cells hbV
  have g0 := (HBV.out.cell (p := ⟨sb, 0, none⟩) l1).trans c0
  have g1 := (HBV.out.cell (p := ⟨sb, 1, none⟩) l1).trans c1
  have HBxV := Lib.hid hbV
  clear hbV c0 c1
  go_wp2
  go_ret
  exact ⟨rfl, HS.out.below HBV.out, .of_below HBV.out⟩
end Go.Proofs.YtiegadfhgccliaaGreatDoor
namespace Go.Proofs.YtiegadfhgccliaaGreatDoor
open Go.RowKit Go.Lib Go.Maps
open Go.ChangeMaps (setBlock)

theorem keys_int (mb : Nat) (W : World) : Calls Tryz.prog 35 #[.map (some mb)] W fun e w' => e = .returned (.func (.func 64) #[] #[.pointer (some ⟨W.heap.size, 0, none⟩)]) ∧ w' = W.alloc (.cells #[.map (some mb)] 88) :=
  callsIn_wide.1 (Tryz.maps_Keys_35 (some mb) W)
theorem sorted_int (w : World) {hb : Nat} {K U : List Int} (h : MapIs intKey w hb (entsB K)) (hw : ∀ k ∈ K, 1 ≤ k ∧ k ≤ 4611686018427387904) (hn : K.length ≤ 1000000000000) (hU : RiseI U) (hm : ∀ x, x ∈ K ↔ x ∈ U) :
    Calls Tryz.prog 34 #[.func (.func 64) #[] #[.pointer (some ⟨w.heap.size, 0, none⟩)]] (w.alloc (.cells #[.map (some hb)] 88)) fun e w' => ∃ a c, e = .returned (.slice a U.length c) ∧ U.length ≤ c ∧ (SlI w' a U ∧ ∀ b o, a = some ⟨b, o, none⟩ → w.heap.size ≤ b) ∧ Below (w.alloc (.cells #[.map (some hb)] 88)).heap.size (w.alloc (.cells #[.map (some hb)] 88)) w' := by
  have hnd : K.Nodup := by
    have := h.nodup
    unfold entsB at this
    rw [List.map_map] at this
    have e : K.map (Prod.fst ∘ fun k : Int => (k, Value.bool true)) = K := by
      conv => rhs; rw [← List.map_id K]
      exact List.map_congr_left fun x _ => rfl
    rw [e] at this
    exact this
  obtain ⟨D, h1, h2, h3⟩ := h.ownsI (fun k hk => by have := hw k hk; omega) (by unfold maxLen; omega)
  refine (callsIn_wide.1 (Tryz.slices_Sorted_keys_34_35 hb K.length D rAnyI w h1 (by rw [h3]; unfold maxLen; omega) (by rw [h3]; omega))).mono ?_
  rintro e w' ⟨v, ss, rfl, hs, hO, _, hB⟩
  have hs2 := hs.trans h2
  have e1 := sorted_keys hnd hs2 hU hm
  have hl : ss.length = U.length := by
    rw [← e1, List.length_mergeSort]
  rw [e1, hl] at hO
  rw [show U.map encZ = encI.cells U from (cellsI U).symm] at hO
  obtain ⟨a, c, rfl, hc, hS, hfr⟩ := SlK.own (E := encI) hO
  exact ⟨a, c, rfl, hc, ⟨hS, fun b o e => Nat.le_trans (by simp) (hfr b o e)⟩, hB⟩
theorem usesB_len : ∀ (L : List Bp) (U : List Int), (usesB L U).length ≤ U.length + L.length
  | [], U => Nat.le_refl _
  | p :: r, U => by
    have h := usesB_len r (insI p.ch U)
    have h2 : ∀ (n : Int) (l : List Int), (insI n l).length ≤ l.length + 1 := fun n l => by
      induction l with
      | nil => simp [insI]
      | cons m r ih =>
        unfold insI
        split
        · rw [List.length_cons, List.length_cons]; omega
        · split <;> simp
    have := h2 p.ch U
    show (usesB r (insI p.ch U)).length ≤ _
    rw [List.length_cons]
    omega
set_option maxRecDepth 100000 in
set_option maxHeartbeats 8000000 in
/-- body.Uses. -/
theorem buses_any (b : Bd) (a : Option Addr) (c : Nat) (w : World) (hS : SlPt w a b.parts) (hc : b.parts.length ≤ c) (hl : b.parts.length ≤ 1000000000) (hch : ∀ p ∈ b.parts, 1 ≤ p.ch ∧ p.ch ≤ 4611686018427387904) :
    Calls Tryz.prog 33 #[.agg #[.int .i64 b.size, .slice a b.parts.length c]] w fun e w' => ∃ a2 c2, e = .returned (.slice a2 (usesB b.parts []).length c2) ∧ (usesB b.parts []).length ≤ c2 ∧ SlI w' a2 (usesB b.parts []) ∧ Below w.heap.size w w' := by
  obtain ⟨size, L⟩ := b
  dsimp only at hS hc hl hch ⊢
  have HS := Lib.hid hS
  have HCh := Lib.hid hch
  have hmm := @run_makeMap Tryz.prog
  clear hS hch
  have hbx := heap_alloc_new w (.cells #[.int .i64 size, .slice a L.length c] 47)
  have hB0 : Below w.heap.size w (w.alloc (.cells #[.int .i64 size, .slice a L.length c] 47)) := (Below.refl _ _).alloc (Nat.le_refl _) _
  have hsz : (w.alloc (.cells #[.int .i64 size, .slice a L.length c] 47)).heap.size = w.heap.size + 1 := by simp
  obtain ⟨W, hW⟩ : ∃ W, W = w.alloc (.cells #[.int .i64 size, .slice a L.length c] 47) := ⟨_, rfl⟩
  rw [← hW] at hbx hB0 hsz
  have HMp := Lib.hid (MapIs.new intKey W)
  have hbm : (W.alloc (.map #[] 0)).heap[w.heap.size]? = some (.cells #[.int .i64 size, .slice a L.length c] 47 (0, 0)) := (Below.heap_alloc _ _ _ (by omega)).trans hbx
  have hB1 : Below w.heap.size w (W.alloc (.map #[] 0)) := hB0.alloc (by omega) _
  obtain ⟨m0, m1⟩ := b2_facts hbm
  have hhb : w.heap.size + 1 = W.heap.size := by omega
  obtain ⟨hb, hhb2⟩ : ∃ hb, hb = W.heap.size := ⟨_, rfl⟩
  rw [← hhb2] at HMp hhb
  have HH2 := Lib.hid hhb2
  have HHb := Lib.hid hhb
  clear hbx hbm hhb2 hhb hsz
  go_enter Tryz.func33, Tryz.ntmps33
  go_upto_region 1 with (fail)
  rw [← hW]
  clear hW
  have HB1 := Lib.hid hB1
  clear hB0 hB1
  go_wp2
  rw [← HH2.out]
  have hhb := HHb.out
  go_loopw [10] (fun i wr => ∃ (k : Nat) (K : List Int), k ≤ L.length ∧ i = .int .i64 (k : Int) ∧ Hid (MapIs intKey wr hb (entsB K)) ∧ Hid (∀ x, x ∈ K ↔ ∃ p ∈ L.take k, p.ch = x) ∧ K.length ≤ k ∧ Hid (Below w.heap.size w wr)) (fun i _ => L.length - (intOf i).toNat)
  case atStart => exact ⟨0, [], by omega, rfl, HMp, Lib.hid (by simp), Nat.le_refl _, HB1⟩
  case round =>
    obtain ⟨k, K, hk, rfl, HM, HK, hKl, HB⟩ := hrel
    by_cases hlt : k < L.length
    · obtain ⟨bb, o, rfl, c0, c1, c2, c3, _⟩ := SlPt_at (HS.out.below HB.out) hlt
      have hki : (k : Int) < (L.length : Int) := by omega
      have hkc : (k : Int) < (c : Int) := by omega
      have HT : Hid (L.take (k + 1) = L.take k ++ [L.getD k default]) := by
        rw [List.take_succ_eq_append_getElem hlt]
        refine Lib.hid ?_
        congr 2
        simp [List.getD, hlt]
      generalize L.getD k default = p at *
      obtain ⟨off, ln, ch, at0⟩ := p
      dsimp only at c0 c1 c2 c3
      obtain ⟨ob, hput⟩ := run_put (P := Tryz.prog) intKey HM.out Tryz.underlying88 Tryz.underlying3 ch (.bool true)
      obtain ⟨p1, p2⟩ := hput (wr.alloc (.cells #[.int .i64 off, .int .i64 ln, .int .i64 ch, .int .i64 at0] 40)) (Below.heap_alloc _ _ _ HM.out.lt)
      rw [mput_true] at p2
      have HP2 := Lib.hid p2
      have hlb := HM.out.lt
      have HBn : Hid (Below w.heap.size w (setBlock (wr.alloc (.cells #[.int .i64 off, .int .i64 ln, .int .i64 ch, .int .i64 at0] 40)) hb ob)) := Lib.hid (below_setBlock (HB.out.alloc HB.out.size _) (by omega) ob)
      replace p1 : (Instr.mapUpdate 88 (.map (some hb)) (.int .i64 ch) (.bool true)).run Tryz.prog (wr.alloc (.cells #[.int .i64 off, .int .i64 ln, .int .i64 ch, .int .i64 at0] 40)) = .ok () (setBlock (wr.alloc (.cells #[.int .i64 off, .int .i64 ln, .int .i64 ch, .int .i64 at0] 40)) hb ob) := p1
      clear hput p2
      go_wp2
      refine ⟨⟨k + 1, addK ch K, by omega, by go_num, HP2, ?_, by have := addK_len ch K; omega, HBn⟩, by simp [intOf]; omega⟩
      refine Lib.hid fun x => ?_
      rw [HT.out, addK_mem, HK.out x]
      constructor
      · rintro (rfl | ⟨p, h1, h2⟩)
        · exact ⟨⟨off, ln, x, at0⟩, by simp, rfl⟩
        · exact ⟨p, List.mem_append_left _ h1, h2⟩
      · rintro ⟨p, h1, h2⟩
        rcases List.mem_append.1 h1 with h1 | h1
        · exact .inr ⟨p, h1, h2⟩
        · rw [List.mem_singleton.1 h1] at h2
          exact .inl h2.symm
    · obtain rfl : k = L.length := by omega
      have hlt' : decide ((L.length : Int) < (L.length : Int)) = false := by simp
      have hKm : ∀ x, x ∈ K ↔ x ∈ usesB L [] := fun x => by
        rw [HK.out x, List.take_length, usesB_mem]; simp
      have hKb : ∀ x ∈ K, 1 ≤ x ∧ x ≤ 4611686018427387904 := fun x hx => by
        obtain ⟨p, h1, h2⟩ := (HK.out x).1 hx
        rw [List.take_length] at h1
        rw [← h2]
        exact HCh.out p h1
      have HSo := Lib.hid (sorted_int wr HM.out hKb (by omega) (usesB_rise (L := L) rise_nil) hKm)
      have HKe := Lib.hid (keys_int hb wr)
      clear hlt hKm hKb
      go_wp2_with fail
      with_reducible refine Calls.mono HKe.out ?_
      rintro e w2 ⟨rfl, rfl⟩
      go_wp2_with fail
      with_reducible refine Calls.mono HSo.out ?_
      rintro e w3 ⟨a3, c3, rfl, hc3, ⟨hS3, _⟩, hB3⟩
      have HS3 := Lib.hid hS3
      have HB3 := Lib.hid ((HB.out.alloc HB.out.size _).trans (hB3.mono (HB.out.alloc HB.out.size _).size))
      clear hS3 hB3
      go_wp2
      go_ret
      exact ⟨a3, c3, rfl, hc3, HS3.out, HB3.out⟩
set_option maxRecDepth 100000 in
set_option maxHeartbeats 4000000 in
/-- Tree. -/
theorem fold_tree (w : World) {sb tb mb lb : Nat} {S : FS} (hS : FoldP w sb tb mb lb S) :
    Calls Tryz.prog 14 #[.pointer (some ⟨sb, 0, none⟩)] w fun e w' => ∃ cb cm, e = .returned (.pointer (some ⟨cb, 0, none⟩)) ∧ TreeP w' cb cm S.t ∧ w.heap.size ≤ cb ∧ w.heap.size ≤ cm ∧ Below w.heap.size w w' := by
  obtain ⟨c0, c1⟩ := hS.cells
  have HT := Lib.hid (tree_copy w hS.t)
  clear hS
  go_enter Tryz.func14, Tryz.ntmps14
  go_wp2_with fail
  refine HT.out.mono ?_
  rintro e w' ⟨cb, cm, rfl, h1, h2, h3, h4⟩
  have H1 := Lib.hid h1
  have H4 := Lib.hid h4
  clear h1 h4
  go_wp2
  go_ret
  exact ⟨cb, cm, rfl, H1.out, h2, h3, H4.out⟩
end Go.Proofs.YtiegadfhgccliaaGreatDoor
