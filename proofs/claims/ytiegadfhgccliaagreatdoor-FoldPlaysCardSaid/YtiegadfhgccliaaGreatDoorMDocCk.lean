/- The document's state: a file's body is put in its place. -/
import Derived.Test.YtiegadfhgccliaaGreatDoorMDocNm
import Derived.Test.YtiegadfhgccliaaGreatDoorMFoldU
import Derived.Test.YtiegadfhgccliaaGreatDoorMTreeN
set_option linter.unusedVariables false
namespace Go.Proofs.YtiegadfhgccliaaGreatDoor
open Go.RowKit Go.Lib
open Go.ChangeMaps (setBlock)

theorem make_code (T : TS) (s : ByteArray) (d : Bool) : (makeS T s d).2.2 = canS T.L s := by
  unfold makeS; split <;> simp_all
theorem ren_code (T : TS) (s d : ByteArray) : (renS T s d).2.2 = canRenS T.L s d := by
  unfold renS
  split
  · split <;> simp_all
  · rfl
theorem drop_code (T : TS) (s : ByteArray) (d : Bool) : (dropS T s d).2.2 = canDropS T.L s d := by
  unfold dropS; split <;> simp_all
theorem names_check {S : FS} {e : Ev} (h : e.op = 1 ∨ e.op = 2 ∨ e.op = 5 ∨ e.op = 6 ∨ e.op = 7 ∨ e.op = 8) : (namesS S e).2 = checkS S e := by
  obtain ⟨op, path, q, off, size, data⟩ := e
  dsimp only at h
  rcases h with rfl | rfl | rfl | rfl | rfl | rfl <;> simp [namesS, checkS, make_code, ren_code, drop_code]
theorem file_code {S : FS} {p : ByteArray} {i : Int} {d : Bool} {x : Int} (h : lookS (fnd · S.t.L) p = (i, d, x)) : fileS S.t p = if x = 0 ∧ d = true then (0, 6) else (i, x) := by
  unfold fileS; rw [h]
set_option maxRecDepth 100000 in
set_option maxHeartbeats 8000000 in
theorem doc_check (e0 : Ev) (a : Option Addr) (c : Nat) (w : World) {base sd : Nat} {fa : Option Addr} {S : FS} (hp : e0.path.size ≤ 100000) (hq : e0.to.size ≤ 100000) (hdl : e0.data.length ≤ 1000000) (hS : DocS w base sd fa S) (hI : TInv S.t) (hnx : S.t.nx ≤ 1000000000000) (hl : S.fs.length ≤ 1000000) :
    Calls Tryz.prog 20 #[.pointer (some ⟨sd, 0, none⟩), evV e0 a c] w fun e w' => e = .returned (.int .i64 (checkS S e0)) ∧ Below w.heap.size w w' := by
  obtain ⟨i0, d0, x0, hlk⟩ : ∃ i d x, lookS (fnd · S.t.L) e0.path = (i, d, x) := ⟨_, _, _, rfl⟩
  have hfc := file_code (S := S) hlk
  have hfew := hI.few
  obtain ⟨r, hr⟩ : ∃ r, checkS S e0 = r := ⟨_, rfl⟩
  rw [hr]
  have HNc : Hid (e0.op = 1 ∨ e0.op = 2 ∨ e0.op = 5 ∨ e0.op = 6 ∨ e0.op = 7 ∨ e0.op = 8 → (namesS S e0).2 = r) := Lib.hid fun h => by rw [names_check h, hr]
  have HOut : Hid (e0.op < 1 ∨ 8 < e0.op → r = 1) := Lib.hid fun h => by rw [← hr]; unfold checkS; rw [if_neg (by omega), if_neg (by omega), if_neg (by omega), if_neg (by omega), if_neg (by omega), if_neg (by omega)]
  have H3 : Hid (e0.op = 3 → r = if x0 = 0 ∧ d0 = true then 6 else if x0 = 0 then (if 1024 < e0.data.length then 1 else if e0.off < 0 ∨ 1099511627776 - (e0.data.length : Int) < e0.off then 9 else 0) else x0) := Lib.hid fun h => by
    rw [← hr]; unfold checkS; rw [if_neg (by omega), if_pos h, hfc]
    by_cases h1 : x0 = 0 ∧ d0 = true
    · rw [if_pos h1, if_pos h1]; rfl
    · rw [if_neg h1, if_neg h1]
  have H4 : Hid (e0.op = 4 → r = if x0 = 0 ∧ d0 = true then 6 else if x0 = 0 then (if e0.size < 0 ∨ 1099511627776 < e0.size then 9 else 0) else x0) := Lib.hid fun h => by
    rw [← hr]; unfold checkS; rw [if_neg (by omega), if_neg (by omega), if_pos h, hfc]
    by_cases h1 : x0 = 0 ∧ d0 = true
    · rw [if_pos h1, if_pos h1]; rfl
    · rw [if_neg h1, if_neg h1]
  have HCm := Lib.hid (fun X b2 s2 f2 (h : DocS X b2 s2 f2 S) hop => doc_names e0 a c X hop hp hq h hI hnx hl)
  obtain ⟨op, path, dst, off, size, data⟩ := e0
  dsimp only [evV] at *
  generalize hn : data.length = n at *
  have hbx := heap_alloc_new w (.cells #[.int .i64 op, .string path, .string dst, .int .i64 off, .int .i64 size, .slice a n c] 31)
  have hBx : Below w.heap.size w (w.alloc (.cells #[.int .i64 op, .string path, .string dst, .int .i64 off, .int .i64 size, .slice a n c] 31)) := (Below.refl _ _).alloc (Nat.le_refl _) _
  have hsx : (w.alloc (.cells #[.int .i64 op, .string path, .string dst, .int .i64 off, .int .i64 size, .slice a n c] 31)).heap.size = w.heap.size + 1 := by simp
  have hsd := hS.lt
  have hSV := hS.below hBx
  obtain ⟨dx, hD, -⟩ := hSV.tree
  have HLk : Hid (∀ Y, Below (w.alloc (.cells #[.int .i64 op, .string path, .string dst, .int .i64 off, .int .i64 size, .slice a n c] 31)).heap.size (w.alloc (.cells #[.int .i64 op, .string path, .string dst, .int .i64 off, .int .i64 size, .slice a n c] 31)) Y → Calls Tryz.prog 46 #[.pointer (some ⟨sd, 0, none⟩), .string path] Y fun e w' => e = .returned (.tuple #[.int .i64 i0, .bool d0, .int .i64 x0]) ∧ Below Y.heap.size Y w') := Lib.hid fun Y h => doc_look path Y (by unfold maxLen; omega) (hD.below h) (by omega) hlk
  have HCp : Hid (∀ Y, Below (w.alloc (.cells #[.int .i64 op, .string path, .string dst, .int .i64 off, .int .i64 size, .slice a n c] 31)).heap.size (w.alloc (.cells #[.int .i64 op, .string path, .string dst, .int .i64 off, .int .i64 size, .slice a n c] 31)) Y → Calls Tryz.prog 47 #[.pointer (some ⟨sd, 0, none⟩)] Y fun e w' => ∃ sd2, e = .returned (.pointer (some ⟨sd2, 0, none⟩)) ∧ (∃ fa2, DocS w' Y.heap.size sd2 fa2 S) ∧ Below Y.heap.size Y w') := Lib.hid fun Y h => doc_copy Y (hSV.below h) hl (by omega)
  clear hD hSV hlk hfc hI hS hr hn
  go_enter Tryz.func20, Tryz.ntmps20
  go_upto_region 1 with (fail)
  generalize w.alloc (.cells #[.int .i64 op, .string path, .string dst, .int .i64 off, .int .i64 size, .slice a n c] 31) = V at *
  have HE : Hid (∀ Y, Below V.heap.size V Y → Y.cell? ⟨w.heap.size, 0, none⟩ = some (.int .i64 op) ∧ Y.cell? ⟨w.heap.size, 1, none⟩ = some (.string path) ∧ Y.cell? ⟨w.heap.size, 2, none⟩ = some (.string dst) ∧ Y.cell? ⟨w.heap.size, 3, none⟩ = some (.int .i64 off) ∧ Y.cell? ⟨w.heap.size, 4, none⟩ = some (.int .i64 size) ∧ Y.cell? ⟨w.heap.size, 5, none⟩ = some (.slice a n c)) := Lib.hid fun Y h => b6_cells ((h.block w.heap.size (by omega)).trans hbx)
  obtain ⟨e0, e1, e2, e3, e4, e5⟩ := HE.out V (Below.refl _ _)
  have HBx := Lib.hid hBx
  clear hbx hBx
  by_cases hlo : op < 1
  · have hr := HOut.out (.inl hlo)
    subst hr
    clear HCm HNc
    go_wp2
    go_ret
    exact ⟨rfl, HBx.out⟩
  have hlo' : decide (op < 1) = false := by simpa using hlo
  by_cases hhi : op > 8
  · have hr := HOut.out (.inr hhi)
    subst hr
    clear HCm HNc
    go_wp2
    go_ret
    exact ⟨rfl, HBx.out⟩
  have hhi' : decide (op > 8) = false := by simpa using hhi
  by_cases h3 : op = 3
  · subst h3
    go_upto_region 4 with (fail)
    go_region_held3 (fun w' => w'.cell? ⟨w.heap.size, 0, none⟩ = some (.int .i64 3) ∧ w'.cell? ⟨w.heap.size, 1, none⟩ = some (.string path) ∧ w'.cell? ⟨w.heap.size, 2, none⟩ = some (.string dst) ∧ w'.cell? ⟨w.heap.size, 3, none⟩ = some (.int .i64 off) ∧ w'.cell? ⟨w.heap.size, 4, none⟩ = some (.int .i64 size) ∧ w'.cell? ⟨w.heap.size, 5, none⟩ = some (.slice a n c)) (first | go_keep | exact ⟨e0, e1, e2, e3, e4, e5⟩ | exact HE.out _ HBw.out) (first | (go_at_call 46; refine (HLk.out _ (by first | exact Below.refl _ _ | exact below_drewN' (Below.refl _ _) 1)).mono ?_; rintro e w' ⟨rfl, hBw⟩; have HBw : Hid (Below V.heap.size V w') := Lib.hid ((show Below V.heap.size V _ from by first | exact Below.refl _ _ | exact below_drewN' (Below.refl _ _) 1).trans hBw); clear hBw))
    all_goals
      obtain ⟨k0, k1, k2, k3, k4, k5⟩ := HE.out _ HBw.out
      have HF := Lib.hid (blw HBx.out HBw.out)
      by_cases hx : x0 = 0
      · subst hx
        cases d0 with
        | true =>
          have hr : r = 6 := by simpa using H3.out (by trivial)
          subst hr
          clear HCm HNc HOut H3 H4 HLk HCp
          go_wp2
          go_ret
          exact ⟨rfl, HF.out⟩
        | false =>
          have HR := Lib.hid (H3.out (by trivial))
          have hw : wrap64 (1099511627776 - (n : Int)) = 1099511627776 - (n : Int) := w64 (by omega) (by omega)
          by_cases hn1 : (n : Int) > 1024
          · have hr : r = 1 := by have h := HR.out; rw [if_neg (by simp), if_pos rfl, if_pos (by omega)] at h; exact h
            subst hr
            clear HCm HNc HOut H3 H4 HLk HCp HR
            go_wp2
            go_ret
            exact ⟨rfl, HF.out⟩
          have hn1' : decide ((n : Int) > 1024) = false := by simpa using hn1
          have hn2 : ¬ 1024 < n := by omega
          by_cases ho1 : off < 0
          · have hr : r = 9 := by have h := HR.out; rw [if_neg (by simp), if_pos rfl, if_neg (by omega), if_pos (.inl ho1)] at h; exact h
            subst hr
            clear HCm HNc HOut H3 H4 HLk HCp HR
            go_wp2
            go_ret
            exact ⟨rfl, HF.out⟩
          have ho1' : decide (off < 0) = false := by simpa using ho1
          by_cases ho2 : off > 1099511627776 - (n : Int)
          · have hr : r = 9 := by have h := HR.out; rw [if_neg (by simp), if_pos rfl, if_neg (by omega), if_pos (.inr (by omega))] at h; exact h
            subst hr
            clear HCm HNc HOut H3 H4 HLk HCp HR
            go_wp2
            go_ret
            exact ⟨rfl, HF.out⟩
          have ho2' : decide (off > 1099511627776 - (n : Int)) = false := by simpa using ho2
          have hr : r = 0 := by have h := HR.out; rw [if_neg (by simp), if_pos rfl, if_neg (by omega), if_neg (by omega)] at h; exact h
          subst hr
          clear HCm HNc HOut H3 H4 HLk HCp HR
          go_wp2
          go_ret
          exact ⟨rfl, HF.out⟩
      · have hxb : (x0 != 0) = true := by simpa using hx
        have HR := Lib.hid (H3.out (by trivial))
        have hr : r = x0 := by have h := HR.out; rw [if_neg (fun h => hx h.1), if_neg hx] at h; exact h
        subst hr
        clear HCm HNc HOut H3 H4 HLk HCp HR hx
        go_wp2
        go_ret
        exact ⟨rfl, HF.out⟩
  by_cases h4 : op = 4
  · subst h4
    go_upto_region 4 with (fail)
    go_region_held3 (fun w' => w'.cell? ⟨w.heap.size, 0, none⟩ = some (.int .i64 4) ∧ w'.cell? ⟨w.heap.size, 1, none⟩ = some (.string path) ∧ w'.cell? ⟨w.heap.size, 2, none⟩ = some (.string dst) ∧ w'.cell? ⟨w.heap.size, 3, none⟩ = some (.int .i64 off) ∧ w'.cell? ⟨w.heap.size, 4, none⟩ = some (.int .i64 size) ∧ w'.cell? ⟨w.heap.size, 5, none⟩ = some (.slice a n c)) (first | go_keep | exact ⟨e0, e1, e2, e3, e4, e5⟩ | exact HE.out _ HBw.out) (first | (go_at_call 46; refine (HLk.out _ (by first | exact Below.refl _ _ | exact below_drewN' (Below.refl _ _) 1)).mono ?_; rintro e w' ⟨rfl, hBw⟩; have HBw : Hid (Below V.heap.size V w') := Lib.hid ((show Below V.heap.size V _ from by first | exact Below.refl _ _ | exact below_drewN' (Below.refl _ _) 1).trans hBw); clear hBw))
    all_goals
      obtain ⟨k0, k1, k2, k3, k4, k5⟩ := HE.out _ HBw.out
      have HF := Lib.hid (blw HBx.out HBw.out)
      by_cases hx : x0 = 0
      · subst hx
        cases d0 with
        | true =>
          have hr : r = 6 := by simpa using H4.out (by trivial)
          subst hr
          clear HCm HNc HOut H3 H4 HLk HCp
          go_wp2
          go_ret
          exact ⟨rfl, HF.out⟩
        | false =>
          have HR := Lib.hid (H4.out (by trivial))
          by_cases ho1 : size < 0
          · have hr : r = 9 := by have h := HR.out; rw [if_neg (by simp), if_pos rfl, if_pos (.inl ho1)] at h; exact h
            subst hr
            clear HCm HNc HOut H3 H4 HLk HCp HR
            go_wp2
            go_ret
            exact ⟨rfl, HF.out⟩
          have ho1' : decide (size < 0) = false := by simpa using ho1
          by_cases ho2 : size > 1099511627776
          · have hr : r = 9 := by have h := HR.out; rw [if_neg (by simp), if_pos rfl, if_pos (.inr (by omega))] at h; exact h
            subst hr
            clear HCm HNc HOut H3 H4 HLk HCp HR
            go_wp2
            go_ret
            exact ⟨rfl, HF.out⟩
          have ho2' : decide (size > 1099511627776) = false := by simpa using ho2
          have hr : r = 0 := by have h := HR.out; rw [if_neg (by simp), if_pos rfl, if_neg (by omega)] at h; exact h
          subst hr
          clear HCm HNc HOut H3 H4 HLk HCp HR
          go_wp2
          go_ret
          exact ⟨rfl, HF.out⟩
      · have hxb : (x0 != 0) = true := by simpa using hx
        have HR := Lib.hid (H4.out (by trivial))
        have hr : r = x0 := by have h := HR.out; rw [if_neg (fun h => hx h.1), if_neg hx] at h; exact h
        subst hr
        clear HCm HNc HOut H3 H4 HLk HCp HR hx
        go_wp2
        go_ret
        exact ⟨rfl, HF.out⟩
  have hop : op = 1 ∨ op = 2 ∨ op = 5 ∨ op = 6 ∨ op = 7 ∨ op = 8 := by omega
  have h3' : (op == 3) = false := by simpa using h3
  have h4' : (op == 4) = false := by simpa using h4
  have HN := Lib.hid (HNc.out hop)
  have HNm := Lib.hid (fun X b2 s2 f2 h => HCm.out X b2 s2 f2 h hop)
  clear HNc HCm HOut H3 H4 HLk hop h3 h4
  generalize namesS S ⟨op, path, dst, off, size, data⟩ = Z at *
  have hsV := HBx.out.size
  go_upto_region 16 with (fail)
  go_region_held3 (fun w' => w'.cell? ⟨w.heap.size, 0, none⟩ = some (.int .i64 op) ∧ w'.cell? ⟨w.heap.size, 1, none⟩ = some (.string path) ∧ w'.cell? ⟨w.heap.size, 2, none⟩ = some (.string dst) ∧ w'.cell? ⟨w.heap.size, 3, none⟩ = some (.int .i64 off) ∧ w'.cell? ⟨w.heap.size, 4, none⟩ = some (.int .i64 size) ∧ w'.cell? ⟨w.heap.size, 5, none⟩ = some (.slice a n c)) (first | go_keep | exact HE.out _ HBz.out | exact ⟨e0, e1, e2, e3, e4, e5⟩ | exact HE.out _ HBw.out) (first | (go_at_call 48; refine (HNm.out _ _ _ _ HD2.out).mono ?_; rintro e w' ⟨rfl, fa3, _, hT3, _⟩; have HBz : Hid (Below V.heap.size V w') := Lib.hid (hT3.t.below HBw.out (by have h9 : V.heap.size ≤ sd2 := HD2.out.lb; intro x hx; simp at hx; omega)); clear hT3) | (go_at_call 47; refine (HCp.out _ (by first | exact Below.refl _ _ | exact below_drewN' (Below.refl _ _) 1)).mono ?_; rintro e w' ⟨sd2, rfl, ⟨fa2, hD2⟩, hBw⟩; have HD2 := Lib.hid hD2; have HBw : Hid (Below V.heap.size V w') := Lib.hid ((show Below V.heap.size V _ from by first | exact Below.refl _ _ | exact below_drewN' (Below.refl _ _) 1).trans hBw); clear hBw hD2))
  all_goals
    go_wp2
    go_ret
    exact ⟨by rw [← HN.out]; rfl, blw HBx.out HBz.out⟩
end Go.Proofs.YtiegadfhgccliaaGreatDoor
namespace Go.Proofs.YtiegadfhgccliaaGreatDoor
open Go.RowKit Go.Lib
open Go.ChangeMaps (setBlock)

theorem own_setK {w : World} {base : Nat} {e : TypeId} {size g cap : Nat} {n : Nat} {xs : List Value} (h : w.ownsRow base e size (.slice (some ⟨g, 0, none⟩) n cap) n xs) (k : Nat) (u : Value) : (w.setCell ⟨g, k, none⟩ u).ownsRow base e size (.slice (some ⟨g, 0, none⟩) n cap) n (xs.set k u) := by
  refine ⟨by simpa using h.1, ?_⟩
  rcases h.2 with ⟨hv, _⟩ | ⟨g', cap', cur, hv, hb, hg, h1, h2, h3, h4⟩
  · cases hv
  · obtain ⟨hg', _, hc'⟩ := Value.slice.inj hv
    obtain rfl : g = g' := by simpa using hg'
    subst hc'
    refine .inr ⟨g, cap, cur.setIfInBounds k u, rfl, hb, ?_, h1, h2, by simpa using h3, ?_⟩
    · have hgl := (Array.getElem?_eq_some_iff.1 hg).1
      unfold World.setCell
      simp only [Array.getElem?_modify, hg]
      simp
    · rw [Array.toList_setIfInBounds, ← h4, List.take_set]
theorem own_froz {w : World} {base : Nat} {e : TypeId} {size g cap : Nat} {n : Nat} {xs : List Value} (h : w.ownsRow base e size (.slice (some ⟨g, 0, none⟩) n cap) n xs) (k : Nat) : w.frozen? ⟨g, k, none⟩ = false := by
  rcases h.2 with ⟨hv, _⟩ | ⟨g', cap', cur, hv, hb, hg, h1, h2, h3, h4⟩
  · cases hv
  · obtain ⟨hg', _, _⟩ := Value.slice.inj hv
    obtain rfl : g = g' := by simpa using hg'
    unfold World.frozen?
    rw [hg]
    simp
theorem cells_setF : ∀ (F : List FileM) (k : Nat) (_ : k < F.length) (b : Bd) (a : Option Addr) (c : Nat), ((encF.cells F).set (k * 3 + 1) (.int .i64 b.size)).set (k * 3 + 2) (.slice a b.parts.length c) = encF.cells (F.set k ⟨(F.getD k default).id, b, a, c⟩)
  | x :: r, 0, _, b, a, c => by simp [EncK.cells, encF]
  | x :: r, k + 1, hk, b, a, c => by
    have ih := cells_setF r k (by simpa using hk) b a c
    have e1 : ∀ (y : FileM) (t : List FileM), encF.cells (y :: t) = encF.enc y ++ encF.cells t := fun y t => rfl
    have el : (encF.enc x).length = 3 := rfl
    rw [List.set_cons_succ, e1, e1, List.set_append_right _ _ (by rw [el]; omega), List.set_append_right _ _ (by rw [el]; omega), el, show (k + 1) * 3 + 1 - 3 = k * 3 + 1 by omega, show (k + 1) * 3 + 2 - 3 = k * 3 + 2 by omega, ih]
    rfl
theorem setF_map {F : List FileM} {k : Nat} {id : Int} (_ : k < F.length) (hid : (F.getD k default).id = id) (hu : ∀ j, j < F.length → j ≠ k → (F.getD j default).id ≠ id) (b : Bd) (a : Option Addr) (c : Nat) : (F.set k ⟨id, b, a, c⟩).map FileM.pair = setF (F.map FileM.pair) id b := by
  unfold setF
  refine List.ext_getElem (by simp) fun j h1 h2 => ?_
  have hj : j < F.length := by simpa using h1
  have e : F.getD j default = F[j] := by simp [List.getD, hj]
  simp only [List.getElem_map, List.getElem_set]
  by_cases hjk : k = j
  · subst hjk
    rw [if_pos rfl, if_pos (show (F[k]).id = id from e ▸ hid)]
  · rw [if_neg hjk, if_neg (by have := hu j hj (fun h => hjk h.symm); rw [e] at this; exact this)]
theorem sln_file {W : World} {g k : Nat} {n : Int} {x : Value} {sa : Option Addr} {sl sc : Nat} (h1 : W.cell? ⟨g, k * 3 + 1, none⟩ = some (.int .i64 n)) (h2 : W.cell? ⟨g, k * 3 + 2, none⟩ = some (.slice sa sl sc)) (y : Value) (a : Option Addr) (L : List Nd) (h : SlN W a L) : SlN ((W.setCell ⟨g, k * 3 + 1, none⟩ x).setCell ⟨g, k * 3 + 2, none⟩ y) a L := by
  rcases h with h | ⟨b, o, e, hr⟩
  · exact .inl h
  · have hset : ∀ (X : World) (p q : Addr) (v : Value), p.spot = none → q.spot = none → p ≠ q → (X.setCell q v).cell? p = X.cell? p := fun X p q v hp hq hne => by
      obtain ⟨pb, po, ps⟩ := p
      obtain ⟨qb, qo, qs⟩ := q
      dsimp only at hp hq
      subst hp
      subst hq
      by_cases hb : pb = qb
      · subst hb
        unfold World.cell? World.setCell
        simp only [Array.getElem?_modify]
        have ho : qo ≠ po := fun e => hne (by rw [e])
        cases hX : X.heap[pb]? with
        | none => simp
        | some ob =>
          cases ob with
          | cells cs t f => simp [ho]
          | _ => simp
      · exact World.cell?_of_block (Below.heap_setCell _ _ _ _ hb)
    refine .inr ⟨b, o, e, ⟨fun j hj => ?_, by simpa [World.setCell] using hr.lt⟩⟩
    obtain ⟨c1, c2, c3⟩ := hr.at_ j hj
    have key : ∀ (r : Nat) (v : Value), W.cell? ⟨b, o + j * 3 + r, none⟩ = some v → (∀ s l c, v ≠ .slice s l c) → (∀ m, v = .int .i64 m → ∃ u, W.cell? ⟨b, o + j * 3 + r + 1, none⟩ = some u ∧ ∀ s l c, u ≠ .slice s l c) → ((W.setCell ⟨g, k * 3 + 1, none⟩ x).setCell ⟨g, k * 3 + 2, none⟩ y).cell? ⟨b, o + j * 3 + r, none⟩ = some v := fun r v hv hns hint => by
      have n2 : (⟨b, o + j * 3 + r, none⟩ : Addr) ≠ ⟨g, k * 3 + 2, none⟩ := fun e => by rw [e, h2] at hv; exact hns _ _ _ (Option.some.inj hv).symm
      have n1 : (⟨b, o + j * 3 + r, none⟩ : Addr) ≠ ⟨g, k * 3 + 1, none⟩ := fun e => by
        rw [e, h1] at hv
        obtain ⟨u, hu, hns2⟩ := hint n (Option.some.inj hv).symm
        injection e with e1 e2
        rw [e1, e2, h2] at hu
        exact hns2 _ _ _ (Option.some.inj hu).symm
      rw [hset _ _ _ _ rfl rfl n2, hset _ _ _ _ rfl rfl n1]
      exact hv
    exact ⟨key 0 _ c1 (fun _ _ _ h => by cases h) (fun _ h => by cases h), key 1 _ c2 (fun _ _ _ h => by cases h) (fun _ _ => ⟨_, c3, fun _ _ _ h => by cases h⟩), key 2 _ c3 (fun _ _ _ h => by cases h) (fun _ h => by cases h)⟩
theorem rowF_set {W : World} {base g c k : Nat} {F : List FileM} (hO : W.ownsRow base 70 3 (.slice (some ⟨g, 0, none⟩) F.length c) F.length (encF.cells F)) (hk : k < F.length) (v : Value) :
    W.frozen? ⟨g, k * 3 + 1, none⟩ = false ∧ (W.setCell ⟨g, k * 3 + 1, none⟩ v).cell? ⟨g, k * 3 + 2, none⟩ = some (.slice (F.getD k default).a (F.getD k default).bd.parts.length (F.getD k default).c) ∧ (W.setCell ⟨g, k * 3 + 1, none⟩ v).frozen? ⟨g, k * 3 + 2, none⟩ = false := by
  have h2 := own_setK hO (k * 3 + 1) v
  refine ⟨own_froz hO _, ?_, own_froz h2 _⟩
  have e : F[k] = F.getD k default := by simp [List.getD, hk]
  have h7 := cellsK_get encF hk 2 (by decide)
  rw [e] at h7
  have h8 := h2.cells (g := g) rfl (k * 3 + 2) (.slice (F.getD k default).a (F.getD k default).bd.parts.length (F.getD k default).c) (by rw [List.getElem?_set_ne (by omega)]; exact h7)
  have h9 : (⟨g, 0, none⟩ : Addr).add (k * 3 + 2) = ⟨g, k * 3 + 2, none⟩ := by unfold Addr.add; rw [if_neg (by omega)]; simp
  rw [h9] at h8
  exact h8
/-- '*b = x'. -/
theorem DocS.putB {W : World} {base sd : Nat} {S : FS} {F : List FileM} {c g k : Nat} {id : Int} {b : Bd} {a' : Option Addr} {c' : Nat} (h1 : F.map FileM.pair = S.fs) (hD : DocP (dxS (some ⟨g, 0, none⟩) F.length c) W sd S.t) (hO : W.ownsRow base 70 3 (.slice (some ⟨g, 0, none⟩) F.length c) F.length (encF.cells F)) (hok : ∀ f ∈ F, f.ok W) (hlb : base ≤ sd)
    (hk : k < F.length) (hid : (F.getD k default).id = id) (hu : ∀ j, j < F.length → j ≠ k → (F.getD j default).id ≠ id) (hS : SlPo W a' b.parts) (hc : b.parts.length ≤ c') :
    DocS ((W.setCell ⟨g, k * 3 + 1, none⟩ (.int .i64 b.size)).setCell ⟨g, k * 3 + 2, none⟩ (.slice a' b.parts.length c')) base sd (some ⟨g, 0, none⟩) ⟨S.t, setF S.fs id b⟩ ∧ TurnD [g] W ((W.setCell ⟨g, k * 3 + 1, none⟩ (.int .i64 b.size)).setCell ⟨g, k * 3 + 2, none⟩ (.slice a' b.parts.length c')) := by
  obtain ⟨g', e, p0, p1, p2, _, _⟩ := rowF_at hO hk
  obtain rfl : g = g' := by injection e with e; injection e
  have hDS : DocS W base sd (some ⟨g, 0, none⟩) S := ⟨⟨F, c, h1, hD, hO, hok⟩, hlb⟩
  have hne : g ≠ sd := (hDS.row g (by simp [abl])).2.2
  have hnp : NoPt W g := hDS.nopt g (by simp [abl])
  have ht : Turn [g] W ((W.setCell ⟨g, k * 3 + 1, none⟩ (.int .i64 b.size)).setCell ⟨g, k * 3 + 2, none⟩ (.slice a' b.parts.length c')) := ((Turn.refl _ _).setCell (p := ⟨g, k * 3 + 1, none⟩) (.inl (by simp)) _).setCell (p := ⟨g, k * 3 + 2, none⟩) (.inl (by simp)) _
  have htd : TurnD [g] W ((W.setCell ⟨g, k * 3 + 1, none⟩ (.int .i64 b.size)).setCell ⟨g, k * 3 + 2, none⟩ (.slice a' b.parts.length c')) := ⟨ht, fun a L h => sln_file p1 p2 _ a L h⟩
  have hO2 := own_setK (own_setK hO (k * 3 + 1) (.int .i64 b.size)) (k * 3 + 2) (.slice a' b.parts.length c')
  rw [cells_setF F k hk b a' c', hid] at hO2
  refine ⟨⟨⟨F.set k ⟨id, b, a', c'⟩, c, ?_, by rw [List.length_set]; exact hD.turnD htd (by simpa using fun e => hne e.symm), by rw [List.length_set]; exact hO2, fun f hf => ?_⟩, hlb⟩, htd⟩
  · rw [setF_map hk hid hu, h1]
  · rcases List.mem_or_eq_of_mem_set hf with hf | rfl
    · exact ⟨(hok f hf).1.turnP ht (by simpa using hnp), (hok f hf).2⟩
    · exact ⟨hS.turnP ht (by simpa using hnp), hc⟩
end Go.Proofs.YtiegadfhgccliaaGreatDoor
