/- Walks of the document's state: Apply. Printed by gen_dapply.py. -/
import Derived.Test.YtiegadfhgccliaaGreatDoorMDocCk
import Derived.Test.YtiegadfhgccliaaGreatDoorMDocV
set_option linter.unusedVariables false
namespace Go.Proofs.YtiegadfhgccliaaGreatDoor
open Go.RowKit Go.Lib
open Go.ChangeMaps (setBlock)

theorem dropF_less {fs : List (Int × Bd)} (h : ∀ f ∈ fs, 1 ≤ f.1) {x : Int} (hx : x < 0) : dropF fs x = fs := by
  unfold dropF
  refine List.filter_eq_self.2 fun f hf => ?_
  have := h f hf
  simp; omega
theorem names_apply {S : FS} {e : Ev} (l : List Bp) (hc : checkS S e = 0) (h : e.op = 1 ∨ e.op = 2 ∨ e.op = 5 ∨ e.op = 6 ∨ e.op = 7 ∨ e.op = 8) (hids : ∀ f ∈ S.fs, 1 ≤ f.1) : namesS S e = applyS S e l := by
  have hcode := names_check (S := S) h
  rw [hc] at hcode
  unfold applyS
  rw [if_pos hc]
  obtain ⟨op, path, q, off, size, data⟩ := e
  dsimp only at h
  rcases h with rfl | rfl | rfl | rfl | rfl | rfl
  · simp [namesS] at hcode ⊢; simp [hcode]
  · simp [namesS] at hcode ⊢; simp [hcode]
  · simp [namesS] at hcode ⊢
    rw [hcode]
    by_cases hg : 0 ≤ (renS S.t path q).2.1
    · simp; omega
    · rw [dropF_less hids (by omega)]; simp
  · simp [namesS] at hcode ⊢; simp [hcode]
  · simp [namesS] at hcode ⊢; simp [hcode]
  · simp [namesS] at hcode ⊢; simp [hcode]
def clampS : List Bp → Int
  | [] => 0
  | p :: r => max (min p.ln 100) (-100) + clampS r
theorem clampS_snoc : ∀ (l : List Bp) (p : Bp), clampS (l ++ [p]) = clampS l + max (min p.ln 100) (-100)
  | [], p => by simp [clampS]
  | x :: r, p => by show _ + clampS (r ++ [p]) = _ + clampS r + _; rw [clampS_snoc r p]; omega
theorem clampS_fits : ∀ {l : List Bp}, l.all fitsP = true → clampS l = sumP l
  | [], _ => rfl
  | p :: r, h => by
    rw [List.all_cons, Bool.and_eq_true] at h
    have := fitsP_spec h.1
    show _ + clampS r = p.ln + sumP r
    rw [clampS_fits h.2]
    omega
theorem write_code {b : Bd} {off : Int} {l : List Bp} (h : l.all fitsP = false) : writeS b off l = (⟨0, []⟩, 1) := by
  unfold writeS; rw [if_neg (by rw [h]; simp)]
/-- What the document's Apply answers to a Write: its sum of lengths is cut at 100 each. -/
theorem apply_write {S : FS} {e : Ev} {l : List Bp} {b : Bd} (hc : checkS S e = 0) (ho : e.op = 3) (hb : (bodyOf S.fs (fileS S.t e.path).1).getD default = b) :
    (0 < e.data.length ∧ clampS l ≠ (e.data.length : Int) → applyS S e l = (S, 1)) ∧ (¬ (0 < e.data.length ∧ clampS l ≠ (e.data.length : Int)) → applyS S e l = if (writeS b e.off l).2 = 0 then (⟨S.t, setF S.fs (fileS S.t e.path).1 (writeS b e.off l).1⟩, 0) else (S, (writeS b e.off l).2)) := by
  have e1 : applyS S e l = putS S e l := by unfold applyS; rw [if_pos hc, if_neg (by omega), if_neg (by omega), if_pos ho]
  rw [e1]
  unfold putS
  rw [hb]
  cases hf : l.all fitsP with
  | true =>
    rw [clampS_fits hf]
    exact ⟨fun h => by rw [if_pos h], fun h => by rw [if_neg h]⟩
  | false =>
    rw [write_code hf]
    refine ⟨fun _ => ?_, fun _ => ?_⟩
    · split <;> rfl
    · split <;> rfl
/-- What a call of Apply leaves. -/
def ApplyAns (w : World) (base sd : Nat) (fa : Option Addr) (R : FS × Int) : Ending → World → Prop := fun e w' => e = .returned (.int .i64 R.2) ∧ ∃ fa', DocS w' base sd fa' R.1 ∧ TurnD (sd :: abl fa) w w' ∧ (fa' = fa ∨ ∀ g ∈ abl fa', w.heap.size ≤ g)
set_option maxRecDepth 100000 in
set_option maxHeartbeats 16000000 in
theorem doc_apply (e0 : Ev) (l : List Bp) (a a2 : Option Addr) (c c2 : Nat) (w : World) {base sd : Nat} {fa : Option Addr} {S : FS} (hp : e0.path.size ≤ 100000) (hq : e0.to.size ≤ 100000) (hdl : e0.data.length ≤ 1000000) (hS : DocS w base sd fa S) (hI : FInv S) (hnx : S.t.nx ≤ 1000000000000) (hl : S.fs.length ≤ 1000000) {N : Nat} (hN : FewP N S) (hN2 : N ≤ 1000000) (hS2 : SlPt w a2 l) (hc2 : l.length ≤ c2) (hm : l.length ≤ 1000000) :
    Calls Tryz.prog 21 #[.pointer (some ⟨sd, 0, none⟩), evV e0 a c, .slice a2 l.length c2] w (ApplyAns w base sd fa (applyS S e0 l)) := by
  obtain ⟨i0, d0, x0, hlk⟩ : ∃ i d x, lookS (fnd · S.t.L) e0.path = (i, d, x) := ⟨_, _, _, rfl⟩
  have hfc := file_code (S := S) hlk
  have hfew := hI.t.few
  obtain ⟨x, hx⟩ : ∃ x, checkS S e0 = x := ⟨_, rfl⟩
  obtain ⟨R, hR⟩ : ∃ R, applyS S e0 l = R := ⟨_, rfl⟩
  rw [hR]
  have hids : ∀ f ∈ S.fs, 1 ≤ f.1 := fun f hf => by
    obtain ⟨nd, hn1, hn2, _⟩ := hI.only f hf
    have := (hI.t.ids nd hn1).1
    omega
  have HBad : Hid (x ≠ 0 → R = (S, x)) := Lib.hid fun h => by rw [← hR]; unfold applyS; rw [hx, if_neg h]
  have HNm : Hid (x = 0 → e0.op = 1 ∨ e0.op = 2 ∨ e0.op = 5 ∨ e0.op = 6 ∨ e0.op = 7 ∨ e0.op = 8 → namesS S e0 = R) := Lib.hid fun h hop => by rw [← hR]; exact names_apply l (by rw [hx, h]) hop hids
  have HOp : Hid (x = 0 → (e0.op = 3 ∨ e0.op = 4) ∨ e0.op = 1 ∨ e0.op = 2 ∨ e0.op = 5 ∨ e0.op = 6 ∨ e0.op = 7 ∨ e0.op = 8) := Lib.hid fun h => by
    by_cases h9 : (e0.op = 3 ∨ e0.op = 4) ∨ e0.op = 1 ∨ e0.op = 2 ∨ e0.op = 5 ∨ e0.op = 6 ∨ e0.op = 7 ∨ e0.op = 8
    · exact h9
    · rw [← hx] at h; unfold checkS at h; rw [if_neg (by omega), if_neg (by omega), if_neg (by omega), if_neg (by omega), if_neg (by omega), if_neg (by omega)] at h; cases h
  have HFi : Hid (x = 0 → e0.op = 3 ∨ e0.op = 4 → x0 = 0 ∧ d0 = false ∧ fileS S.t e0.path = (i0, 0) ∧ ∃ b, (i0, b) ∈ S.fs ∧ bodyOf S.fs i0 = some b ∧ mayBd b = true) := Lib.hid fun h hop => by
    rw [h] at hx
    have hf : (fileS S.t e0.path).2 = 0 := by
      by_cases h9 : (fileS S.t e0.path).2 = 0
      · exact h9
      · exfalso; unfold checkS at hx; rw [if_neg (by omega)] at hx
        rcases hop with ho | ho
        · rw [if_pos ho, if_neg h9] at hx; exact h9 hx
        · rw [if_neg (by omega), if_pos ho, if_neg h9] at hx; exact h9 hx
    obtain ⟨b, hb⟩ := file_has hI hf
    rw [hfc] at hf hb
    by_cases h9 : x0 = 0 ∧ d0 = true
    · rw [if_pos h9] at hf; cases hf
    · rw [if_neg h9] at hf hb
      dsimp only at hf hb
      have hd : d0 = false := by cases d0 with | false => rfl | true => exact absurd ⟨hf, rfl⟩ h9
      refine ⟨hf, hd, by rw [hfc, if_neg h9, hf], b, hb, bodyOf_mem hI.once hb, hI.may _ hb⟩
  have HTr : Hid (x = 0 → e0.op = 4 → ∀ b, bodyOf S.fs i0 = some b → mayBd b = true → fileS S.t e0.path = (i0, 0) → (truncS b e0.size).2 = 0 ∧ R = (⟨S.t, setF S.fs i0 (truncS b e0.size).1⟩, 0)) := Lib.hid fun h ho b hb hmb hf => by
    rw [h] at hx
    have hsz : ¬ (e0.size < 0 ∨ 1099511627776 < e0.size) := fun h9 => by
      unfold checkS at hx; rw [if_neg (by omega), if_neg (by omega), if_pos ho, hf] at hx
      rw [if_pos rfl, if_pos h9] at hx; cases hx
    refine ⟨by unfold truncS; rw [if_pos hmb, if_neg hsz], ?_⟩
    rw [← hR]; unfold applyS; rw [if_pos hx, if_neg (by omega), if_neg (by omega), if_neg (by omega), if_pos ho, hf]
    dsimp only
    rw [hb]; rfl
  have HWr : Hid (x = 0 → e0.op = 3 → ∀ b, bodyOf S.fs i0 = some b → fileS S.t e0.path = (i0, 0) → (0 < e0.data.length ∧ clampS l ≠ (e0.data.length : Int) → R = (S, 1)) ∧ (¬ (0 < e0.data.length ∧ clampS l ≠ (e0.data.length : Int)) → R = if (writeS b e0.off l).2 = 0 then (⟨S.t, setF S.fs i0 (writeS b e0.off l).1⟩, 0) else (S, (writeS b e0.off l).2))) := Lib.hid fun h ho b hb hf => by
    have h9 := apply_write (S := S) (e := e0) (l := l) (b := b) (by rw [hx, h]) ho (by rw [hf]; dsimp only; rw [hb]; rfl)
    rw [hR, hf] at h9
    exact h9
  have HCk := Lib.hid (fun Y (h : DocS Y base sd fa S) => doc_check e0 a c Y hp hq hdl h hI.t hnx hl)
  have HNc := Lib.hid (fun Y hop (h : DocS Y base sd fa S) => doc_names e0 a c Y hop hp hq h hI.t hnx hl)
  have HUq : Hid (∀ (G : List FileM), G.map FileM.pair = S.fs → ∀ k, k < G.length → ∀ j, j < G.length → j ≠ k → (G.getD j default).id ≠ (G.getD k default).id) := Lib.hid fun G hG k hk j hj hjk => by
    have ho := hI.once
    rw [← hG] at ho
    have hp := List.pairwise_iff_getElem.1 ho
    have ej : (G.getD j default) = G[j] := by simp [List.getD, hj]
    have ek : (G.getD k default) = G[k] := by simp [List.getD, hk]
    rw [ej, ek]
    rcases Nat.lt_or_gt_of_ne hjk with h | h
    · have := hp j k (by simpa using hj) (by simpa using hk) h; simpa using this
    · have := hp k j (by simpa using hk) (by simpa using hj) h; simpa using Ne.symm this
  have HFw := Lib.hid hN
  have HLo := Lib.hid hlk
  obtain ⟨op, path, dst, off, size, data⟩ := e0
  dsimp only [evV] at *
  generalize data.length = n at *
  rw [hx] at HCk
  have hbx := heap_alloc_new w (.cells #[.int .i64 op, .string path, .string dst, .int .i64 off, .int .i64 size, .slice a n c] 31)
  have hBx : Below w.heap.size w (w.alloc (.cells #[.int .i64 op, .string path, .string dst, .int .i64 off, .int .i64 size, .slice a n c] 31)) := (Below.refl _ _).alloc (Nat.le_refl _) _
  have hsx : (w.alloc (.cells #[.int .i64 op, .string path, .string dst, .int .i64 off, .int .i64 size, .slice a n c] 31)).heap.size = w.heap.size + 1 := by simp
  have hsd := hS.lt
  have hlb := hS.lb
  have HS := Lib.hid hS
  have HS2 := Lib.hid hS2
  have HI := Lib.hid hI
  clear hlk hfc hI hS hR hx hids hS2 hN
  go_enter Tryz.func21, Tryz.ntmps21
  go_upto_region 1 with (fail)
  generalize w.alloc (.cells #[.int .i64 op, .string path, .string dst, .int .i64 off, .int .i64 size, .slice a n c] 31) = V at *
  have HE : Hid (∀ Y, Below V.heap.size V Y → Y.cell? ⟨w.heap.size, 0, none⟩ = some (.int .i64 op) ∧ Y.cell? ⟨w.heap.size, 1, none⟩ = some (.string path) ∧ Y.cell? ⟨w.heap.size, 2, none⟩ = some (.string dst) ∧ Y.cell? ⟨w.heap.size, 3, none⟩ = some (.int .i64 off) ∧ Y.cell? ⟨w.heap.size, 4, none⟩ = some (.int .i64 size) ∧ Y.cell? ⟨w.heap.size, 5, none⟩ = some (.slice a n c)) := Lib.hid fun Y h => b6_cells ((h.block w.heap.size (by omega)).trans hbx)
  obtain ⟨e0, e1, e2, e3, e4, e5⟩ := HE.out V (Below.refl _ _)
  have HBx := Lib.hid hBx
  have HC1 := Lib.hid (HCk.out V (HS.out.below hBx))
  clear hbx hBx HCk
  go_wp2_with fail
  with_reducible refine Calls.mono HC1.out ?_
  rintro e V1 ⟨rfl, hB1⟩
  have HB1 := Lib.hid hB1
  have HBw := Lib.hid (blw HBx.out hB1)
  obtain ⟨e0, e1, e2, e3, e4, e5⟩ := HE.out V1 hB1
  have hs1 := hB1.size
  have HSV := Lib.hid (HS.out.below (blw HBx.out hB1))
  clear hB1 HC1
  by_cases hx : x = 0
  · subst hx
    have hop := HOp.out (by trivial)
    by_cases h34 : op = 3 ∨ op = 4
    · rcases h34 with rfl | rfl
      · obtain ⟨rfl, rfl, hf, bb, hmem, hbo, hmb⟩ := HFi.out (by trivial) (by simp)
        obtain ⟨dx, hD, -⟩ := HSV.out.tree
        have HLk : Hid (∀ Y, Below V1.heap.size V1 Y → Calls Tryz.prog 46 #[.pointer (some ⟨sd, 0, none⟩), .string path] Y fun e w' => e = .returned (.tuple #[.int .i64 i0, .bool false, .int .i64 0]) ∧ Below Y.heap.size Y w') := Lib.hid fun Y h => doc_look path Y (by unfold maxLen; omega) (hD.below h) (by omega) HLo.out
        have HE1 : Hid (∀ Y, Below V1.heap.size V1 Y → _) := Lib.hid fun Y h => HE.out Y (HB1.out.trans (h.mono hs1))
        have HMem := Lib.hid hmem
        have HBo := Lib.hid hbo
        have HMb := Lib.hid hmb
        have HFf := Lib.hid hf
        clear hD HE HNc HNm HOp HFi HBad hmem hbo hmb hf hop
        go_upto_region 6 with (fail)
        go_region_held3 (fun w' => w'.cell? ⟨w.heap.size, 0, none⟩ = some (.int .i64 3) ∧ w'.cell? ⟨w.heap.size, 1, none⟩ = some (.string path) ∧ w'.cell? ⟨w.heap.size, 2, none⟩ = some (.string dst) ∧ w'.cell? ⟨w.heap.size, 3, none⟩ = some (.int .i64 off) ∧ w'.cell? ⟨w.heap.size, 4, none⟩ = some (.int .i64 size) ∧ w'.cell? ⟨w.heap.size, 5, none⟩ = some (.slice a n c)) (first | go_keep | exact ⟨e0, e1, e2, e3, e4, e5⟩ | exact HE1.out _ HBk.out) (first | (go_at_call 46; refine (HLk.out _ (by first | exact Below.refl _ _ | exact below_drewN' (Below.refl _ _) 1)).mono ?_; rintro e w' ⟨rfl, hBk⟩; have HBk : Hid (Below V1.heap.size V1 w') := Lib.hid ((show Below V1.heap.size V1 _ from by first | exact Below.refl _ _ | exact below_drewN' (Below.refl _ _) 1).trans hBk); clear hBk))
        all_goals
          have HBV := Lib.hid (blw HBw.out HBk.out)
          have HE2 : Hid (∀ Y, Below w'.heap.size w' Y → _) := Lib.hid fun Y h => HE1.out Y (HBk.out.trans (h.mono HBk.out.size))
          have HSW := Lib.hid (HS.out.below HBV.out)
          obtain ⟨G, cG, f1, f2, f3, f4⟩ := HSW.out.ex
          have hGl : G.length ≤ 1000000 := by have := congrArg List.length f1; rw [List.length_map] at this; omega
          have HBd := Lib.hid (doc_body i0 w' f2 f3 hGl)
          have HF1 := Lib.hid f1
          have HF2 := Lib.hid f2
          have HF3 := Lib.hid f3
          have HF4 := Lib.hid f4
          clear f1 f2 f3 f4 HLk
          go_wp2_with fail
          with_reducible refine Calls.mono HBd.out ?_
          rintro e w' ⟨rfl, hor⟩
          rcases hor with ⟨hno, _⟩ | ⟨k, g, hk, hid, _, rfl, rfl⟩
          · exfalso
            have hmem := HMem.out
            rw [← HF1.out] at hmem
            obtain ⟨f, hf, e⟩ := List.mem_map.1 hmem
            exact hno f hf (congrArg Prod.fst e)
          obtain ⟨g', eg, p0, p1, p2, hgl, hcc⟩ := rowF_at HF3.out hk
          obtain rfl : g = g' := by injection eg with e; injection e
          have hgm : G.getD k default ∈ G := by simp [List.getD, hk]
          have hfk := HF4.out _ hgm
          have HUk := Lib.hid (HUq.out G HF1.out k hk)
          have hbk : (G.getD k default).bd = bb := by
            have h1 : (i0, (G.getD k default).bd) ∈ S.fs := by rw [← HF1.out]; exact List.mem_map.2 ⟨_, hgm, by show (_, _) = _; rw [hid]⟩
            have h2 := bodyOf_mem HI.out.once h1
            rw [HBo.out] at h2
            exact (Option.some.inj h2).symm
          have hfw := HFw.out _ HMem.out
          have HId := Lib.hid hid
          have hpq := fun (X : World) (h : Below w'.heap.size w' X) => (own_below_any HF3.out h)
          have HRs := Lib.hid (fun (X : World) (h : Below w'.heap.size w' X) (v : Value) => rowF_set (own_below_any HF3.out h) hk v)
          rw [hbk] at p1 p2
          have HBk2 := Lib.hid hbk
          obtain ⟨hfk1, hfk2⟩ := hfk
          rw [hbk] at hfk1 hfk2
          have HSf := Lib.hid hfk1
          have HK : Hid (∀ Y, Below w'.heap.size w' Y → Y.cell? ⟨g, k * 3 + 1, none⟩ = some (.int .i64 bb.size) ∧ Y.cell? ⟨g, k * 3 + 2, none⟩ = some (.slice (G.getD k default).a bb.parts.length (G.getD k default).c) ∧ Y.cell? ⟨w.heap.size, 0, none⟩ = some (.int .i64 3) ∧ Y.cell? ⟨w.heap.size, 1, none⟩ = some (.string path) ∧ Y.cell? ⟨w.heap.size, 2, none⟩ = some (.string dst) ∧ Y.cell? ⟨w.heap.size, 3, none⟩ = some (.int .i64 off) ∧ Y.cell? ⟨w.heap.size, 4, none⟩ = some (.int .i64 size) ∧ Y.cell? ⟨w.heap.size, 5, none⟩ = some (.slice a n c)) := Lib.hid fun Y h => ⟨(h.cell (p := ⟨g, k * 3 + 1, none⟩) hgl).trans p1, (h.cell (p := ⟨g, k * 3 + 2, none⟩) hgl).trans p2, HE2.out Y h⟩
          have hbz := heap_alloc_new w' (.cells #[.int .i64 0, .slice none 0 0] 68)
          have hBz : Below w'.heap.size w' (w'.alloc (.cells #[.int .i64 0, .slice none 0 0] 68)) := (Below.refl _ _).alloc (Nat.le_refl _) _
          have hsz : (w'.alloc (.cells #[.int .i64 0, .slice none 0 0] 68)).heap.size = w'.heap.size + 1 := by simp
          clear hid hbk hpq hfk1 p0 p1 p2 eg hgm HBd HE1 HE2 HBk HSW
          generalize (G.getD k default).a = fpa at *
          generalize (G.getD k default).c = fpc at *
          go_upto_region 9 with (fail)
          generalize w'.alloc (.cells #[.int .i64 0, .slice none 0 0] 68) = V3 at *
          obtain ⟨q1, q2, e0, e1, e2, e3, e4, e5⟩ := HK.out V3 hBz
          have HWx := Lib.hid (HWr.out (by trivial) (by trivial) bb HBo.out HFf.out)
          obtain ⟨rs, rp, rc, hT⟩ : ∃ rs rp rc, writeS bb off l = (⟨rs, rp⟩, rc) := ⟨_, _, _, rfl⟩
          have HWy := HWx.out.2
          rw [hT] at HWy
          have HW1 := Lib.hid HWx.out.1
          have HW2 := Lib.hid HWy
          have HCa : Hid (∀ Y, Below w'.heap.size w' Y → Calls Tryz.prog 51 #[.agg #[.int .i64 bb.size, .slice fpa bb.parts.length fpc], .int .i64 off, .slice a2 l.length c2] Y (BdAns Y (⟨rs, rp⟩, rc))) := Lib.hid fun Y h => by
            have := doc_write bb off l fpa a2 fpc c2 Y (HSf.out.below h) hfk2 (by omega) (HS2.out.below (blw HBV.out h)) hc2 hm
            rw [hT] at this
            exact this
          clear HWx HWy hT HTr HWr
          have HB3 := Lib.hid hBz
          have HZ3 := Lib.hid hbz
          clear hBz hbz
          go_wp2
          go_loopw [13, 14] (fun v i wr => ∃ (j : Nat) (s : Int), j ≤ l.length ∧ v = .int .i64 s ∧ i = .int .i64 (j : Int) ∧ Hid (s = clampS (l.take j)) ∧ -100 * (j : Int) ≤ s ∧ s ≤ 100 * (j : Int) ∧ Hid (Below V3.heap.size V3 wr)) (fun _ i _ => l.length - (intOf i).toNat)
          case atStart => exact ⟨0, 0, by omega, rfl, rfl, Lib.hid rfl, by omega, by omega, Lib.hid (Below.refl _ _)⟩
          case round =>
            obtain ⟨j, s, hj, rfl, rfl, HSu, hs0, hs6, HBr⟩ := hrel
            have HBW := Lib.hid (HB3.out.trans (HBr.out.mono HB3.out.size))
            have hbW := (HBr.out.block w'.heap.size (by omega)).trans HZ3.out
            by_cases hlt : j < l.length
            · obtain ⟨b, o, rfl, p0, p1, p2, p3, hbl⟩ := SlPt_at (HS2.out.below (blw HBV.out HBW.out)) hlt
              have hji : (j : Int) < (l.length : Int) := by omega
              have hjc : (j : Int) < (c2 : Int) := by omega
              have HTk := Lib.hid (take_snocP hlt)
              generalize l.getD j default = p at *
              obtain ⟨po, pl, pc, pa⟩ := p
              dsimp only at p1
              have HSu2 : Hid (s + max (min pl 100) (-100) = clampS (l.take (j + 1))) := Lib.hid (by rw [HTk.out, clampS_snoc, ← HSu.out])
              have hw1 : wrap64 (s + max (min pl 100) (-100)) = s + max (min pl 100) (-100) := w64 (by omega) (by omega)
              clear p0 p2 p3 hbW q1 q2 e0 e1 e2 e3 e4 e5
              go_wp2
              exact ⟨⟨j + 1, s + max (min pl 100) (-100), by omega, rfl, by go_num, HSu2, by omega, by omega, HBr⟩, by simp [intOf]; omega⟩
            · obtain rfl : j = l.length := by omega
              have hlt' : decide ((l.length : Int) < (l.length : Int)) = false := by simp
              have hsum : s = clampS l := by rw [HSu.out, List.take_length]
              rw [← hsum] at HW1 HW2
              obtain ⟨q1, q2, e0, e1, e2, e3, e4, e5⟩ := HK.out wr HBW.out
              have HF := Lib.hid (blw HBV.out HBW.out)
              clear hlt hsum HSu
              by_cases hmis : 0 < n ∧ s ≠ (n : Int)
              · have hr := HW1.out hmis
                have hn1 : decide ((n : Int) > 0) = true := by simp; omega
                have hn0 : 0 < n := hmis.1
                have hn2 : (s != (n : Int)) = true := by simpa using hmis.2
                subst hr
                clear HW1 HW2 HCa HRs hmis hbW
                go_wp2
                go_ret
                exact ⟨rfl, some ⟨g, 0, none⟩, HS.out.below HF.out, .of_below HF.out, .inl rfl⟩
              · have HRq := Lib.hid (HW2.out hmis)
                clear HW1 HW2
                go_upto_region 16 with (fail)
                go_cut [83] from 58 to 83 (fun bv wx => bv = .bool false ∧ wr = wx)
                case first =>
                  clear HRq HCa HRs hbW
                  by_cases hn1 : 0 < n
                  · have hn1' : decide ((n : Int) > 0) = true := by simp; omega
                    have hn2 : (s != (n : Int)) = false := by simp; omega
                    clear hmis
                    go_wp2
                    go_meet
                    exact ⟨rfl, rfl⟩
                  · have hn1' : decide ((n : Int) > 0) = false := by simp; omega
                    clear hmis
                    go_wp2
                    go_meet
                    exact ⟨rfl, rfl⟩
                case rest =>
                  obtain ⟨rfl, rfl⟩ := hcut
                  clear hmis
                  have hsW := HBW.out.size
                  have hlW := (Array.getElem?_eq_some_iff.1 hbW).1
                  have HbW := Lib.hid hbW
                  clear hbW
                  go_upto_region 18 with (fail)
                  go_region_held3 (fun W' => W'.cell? ⟨g, k * 3 + 1, none⟩ = some (.int .i64 bb.size) ∧ W'.cell? ⟨g, k * 3 + 2, none⟩ = some (.slice fpa bb.parts.length fpc) ∧ W'.cell? ⟨w.heap.size, 0, none⟩ = some (.int .i64 3) ∧ W'.cell? ⟨w.heap.size, 1, none⟩ = some (.string path) ∧ W'.cell? ⟨w.heap.size, 2, none⟩ = some (.string dst) ∧ W'.cell? ⟨w.heap.size, 3, none⟩ = some (.int .i64 off) ∧ W'.cell? ⟨w.heap.size, 4, none⟩ = some (.int .i64 size) ∧ W'.cell? ⟨w.heap.size, 5, none⟩ = some (.slice a n c)) (first | go_keep | exact HK.out _ HBW.out | exact HK.out _ (below_drewN' HBW.out 1) | exact HK.out _ HBc.out | exact HK.out _ ((HBc.out.setCell (p := ⟨w'.heap.size, 0, none⟩) (Nat.le_refl _) _).setCell (p := ⟨w'.heap.size, 1, none⟩) (Nat.le_refl _) _)) (first | (go_at_call 51; refine (HCa.out _ (by first | exact HBW.out | exact below_drewN' HBW.out 1)).mono ?_; rintro e w4 ⟨a3, c3, rfl, hc3, hS3, hBc⟩; have hblk := (hBc.block w'.heap.size (by first | exact hlW | (show w'.heap.size < _; omega))).trans HbW.out; have HBc : Hid (Below w'.heap.size w' w4) := Lib.hid ((show Below w'.heap.size w' _ from by first | exact HBW.out | exact below_drewN' HBW.out 1).trans (hBc.mono (by first | exact hsW | (show w'.heap.size ≤ _; omega)))); obtain ⟨z0, z1⟩ := b2_facts hblk; obtain ⟨y0, y1⟩ := b2_froz hblk; have HZ := Lib.hid hblk; have HS3 := Lib.hid hS3; clear hS3 hBc hblk))
                  all_goals
                    have hX := Lib.hid (b2_end HZ.out (.int .i64 rs) (.slice a3 rp.length c3))
                    have hT4 : Turn [w'.heap.size] w4 ((w4.setCell ⟨w'.heap.size, 0, none⟩ (.int .i64 rs)).setCell ⟨w'.heap.size, 1, none⟩ (.slice a3 rp.length c3)) := ((Turn.refl _ _).setCell (p := ⟨w'.heap.size, 0, none⟩) (.inl (by simp)) _).setCell (p := ⟨w'.heap.size, 1, none⟩) (.inl (by simp)) _
                    have HS4 := Lib.hid (HS3.out.turnP hT4 (by simpa using NoPt.of_cells HZ.out (by decide) (by decide)))
                    have HB4 : Hid (Below w'.heap.size w' ((w4.setCell ⟨w'.heap.size, 0, none⟩ (.int .i64 rs)).setCell ⟨w'.heap.size, 1, none⟩ (.slice a3 rp.length c3))) := Lib.hid ((HBc.out.setCell (p := ⟨w'.heap.size, 0, none⟩) (Nat.le_refl _) _).setCell (p := ⟨w'.heap.size, 1, none⟩) (Nat.le_refl _) _)
                    clear y0 y1 z0 z1 HZ HS3 HBc hT4
                    try go_upto_region 19 with (fail)
                    generalize (w4.setCell ⟨w'.heap.size, 0, none⟩ (.int .i64 rs)).setCell ⟨w'.heap.size, 1, none⟩ (.slice a3 rp.length c3) = X4 at *
                    obtain ⟨q1, q2, e0, e1, e2, e3, e4, e5⟩ := HK.out X4 HB4.out
                    obtain ⟨z0, z1⟩ := b2_facts hX.out
                    by_cases hrc : rc = 0
                    · subst hrc
                      obtain ⟨r1, r2, r3⟩ := HRs.out X4 HB4.out (.int .i64 rs)
                      rw [HBk2.out] at r2
                      obtain ⟨hput1, hput2⟩ := DocS.putB (b := ⟨rs, rp⟩) HF1.out (HF2.out.below HB4.out) (own_below_any HF3.out HB4.out) (fun f hf => ⟨((HF4.out f hf).1).below HB4.out, (HF4.out f hf).2⟩) hlb hk HId.out (by have := HUk.out; rw [HId.out] at this; exact this) HS4.out hc3
                      have HP1 := Lib.hid hput1
                      have HP2 := Lib.hid hput2
                      clear hput1 hput2 HRs
                      go_wp2
                      go_ret
                      have e := (show R = (⟨S.t, setF S.fs i0 ⟨rs, rp⟩⟩, 0) by have h := HRq.out; simpa using h)
                      subst e
                      exact ⟨rfl, some ⟨g, 0, none⟩, HP1.out, (TurnD.of_below (blw HBV.out HB4.out)).trans (HP2.out.mono (by intro y hy; simp at hy; simp [abl, hy])), .inl rfl⟩
                    · have hrb : (rc == 0) = false := by simpa using hrc
                      have HRc := Lib.hid hrc
                      clear hrc HRs
                      go_wp2
                      go_ret
                      have e : R = (S, rc) := by have h := HRq.out; simpa [HRc.out] using h
                      subst e
                      exact ⟨rfl, some ⟨g, 0, none⟩, HS.out.below (blw HBV.out HB4.out), .of_below (blw HBV.out HB4.out), .inl rfl⟩
      · obtain ⟨rfl, rfl, hf, bb, hmem, hbo, hmb⟩ := HFi.out (by trivial) (by simp)
        obtain ⟨dx, hD, -⟩ := HSV.out.tree
        have HLk : Hid (∀ Y, Below V1.heap.size V1 Y → Calls Tryz.prog 46 #[.pointer (some ⟨sd, 0, none⟩), .string path] Y fun e w' => e = .returned (.tuple #[.int .i64 i0, .bool false, .int .i64 0]) ∧ Below Y.heap.size Y w') := Lib.hid fun Y h => doc_look path Y (by unfold maxLen; omega) (hD.below h) (by omega) HLo.out
        have HE1 : Hid (∀ Y, Below V1.heap.size V1 Y → _) := Lib.hid fun Y h => HE.out Y (HB1.out.trans (h.mono hs1))
        have HMem := Lib.hid hmem
        have HBo := Lib.hid hbo
        have HMb := Lib.hid hmb
        have HFf := Lib.hid hf
        clear hD HE HNc HNm HOp HFi HBad hmem hbo hmb hf hop
        go_upto_region 6 with (fail)
        go_region_held3 (fun w' => w'.cell? ⟨w.heap.size, 0, none⟩ = some (.int .i64 4) ∧ w'.cell? ⟨w.heap.size, 1, none⟩ = some (.string path) ∧ w'.cell? ⟨w.heap.size, 2, none⟩ = some (.string dst) ∧ w'.cell? ⟨w.heap.size, 3, none⟩ = some (.int .i64 off) ∧ w'.cell? ⟨w.heap.size, 4, none⟩ = some (.int .i64 size) ∧ w'.cell? ⟨w.heap.size, 5, none⟩ = some (.slice a n c)) (first | go_keep | exact ⟨e0, e1, e2, e3, e4, e5⟩ | exact HE1.out _ HBk.out) (first | (go_at_call 46; refine (HLk.out _ (by first | exact Below.refl _ _ | exact below_drewN' (Below.refl _ _) 1)).mono ?_; rintro e w' ⟨rfl, hBk⟩; have HBk : Hid (Below V1.heap.size V1 w') := Lib.hid ((show Below V1.heap.size V1 _ from by first | exact Below.refl _ _ | exact below_drewN' (Below.refl _ _) 1).trans hBk); clear hBk))
        all_goals
          have HBV := Lib.hid (blw HBw.out HBk.out)
          have HE2 : Hid (∀ Y, Below w'.heap.size w' Y → _) := Lib.hid fun Y h => HE1.out Y (HBk.out.trans (h.mono HBk.out.size))
          have HSW := Lib.hid (HS.out.below HBV.out)
          obtain ⟨G, cG, f1, f2, f3, f4⟩ := HSW.out.ex
          have hGl : G.length ≤ 1000000 := by have := congrArg List.length f1; rw [List.length_map] at this; omega
          have HBd := Lib.hid (doc_body i0 w' f2 f3 hGl)
          have HF1 := Lib.hid f1
          have HF2 := Lib.hid f2
          have HF3 := Lib.hid f3
          have HF4 := Lib.hid f4
          clear f1 f2 f3 f4 HLk
          go_wp2_with fail
          with_reducible refine Calls.mono HBd.out ?_
          rintro e w' ⟨rfl, hor⟩
          rcases hor with ⟨hno, _⟩ | ⟨k, g, hk, hid, _, rfl, rfl⟩
          · exfalso
            have hmem := HMem.out
            rw [← HF1.out] at hmem
            obtain ⟨f, hf, e⟩ := List.mem_map.1 hmem
            exact hno f hf (congrArg Prod.fst e)
          obtain ⟨g', eg, p0, p1, p2, hgl, hcc⟩ := rowF_at HF3.out hk
          obtain rfl : g = g' := by injection eg with e; injection e
          have hgm : G.getD k default ∈ G := by simp [List.getD, hk]
          have hfk := HF4.out _ hgm
          have HUk := Lib.hid (HUq.out G HF1.out k hk)
          have hbk : (G.getD k default).bd = bb := by
            have h1 : (i0, (G.getD k default).bd) ∈ S.fs := by rw [← HF1.out]; exact List.mem_map.2 ⟨_, hgm, by show (_, _) = _; rw [hid]⟩
            have h2 := bodyOf_mem HI.out.once h1
            rw [HBo.out] at h2
            exact (Option.some.inj h2).symm
          have hfw := HFw.out _ HMem.out
          have HId := Lib.hid hid
          have hpq := fun (X : World) (h : Below w'.heap.size w' X) => (own_below_any HF3.out h)
          have HRs := Lib.hid (fun (X : World) (h : Below w'.heap.size w' X) (v : Value) => rowF_set (own_below_any HF3.out h) hk v)
          rw [hbk] at p1 p2
          have HBk2 := Lib.hid hbk
          obtain ⟨hfk1, hfk2⟩ := hfk
          rw [hbk] at hfk1 hfk2
          have HSf := Lib.hid hfk1
          have HK : Hid (∀ Y, Below w'.heap.size w' Y → Y.cell? ⟨g, k * 3 + 1, none⟩ = some (.int .i64 bb.size) ∧ Y.cell? ⟨g, k * 3 + 2, none⟩ = some (.slice (G.getD k default).a bb.parts.length (G.getD k default).c) ∧ Y.cell? ⟨w.heap.size, 0, none⟩ = some (.int .i64 4) ∧ Y.cell? ⟨w.heap.size, 1, none⟩ = some (.string path) ∧ Y.cell? ⟨w.heap.size, 2, none⟩ = some (.string dst) ∧ Y.cell? ⟨w.heap.size, 3, none⟩ = some (.int .i64 off) ∧ Y.cell? ⟨w.heap.size, 4, none⟩ = some (.int .i64 size) ∧ Y.cell? ⟨w.heap.size, 5, none⟩ = some (.slice a n c)) := Lib.hid fun Y h => ⟨(h.cell (p := ⟨g, k * 3 + 1, none⟩) hgl).trans p1, (h.cell (p := ⟨g, k * 3 + 2, none⟩) hgl).trans p2, HE2.out Y h⟩
          have hbz := heap_alloc_new w' (.cells #[.int .i64 0, .slice none 0 0] 68)
          have hBz : Below w'.heap.size w' (w'.alloc (.cells #[.int .i64 0, .slice none 0 0] 68)) := (Below.refl _ _).alloc (Nat.le_refl _) _
          have hsz : (w'.alloc (.cells #[.int .i64 0, .slice none 0 0] 68)).heap.size = w'.heap.size + 1 := by simp
          clear hid hbk hpq hfk1 p0 p1 p2 eg hgm HBd HE1 HE2 HBk HSW
          generalize (G.getD k default).a = fpa at *
          generalize (G.getD k default).c = fpc at *
          go_upto_region 9 with (fail)
          generalize w'.alloc (.cells #[.int .i64 0, .slice none 0 0] 68) = V3 at *
          obtain ⟨q1, q2, e0, e1, e2, e3, e4, e5⟩ := HK.out V3 hBz
          obtain ⟨ht1, ht2⟩ := HTr.out (by trivial) (by trivial) bb HBo.out HMb.out HFf.out
          obtain ⟨rs, rp, rc, hT⟩ : ∃ rs rp rc, truncS bb size = (⟨rs, rp⟩, rc) := ⟨_, _, _, rfl⟩
          rw [hT] at ht1 ht2
          dsimp only at ht1 ht2
          subst ht1
          have HRq := Lib.hid ht2
          have HCa : Hid (∀ Y, Below w'.heap.size w' Y → Calls Tryz.prog 50 #[.agg #[.int .i64 bb.size, .slice fpa bb.parts.length fpc], .int .i64 size] Y (BdAns Y (⟨rs, rp⟩, 0))) := Lib.hid fun Y h => by
            have := doc_trunc bb size fpa fpc Y (HSf.out.below h) hfk2 (by omega)
            rw [hT] at this
            exact this
          have HBW := Lib.hid hBz
          have hbW := hbz
          clear ht2 hT HTr HWr hBz hbz
          have hsW := HBW.out.size
          have hlW := (Array.getElem?_eq_some_iff.1 hbW).1
          have HbW := Lib.hid hbW
          clear hbW
          go_upto_region 10 with (fail)
          go_region_held3 (fun W' => W'.cell? ⟨g, k * 3 + 1, none⟩ = some (.int .i64 bb.size) ∧ W'.cell? ⟨g, k * 3 + 2, none⟩ = some (.slice fpa bb.parts.length fpc) ∧ W'.cell? ⟨w.heap.size, 0, none⟩ = some (.int .i64 4) ∧ W'.cell? ⟨w.heap.size, 1, none⟩ = some (.string path) ∧ W'.cell? ⟨w.heap.size, 2, none⟩ = some (.string dst) ∧ W'.cell? ⟨w.heap.size, 3, none⟩ = some (.int .i64 off) ∧ W'.cell? ⟨w.heap.size, 4, none⟩ = some (.int .i64 size) ∧ W'.cell? ⟨w.heap.size, 5, none⟩ = some (.slice a n c)) (first | go_keep | exact HK.out _ HBW.out | exact HK.out _ (below_drewN' HBW.out 1) | exact HK.out _ HBc.out | exact HK.out _ ((HBc.out.setCell (p := ⟨w'.heap.size, 0, none⟩) (Nat.le_refl _) _).setCell (p := ⟨w'.heap.size, 1, none⟩) (Nat.le_refl _) _)) (first | (go_at_call 50; refine (HCa.out _ (by first | exact HBW.out | exact below_drewN' HBW.out 1)).mono ?_; rintro e w4 ⟨a3, c3, rfl, hc3, hS3, hBc⟩; have hblk := (hBc.block w'.heap.size (by first | exact hlW | (show w'.heap.size < _; omega))).trans HbW.out; have HBc : Hid (Below w'.heap.size w' w4) := Lib.hid ((show Below w'.heap.size w' _ from by first | exact HBW.out | exact below_drewN' HBW.out 1).trans (hBc.mono (by first | exact hsW | (show w'.heap.size ≤ _; omega)))); obtain ⟨z0, z1⟩ := b2_facts hblk; obtain ⟨y0, y1⟩ := b2_froz hblk; have HZ := Lib.hid hblk; have HS3 := Lib.hid hS3; clear hS3 hBc hblk))
          all_goals
            have hX := Lib.hid (b2_end HZ.out (.int .i64 rs) (.slice a3 rp.length c3))
            have hT4 : Turn [w'.heap.size] w4 ((w4.setCell ⟨w'.heap.size, 0, none⟩ (.int .i64 rs)).setCell ⟨w'.heap.size, 1, none⟩ (.slice a3 rp.length c3)) := ((Turn.refl _ _).setCell (p := ⟨w'.heap.size, 0, none⟩) (.inl (by simp)) _).setCell (p := ⟨w'.heap.size, 1, none⟩) (.inl (by simp)) _
            have HS4 := Lib.hid (HS3.out.turnP hT4 (by simpa using NoPt.of_cells HZ.out (by decide) (by decide)))
            have HB4 : Hid (Below w'.heap.size w' ((w4.setCell ⟨w'.heap.size, 0, none⟩ (.int .i64 rs)).setCell ⟨w'.heap.size, 1, none⟩ (.slice a3 rp.length c3))) := Lib.hid ((HBc.out.setCell (p := ⟨w'.heap.size, 0, none⟩) (Nat.le_refl _) _).setCell (p := ⟨w'.heap.size, 1, none⟩) (Nat.le_refl _) _)
            clear y0 y1 z0 z1 HZ HS3 HBc hT4
            try go_upto_region 19 with (fail)
            generalize (w4.setCell ⟨w'.heap.size, 0, none⟩ (.int .i64 rs)).setCell ⟨w'.heap.size, 1, none⟩ (.slice a3 rp.length c3) = X4 at *
            obtain ⟨q1, q2, e0, e1, e2, e3, e4, e5⟩ := HK.out X4 HB4.out
            obtain ⟨z0, z1⟩ := b2_facts hX.out
            obtain ⟨r1, r2, r3⟩ := HRs.out X4 HB4.out (.int .i64 rs)
            rw [HBk2.out] at r2
            obtain ⟨hput1, hput2⟩ := DocS.putB (b := ⟨rs, rp⟩) HF1.out (HF2.out.below HB4.out) (own_below_any HF3.out HB4.out) (fun f hf => ⟨((HF4.out f hf).1).below HB4.out, (HF4.out f hf).2⟩) hlb hk HId.out (by have := HUk.out; rw [HId.out] at this; exact this) HS4.out hc3
            have HP1 := Lib.hid hput1
            have HP2 := Lib.hid hput2
            clear hput1 hput2 HRs
            go_wp2
            go_ret
            have e := HRq.out
            subst e
            exact ⟨rfl, some ⟨g, 0, none⟩, HP1.out, (TurnD.of_below (blw HBV.out HB4.out)).trans (HP2.out.mono (by intro y hy; simp at hy; simp [abl, hy])), .inl rfl⟩
    · have hop2 : op = 1 ∨ op = 2 ∨ op = 5 ∨ op = 6 ∨ op = 7 ∨ op = 8 := by omega
      have h3' : (op != 3) = true := by simp; omega
      have h4' : (op != 4) = true := by simp; omega
      have hN := HNm.out (by trivial) hop2
      have HNw := Lib.hid (HNc.out V1 hop2 HSV.out)
      rw [hN] at HNw
      clear hN HNc HNm HOp HFi HTr HWr HBad hop hop2 h34 HFw HUq
      go_wp2_with fail
      with_reducible refine Calls.mono HNw.out ?_
      rintro e w2 ⟨rfl, fa', hD2, hT2, hfr⟩
      have HD2 := Lib.hid hD2
      have HT2 := Lib.hid hT2
      have HFr := Lib.hid hfr
      clear hD2 hT2 hfr HNw
      go_wp2
      go_ret
      refine ⟨rfl, fa', HD2.out, ((TurnD.of_below HBw.out).trans HT2.out).mono (by intro y hy; simp at hy; simp [hy]), ?_⟩
      rcases HFr.out with h | h
      · exact .inl h
      · exact .inr fun g hg => by have := h g hg; have := HBw.out.size; omega
  · have hr := HBad.out hx
    have hxb : (x != 0) = true := by simpa using hx
    subst hr
    clear HNc HNm HOp HFi HTr HWr HBad HFw HUq hx
    go_wp2
    go_ret
    exact ⟨rfl, fa, HSV.out, .of_below HBw.out, .inl rfl⟩
end Go.Proofs.YtiegadfhgccliaaGreatDoor
