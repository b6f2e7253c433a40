/- Walks of package body: Fits, end, ahead, behind. Printed by gen_body.py. -/
import Derived.Test.YtiegadfhgccliaaGreatDoorMDocG
import Derived.Deep.RegionHeld3
import Derived.Test.YtiegadfhgccliaaGreatDoorMTreeM
set_option linter.unusedVariables false
namespace Go.Proofs.YtiegadfhgccliaaGreatDoor
open Go.RowKit Go.Lib
open Go.ChangeMaps (setBlock)

/-- What names does. -/
def namesS (S : FS) (e : Ev) : FS × Int :=
  if e.op = 1 then (⟨(makeS S.t e.path false).1, if (makeS S.t e.path false).2.2 = 0 then S.fs ++ [((makeS S.t e.path false).2.1, ⟨0, []⟩)] else S.fs⟩, (makeS S.t e.path false).2.2)
  else if e.op = 2 then (⟨(makeS S.t e.path true).1, S.fs⟩, (makeS S.t e.path true).2.2)
  else if e.op = 5 then (⟨(renS S.t e.path e.to).1, if (renS S.t e.path e.to).2.2 = 0 ∧ 0 ≤ (renS S.t e.path e.to).2.1 then dropF S.fs (renS S.t e.path e.to).2.1 else S.fs⟩, (renS S.t e.path e.to).2.2)
  else if e.op = 6 ∨ e.op = 7 then (⟨(dropS S.t e.path (decide (e.op = 7))).1, if (dropS S.t e.path (decide (e.op = 7))).2.2 = 0 then dropF S.fs (dropS S.t e.path (decide (e.op = 7))).2.1 else S.fs⟩, (dropS S.t e.path (decide (e.op = 7))).2.2)
  else (S, if nameOk e.path then 0 else 11)
/-- What a call of names leaves. -/
def NamesAns (w : World) (base sd : Nat) (fa : Option Addr) (R : FS × Int) : Ending → World → Prop := fun e w' => e = .returned (.int .i64 R.2) ∧ ∃ fa', DocS w' base sd fa' R.1 ∧ TurnD [sd] w w' ∧ (fa' = fa ∨ ∀ g ∈ abl fa', w.heap.size ≤ g)
set_option maxRecDepth 100000 in
set_option maxHeartbeats 8000000 in
theorem names_create (path dst : ByteArray) (off size : Int) (data : List UInt8) (a : Option Addr) (c : Nat) (w : World) {base sd : Nat} {fa : Option Addr} {S : FS} (hp : path.size ≤ 100000) (hq : dst.size ≤ 100000) (hS : DocS w base sd fa S) (hI : TInv S.t) (hnx : S.t.nx ≤ 1000000000000) (hl : S.fs.length ≤ 1000000) :
    Calls Tryz.prog 48 #[.pointer (some ⟨sd, 0, none⟩), evV ⟨1, path, dst, off, size, data⟩ a c] w (NamesAns w base sd fa (namesS S ⟨1, path, dst, off, size, data⟩)) := by
  obtain ⟨T', nid, x, hR⟩ : ∃ T' nid x, makeS S.t path false = (T', nid, x) := ⟨_, _, _, rfl⟩
  have hN : namesS S ⟨1, path, dst, off, size, data⟩ = (⟨T', if x = 0 then S.fs ++ [(nid, ⟨0, []⟩)] else S.fs⟩, x) := by unfold namesS; dsimp only; rw [if_pos rfl, hR]
  generalize namesS S ⟨1, path, dst, off, size, data⟩ = R at *
  have HN := Lib.hid hN
  clear hN
  have HR := Lib.hid hR
  clear hR
  obtain ⟨i1, ki, kz0, kz1, kz2⟩ := info_parts info_fl
  dsimp only [evV]
  generalize data.length = n at *
  have hbx := heap_alloc_new w (.cells #[.int .i64 1, .string path, .string dst, .int .i64 off, .int .i64 size, .slice a n c] 31)
  have hBx : Below w.heap.size w (w.alloc (.cells #[.int .i64 1, .string path, .string dst, .int .i64 off, .int .i64 size, .slice a n c] 31)) := (Below.refl _ _).alloc (Nat.le_refl _) _
  have hsx : (w.alloc (.cells #[.int .i64 1, .string path, .string dst, .int .i64 off, .int .i64 size, .slice a n c] 31)).heap.size = w.heap.size + 1 := by simp
  have hsd := hS.lt
  have hlb := hS.lb
  obtain ⟨dx, hD, hTr⟩ := (hS.below hBx).tree
  have HTr := Lib.hid hTr
  have HD := Lib.hid hD
  have HI := Lib.hid hI
  have HS := Lib.hid hS
  clear hTr hD hI hS
  go_enter Tryz.func48, Tryz.ntmps48
  go_upto_region 1 with (fail)
  generalize w.alloc (.cells #[.int .i64 1, .string path, .string dst, .int .i64 off, .int .i64 size, .slice a n c] 31) = V at *
  obtain ⟨e0, e1, e2, e3, e4, e5⟩ := b6_cells hbx
  have HBx := Lib.hid hBx
  have HKt : Hid (∀ X, Turn [sd] V X → X.cell? ⟨w.heap.size, 0, none⟩ = some (.int .i64 1) ∧ X.cell? ⟨w.heap.size, 1, none⟩ = some (.string path) ∧ X.cell? ⟨w.heap.size, 2, none⟩ = some (.string dst)) := Lib.hid fun X h => ⟨(h.cell (p := ⟨w.heap.size, 0, none⟩) (by show w.heap.size < _; omega) (by simp; omega)).trans e0, (h.cell (p := ⟨w.heap.size, 1, none⟩) (by show w.heap.size < _; omega) (by simp; omega)).trans e1, (h.cell (p := ⟨w.heap.size, 2, none⟩) (by show w.heap.size < _; omega) (by simp; omega)).trans e2⟩
  clear hbx hBx
  go_upto_region 4 with (fail)
  clear e3 e4 e5
  have HCl : Hid (∀ X, Below V.heap.size V X → Calls Tryz.prog 76 #[.pointer (some ⟨sd, 0, none⟩), .string path, .bool false] X fun e w' => e = .returned (.tuple #[.int .i64 nid, .int .i64 x]) ∧ DocS w' base sd fa ⟨T', S.fs⟩ ∧ TurnD [sd] V w') := Lib.hid fun X h => by
    refine (doc_make path false X hp (HD.out.below h) HI.out hnx).mono ?_
    rw [HR.out]
    rintro e w' ⟨h1, h2, h3⟩
    exact ⟨h1, HTr.out w' _ ((Turn.of_below h).trans h3) h2⟩
  go_region_held3 (fun w' => w'.cell? ⟨w.heap.size, 0, none⟩ = some (.int .i64 1) ∧ w'.cell? ⟨w.heap.size, 1, none⟩ = some (.string path) ∧ w'.cell? ⟨w.heap.size, 2, none⟩ = some (.string dst)) (first | go_keep | exact ⟨e0, e1, e2⟩ | exact HKt.out _ HTn.out) (first | (go_at_call 76; refine (HCl.out _ (by first | exact Below.refl _ _ | exact below_drewN' (Below.refl _ _) 1)).mono ?_; rintro e w' ⟨rfl, hDS, hTn⟩; have HDS := Lib.hid hDS; have HTn := Lib.hid hTn.t; have HTd := Lib.hid hTn; clear hDS hTn))
  all_goals
    obtain ⟨k0, k1, k2⟩ := HKt.out _ HTn.out
    by_cases hx : x = 0
    · subst hx
      obtain ⟨F, cf, f1, f2, f3, f4⟩ := HDS.out.ex
      have hFl : F.length ≤ 1000000 := by have := congrArg List.length f1; rw [List.length_map] at this; dsimp only at this; omega
      obtain ⟨c2, fz2⟩ := f2.cell2
      obtain ⟨_, _, hv, hcf, hSF, _⟩ := SlK.own (E := encF) f3
      obtain ⟨ea, _, eb⟩ := Value.slice.inj hv
      subst ea
      subst eb
      have HSF := Lib.hid hSF
      have HF1 := Lib.hid f1
      have HF2 := Lib.hid f2
      have HF4 := Lib.hid f4
      have hsw := HTn.out.size
      clear f1 f2 f3 f4 hSF hv HCl
      go_wp2_with (first | (at_builtin; refine wpList_append_own _ rfl (.tmp 40) (.tmp 43) 64 rfl w'.heap.size 70 i1 _ 3 40 Tryz.underlying64 ki kz0 kz1 kz2 rfl (by decide) _ _ _ rfl (HO1.out.alloc _) ⟨w1.heap.size, 0, none⟩ 1 1 [.int .i64 nid, .int .i64 0, .slice none 0 0] rfl rfl (new3b _ _ _ _ _ _ rfl) (by intro u hu; simp at hu; rcases hu with rfl | rfl | rfl <;> rfl) (by unfold maxLen; omega) (by omega) (by simp; omega) ?_; intro v2 w2 ho2 hg2 hnil; clear hnil; obtain ⟨g2, cap2, rfl, hg2b, hg2l⟩ := ho2.form (by omega); have HO2 := Lib.hid ho2; have HB2 := Lib.hid (grown_below (HB1.out.alloc HB1.out.size _) (by simp; omega) (HO1.out.alloc _) hg2); obtain ⟨d2, gz2⟩ := (HF2.out.below HB2.out).cell2; have hs2 := HB2.out.size; clear ho2 hg2) | (at_builtin; refine wpList_append_any _ rfl (.const (.slice none 0 0)) (.tmp 39) 64 rfl w'.heap.size 70 i1 _ 3 40 Tryz.underlying64 ki kz0 kz1 kz2 rfl (by decide) _ 0 [] rfl (World.ownsRow_nil _ _ _ _) fa F.length cf (encF.cells F) rfl (cellsK_len encF F) (slK_news HSF.out) (cellsK_one encF F) (by unfold maxLen; omega) (by omega) (by first | exact Nat.le_refl _ | omega) ?_; intro v1 w1 ho1 hg1 _; rw [Nat.zero_add, List.nil_append] at ho1; have HO1 := Lib.hid ho1; have HB1 := Lib.hid (grown_below (B := w'.heap.size) (w := w') (Below.refl _ _) (Nat.le_refl _) (World.ownsRow_nil _ _ 70 3) hg1); have hs1 := HB1.out.size; clear ho1 hg1))
      go_ret
      have hO2 := HO2.out
      have hcs : encF.cells F ++ [.int .i64 nid, .int .i64 0, .slice none 0 0] = encF.cells (F ++ [⟨nid, ⟨0, []⟩, none, 0⟩]) := by rw [cellsK_snoc]; rfl
      rw [hcs, show F.length + 1 = (F ++ [(⟨nid, ⟨0, []⟩, none, 0⟩ : FileM)]).length by simp] at hO2
      have hTw : TurnD [sd] w w2 := ((TurnD.of_below HBx.out).trans HTd.out).trans (.of_below HB2.out)
      obtain ⟨a2, c3, hv, h1, h2, h3⟩ := DocS.setfiles hsd hlb hTw (HF2.out.below HB2.out) (by omega) hO2 fun f hf => by
        rcases List.mem_append.1 hf with hf | hf
        · exact ⟨((HF4.out f hf).1).below HB2.out, (HF4.out f hf).2⟩
        · rw [List.mem_singleton.1 hf]; exact ⟨.nil _, Nat.le_refl _⟩
      have hle : (F ++ [(⟨nid, ⟨0, []⟩, none, 0⟩ : FileM)]).length = F.length + 1 := by simp
      rw [hle] at h1 h2
      rw [List.map_append, HF1.out] at h1
      have e : R = (⟨T', S.fs ++ [(nid, ⟨0, []⟩)]⟩, 0) := by have e := HN.out; simpa using e
      subst e
      exact ⟨rfl, a2, h1, h2, .inr h3⟩
    · have hxb : (x == 0) = false := by simpa using hx
      have HX := Lib.hid hx
      clear hx
      go_wp2
      go_ret
      have e : R = (⟨T', S.fs⟩, x) := by have e := HN.out; simpa [HX.out] using e
      subst e
      exact ⟨rfl, fa, HDS.out, (TurnD.of_below HBx.out).trans HTd.out, .inl rfl⟩
set_option maxRecDepth 100000 in
set_option maxHeartbeats 8000000 in
theorem names_mkdir (path dst : ByteArray) (off size : Int) (data : List UInt8) (a : Option Addr) (c : Nat) (w : World) {base sd : Nat} {fa : Option Addr} {S : FS} (hp : path.size ≤ 100000) (hq : dst.size ≤ 100000) (hS : DocS w base sd fa S) (hI : TInv S.t) (hnx : S.t.nx ≤ 1000000000000) (hl : S.fs.length ≤ 1000000) :
    Calls Tryz.prog 48 #[.pointer (some ⟨sd, 0, none⟩), evV ⟨2, path, dst, off, size, data⟩ a c] w (NamesAns w base sd fa (namesS S ⟨2, path, dst, off, size, data⟩)) := by
  obtain ⟨T', nid, x, hR⟩ : ∃ T' nid x, makeS S.t path true = (T', nid, x) := ⟨_, _, _, rfl⟩
  have hN : namesS S ⟨2, path, dst, off, size, data⟩ = (⟨T', S.fs⟩, x) := by unfold namesS; dsimp only; rw [if_neg (by decide), if_pos rfl, hR]
  generalize namesS S ⟨2, path, dst, off, size, data⟩ = R at *
  have HN := Lib.hid hN
  clear hN
  have HR := Lib.hid hR
  clear hR
  dsimp only [evV]
  generalize data.length = n at *
  have hbx := heap_alloc_new w (.cells #[.int .i64 2, .string path, .string dst, .int .i64 off, .int .i64 size, .slice a n c] 31)
  have hBx : Below w.heap.size w (w.alloc (.cells #[.int .i64 2, .string path, .string dst, .int .i64 off, .int .i64 size, .slice a n c] 31)) := (Below.refl _ _).alloc (Nat.le_refl _) _
  have hsx : (w.alloc (.cells #[.int .i64 2, .string path, .string dst, .int .i64 off, .int .i64 size, .slice a n c] 31)).heap.size = w.heap.size + 1 := by simp
  have hsd := hS.lt
  have hlb := hS.lb
  obtain ⟨dx, hD, hTr⟩ := (hS.below hBx).tree
  have HTr := Lib.hid hTr
  have HD := Lib.hid hD
  have HI := Lib.hid hI
  have HS := Lib.hid hS
  clear hTr hD hI hS
  go_enter Tryz.func48, Tryz.ntmps48
  go_upto_region 1 with (fail)
  generalize w.alloc (.cells #[.int .i64 2, .string path, .string dst, .int .i64 off, .int .i64 size, .slice a n c] 31) = V at *
  obtain ⟨e0, e1, e2, e3, e4, e5⟩ := b6_cells hbx
  have HBx := Lib.hid hBx
  have HKt : Hid (∀ X, Turn [sd] V X → X.cell? ⟨w.heap.size, 0, none⟩ = some (.int .i64 2) ∧ X.cell? ⟨w.heap.size, 1, none⟩ = some (.string path) ∧ X.cell? ⟨w.heap.size, 2, none⟩ = some (.string dst)) := Lib.hid fun X h => ⟨(h.cell (p := ⟨w.heap.size, 0, none⟩) (by show w.heap.size < _; omega) (by simp; omega)).trans e0, (h.cell (p := ⟨w.heap.size, 1, none⟩) (by show w.heap.size < _; omega) (by simp; omega)).trans e1, (h.cell (p := ⟨w.heap.size, 2, none⟩) (by show w.heap.size < _; omega) (by simp; omega)).trans e2⟩
  clear hbx hBx
  go_upto_region 4 with (fail)
  clear e3 e4 e5
  have HCl : Hid (∀ X, Below V.heap.size V X → Calls Tryz.prog 76 #[.pointer (some ⟨sd, 0, none⟩), .string path, .bool true] X fun e w' => e = .returned (.tuple #[.int .i64 nid, .int .i64 x]) ∧ DocS w' base sd fa ⟨T', S.fs⟩ ∧ TurnD [sd] V w') := Lib.hid fun X h => by
    refine (doc_make path true X hp (HD.out.below h) HI.out hnx).mono ?_
    rw [HR.out]
    rintro e w' ⟨h1, h2, h3⟩
    exact ⟨h1, HTr.out w' _ ((Turn.of_below h).trans h3) h2⟩
  go_region_held3 (fun w' => w'.cell? ⟨w.heap.size, 0, none⟩ = some (.int .i64 2) ∧ w'.cell? ⟨w.heap.size, 1, none⟩ = some (.string path) ∧ w'.cell? ⟨w.heap.size, 2, none⟩ = some (.string dst)) (first | go_keep | exact ⟨e0, e1, e2⟩ | exact HKt.out _ HTn.out) (first | (go_at_call 76; refine (HCl.out _ (by first | exact Below.refl _ _ | exact below_drewN' (Below.refl _ _) 1)).mono ?_; rintro e w' ⟨rfl, hDS, hTn⟩; have HDS := Lib.hid hDS; have HTn := Lib.hid hTn.t; have HTd := Lib.hid hTn; clear hDS hTn))
  all_goals
    obtain ⟨k0, k1, k2⟩ := HKt.out _ HTn.out
    clear HCl
    by_cases hx : x = 0
    · subst hx
      go_wp2
      go_ret
      have e := HN.out
      subst e
      exact ⟨rfl, fa, HDS.out, (TurnD.of_below HBx.out).trans HTd.out, .inl rfl⟩
    · have hxb : (x == 0) = false := by simpa using hx
      clear hx
      go_wp2
      go_ret
      have e := HN.out
      subst e
      exact ⟨rfl, fa, HDS.out, (TurnD.of_below HBx.out).trans HTd.out, .inl rfl⟩
set_option maxRecDepth 100000 in
set_option maxHeartbeats 8000000 in
theorem names_rename (path dst : ByteArray) (off size : Int) (data : List UInt8) (a : Option Addr) (c : Nat) (w : World) {base sd : Nat} {fa : Option Addr} {S : FS} (hp : path.size ≤ 100000) (hq : dst.size ≤ 100000) (hS : DocS w base sd fa S) (hI : TInv S.t) (hnx : S.t.nx ≤ 1000000000000) (hl : S.fs.length ≤ 1000000) :
    Calls Tryz.prog 48 #[.pointer (some ⟨sd, 0, none⟩), evV ⟨5, path, dst, off, size, data⟩ a c] w (NamesAns w base sd fa (namesS S ⟨5, path, dst, off, size, data⟩)) := by
  obtain ⟨T', nid, x, hR⟩ : ∃ T' nid x, renS S.t path dst = (T', nid, x) := ⟨_, _, _, rfl⟩
  have hN : namesS S ⟨5, path, dst, off, size, data⟩ = (⟨T', if x = 0 ∧ 0 ≤ nid then dropF S.fs nid else S.fs⟩, x) := by unfold namesS; dsimp only; rw [if_neg (by decide), if_neg (by decide), if_pos rfl, hR]
  generalize namesS S ⟨5, path, dst, off, size, data⟩ = R at *
  have HN := Lib.hid hN
  clear hN
  have HR := Lib.hid hR
  clear hR
  dsimp only [evV]
  generalize data.length = n at *
  have hbx := heap_alloc_new w (.cells #[.int .i64 5, .string path, .string dst, .int .i64 off, .int .i64 size, .slice a n c] 31)
  have hBx : Below w.heap.size w (w.alloc (.cells #[.int .i64 5, .string path, .string dst, .int .i64 off, .int .i64 size, .slice a n c] 31)) := (Below.refl _ _).alloc (Nat.le_refl _) _
  have hsx : (w.alloc (.cells #[.int .i64 5, .string path, .string dst, .int .i64 off, .int .i64 size, .slice a n c] 31)).heap.size = w.heap.size + 1 := by simp
  have hsd := hS.lt
  have hlb := hS.lb
  obtain ⟨dx, hD, hTr⟩ := (hS.below hBx).tree
  have HTr := Lib.hid hTr
  have HD := Lib.hid hD
  have HI := Lib.hid hI
  have HS := Lib.hid hS
  clear hTr hD hI hS
  go_enter Tryz.func48, Tryz.ntmps48
  go_upto_region 1 with (fail)
  generalize w.alloc (.cells #[.int .i64 5, .string path, .string dst, .int .i64 off, .int .i64 size, .slice a n c] 31) = V at *
  obtain ⟨e0, e1, e2, e3, e4, e5⟩ := b6_cells hbx
  have HBx := Lib.hid hBx
  have HKt : Hid (∀ X, Turn [sd] V X → X.cell? ⟨w.heap.size, 0, none⟩ = some (.int .i64 5) ∧ X.cell? ⟨w.heap.size, 1, none⟩ = some (.string path) ∧ X.cell? ⟨w.heap.size, 2, none⟩ = some (.string dst)) := Lib.hid fun X h => ⟨(h.cell (p := ⟨w.heap.size, 0, none⟩) (by show w.heap.size < _; omega) (by simp; omega)).trans e0, (h.cell (p := ⟨w.heap.size, 1, none⟩) (by show w.heap.size < _; omega) (by simp; omega)).trans e1, (h.cell (p := ⟨w.heap.size, 2, none⟩) (by show w.heap.size < _; omega) (by simp; omega)).trans e2⟩
  clear hbx hBx
  go_upto_region 9 with (fail)
  clear e3 e4 e5
  have HCl : Hid (∀ X, Below V.heap.size V X → Calls Tryz.prog 77 #[.pointer (some ⟨sd, 0, none⟩), .string path, .string dst] X fun e w' => e = .returned (.tuple #[.int .i64 nid, .int .i64 x]) ∧ DocS w' base sd fa ⟨T', S.fs⟩ ∧ TurnD [sd] V w') := Lib.hid fun X h => by
    refine (doc_rename path dst X hp hq (HD.out.below h) HI.out).mono ?_
    rw [HR.out]
    rintro e w' ⟨h1, h2, h3⟩
    exact ⟨h1, HTr.out w' _ ((Turn.of_below h).trans h3) h2⟩
  go_region_held3 (fun w' => w'.cell? ⟨w.heap.size, 0, none⟩ = some (.int .i64 5) ∧ w'.cell? ⟨w.heap.size, 1, none⟩ = some (.string path) ∧ w'.cell? ⟨w.heap.size, 2, none⟩ = some (.string dst)) (first | go_keep | exact ⟨e0, e1, e2⟩ | exact HKt.out _ HTn.out) (first | (go_at_call 77; refine (HCl.out _ (by first | exact Below.refl _ _ | exact below_drewN' (Below.refl _ _) 1)).mono ?_; rintro e w' ⟨rfl, hDS, hTn⟩; have HDS := Lib.hid hDS; have HTn := Lib.hid hTn.t; have HTd := Lib.hid hTn; clear hDS hTn))
  all_goals
    obtain ⟨k0, k1, k2⟩ := HKt.out _ HTn.out
    by_cases hx : x = 0
    · subst hx
      by_cases hg : 0 ≤ nid
      · have hgt : decide (0 ≤ nid) = true := by simpa using hg
        have HGg := Lib.hid hg
        have HDr := Lib.hid (doc_dropf nid w' HDS.out hl)
        clear HCl
        go_wp2_with fail
        with_reducible refine Calls.mono HDr.out ?_
        rintro e w2 ⟨rfl, fa', hD2, hT2, hfr⟩
        have HD2 := Lib.hid hD2
        have HT2 := Lib.hid ((HTd.out).trans hT2)
        have HFr := Lib.hid hfr
        have hsw := HTn.out.size
        clear hD2 hT2 hfr HDr
        go_wp2
        go_ret
        have e : R = (⟨T', dropF S.fs nid⟩, 0) := by have e := HN.out; simpa [HGg.out] using e
        subst e
        exact ⟨rfl, fa', HD2.out, (TurnD.of_below HBx.out).trans HT2.out, .inr fun g hg => by have := HFr.out g hg; omega⟩
      · have HGg := Lib.hid hg
        have hgf : decide (0 ≤ nid) = false := by simpa using hg
        have hgf2 : decide (nid ≥ 0) = false := by simpa using hg
        clear HCl
        go_wp2
        go_ret
        have e : R = (⟨T', S.fs⟩, 0) := by have e := HN.out; have h := HGg.out; simpa [show ¬ 0 ≤ nid by omega] using e
        subst e
        exact ⟨rfl, fa, HDS.out, (TurnD.of_below HBx.out).trans HTd.out, .inl rfl⟩
    · have hxb : (x == 0) = false := by simpa using hx
      have HX := Lib.hid hx
      clear hx HCl
      go_wp2
      go_ret
      have e : R = (⟨T', S.fs⟩, x) := by have e := HN.out; simpa [HX.out] using e
      subst e
      exact ⟨rfl, fa, HDS.out, (TurnD.of_below HBx.out).trans HTd.out, .inl rfl⟩
set_option maxRecDepth 100000 in
set_option maxHeartbeats 8000000 in
theorem names_unlink (path dst : ByteArray) (off size : Int) (data : List UInt8) (a : Option Addr) (c : Nat) (w : World) {base sd : Nat} {fa : Option Addr} {S : FS} (hp : path.size ≤ 100000) (hq : dst.size ≤ 100000) (hS : DocS w base sd fa S) (hI : TInv S.t) (hnx : S.t.nx ≤ 1000000000000) (hl : S.fs.length ≤ 1000000) :
    Calls Tryz.prog 48 #[.pointer (some ⟨sd, 0, none⟩), evV ⟨6, path, dst, off, size, data⟩ a c] w (NamesAns w base sd fa (namesS S ⟨6, path, dst, off, size, data⟩)) := by
  obtain ⟨T', nid, x, hR⟩ : ∃ T' nid x, dropS S.t path false = (T', nid, x) := ⟨_, _, _, rfl⟩
  have hN : namesS S ⟨6, path, dst, off, size, data⟩ = (⟨T', if x = 0 then dropF S.fs nid else S.fs⟩, x) := by
    unfold namesS; dsimp only
    rw [if_neg (by decide), if_neg (by decide), if_neg (by decide), if_pos (by decide), show decide ((6 : Int) = 7) = false from rfl, hR]
  generalize namesS S ⟨6, path, dst, off, size, data⟩ = R at *
  have HN := Lib.hid hN
  clear hN
  have HR := Lib.hid hR
  clear hR
  dsimp only [evV]
  generalize data.length = n at *
  have hbx := heap_alloc_new w (.cells #[.int .i64 6, .string path, .string dst, .int .i64 off, .int .i64 size, .slice a n c] 31)
  have hBx : Below w.heap.size w (w.alloc (.cells #[.int .i64 6, .string path, .string dst, .int .i64 off, .int .i64 size, .slice a n c] 31)) := (Below.refl _ _).alloc (Nat.le_refl _) _
  have hsx : (w.alloc (.cells #[.int .i64 6, .string path, .string dst, .int .i64 off, .int .i64 size, .slice a n c] 31)).heap.size = w.heap.size + 1 := by simp
  have hsd := hS.lt
  have hlb := hS.lb
  obtain ⟨dx, hD, hTr⟩ := (hS.below hBx).tree
  have HTr := Lib.hid hTr
  have HD := Lib.hid hD
  have HI := Lib.hid hI
  have HS := Lib.hid hS
  clear hTr hD hI hS
  go_enter Tryz.func48, Tryz.ntmps48
  go_upto_region 1 with (fail)
  generalize w.alloc (.cells #[.int .i64 6, .string path, .string dst, .int .i64 off, .int .i64 size, .slice a n c] 31) = V at *
  obtain ⟨e0, e1, e2, e3, e4, e5⟩ := b6_cells hbx
  have HBx := Lib.hid hBx
  have HKt : Hid (∀ X, Turn [sd] V X → X.cell? ⟨w.heap.size, 0, none⟩ = some (.int .i64 6) ∧ X.cell? ⟨w.heap.size, 1, none⟩ = some (.string path) ∧ X.cell? ⟨w.heap.size, 2, none⟩ = some (.string dst)) := Lib.hid fun X h => ⟨(h.cell (p := ⟨w.heap.size, 0, none⟩) (by show w.heap.size < _; omega) (by simp; omega)).trans e0, (h.cell (p := ⟨w.heap.size, 1, none⟩) (by show w.heap.size < _; omega) (by simp; omega)).trans e1, (h.cell (p := ⟨w.heap.size, 2, none⟩) (by show w.heap.size < _; omega) (by simp; omega)).trans e2⟩
  clear hbx hBx
  go_upto_region 15 with (fail)
  clear e3 e4 e5
  have HCl : Hid (∀ X, Below V.heap.size V X → Calls Tryz.prog 79 #[.pointer (some ⟨sd, 0, none⟩), .string path, .bool false] X fun e w' => e = .returned (.tuple #[.int .i64 nid, .int .i64 x]) ∧ DocS w' base sd fa ⟨T', S.fs⟩ ∧ TurnD [sd] V w') := Lib.hid fun X h => by
    refine (doc_drop path false X hp (HD.out.below h) HI.out).mono ?_
    rw [HR.out]
    rintro e w' ⟨h1, h2, h3⟩
    exact ⟨h1, HTr.out w' _ ((Turn.of_below h).trans h3) h2⟩
  go_region_held3 (fun w' => w'.cell? ⟨w.heap.size, 0, none⟩ = some (.int .i64 6) ∧ w'.cell? ⟨w.heap.size, 1, none⟩ = some (.string path) ∧ w'.cell? ⟨w.heap.size, 2, none⟩ = some (.string dst)) (first | go_keep | exact ⟨e0, e1, e2⟩ | exact HKt.out _ HTn.out) (first | (go_at_call 79; refine (HCl.out _ (by first | exact Below.refl _ _ | exact below_drewN' (Below.refl _ _) 1)).mono ?_; rintro e w' ⟨rfl, hDS, hTn⟩; have HDS := Lib.hid hDS; have HTn := Lib.hid hTn.t; have HTd := Lib.hid hTn; clear hDS hTn))
  all_goals
    obtain ⟨k0, k1, k2⟩ := HKt.out _ HTn.out
    by_cases hx : x = 0
    · subst hx
      have HDr := Lib.hid (doc_dropf nid w' HDS.out hl)
      clear HCl
      go_wp2_with fail
      with_reducible refine Calls.mono HDr.out ?_
      rintro e w2 ⟨rfl, fa', hD2, hT2, hfr⟩
      have HD2 := Lib.hid hD2
      have HT2 := Lib.hid ((HTd.out).trans hT2)
      have HFr := Lib.hid hfr
      have hsw := HTn.out.size
      clear hD2 hT2 hfr HDr
      go_wp2
      go_ret
      have e : R = (⟨T', dropF S.fs nid⟩, 0) := by have e := HN.out; simpa using e
      subst e
      exact ⟨rfl, fa', HD2.out, (TurnD.of_below HBx.out).trans HT2.out, .inr fun g hg => by have := HFr.out g hg; omega⟩
    · have hxb : (x == 0) = false := by simpa using hx
      have HX := Lib.hid hx
      clear hx
      go_wp2
      go_ret
      have e : R = (⟨T', S.fs⟩, x) := by have e := HN.out; simpa [HX.out] using e
      subst e
      exact ⟨rfl, fa, HDS.out, (TurnD.of_below HBx.out).trans HTd.out, .inl rfl⟩
set_option maxRecDepth 100000 in
set_option maxHeartbeats 8000000 in
theorem names_rmdir (path dst : ByteArray) (off size : Int) (data : List UInt8) (a : Option Addr) (c : Nat) (w : World) {base sd : Nat} {fa : Option Addr} {S : FS} (hp : path.size ≤ 100000) (hq : dst.size ≤ 100000) (hS : DocS w base sd fa S) (hI : TInv S.t) (hnx : S.t.nx ≤ 1000000000000) (hl : S.fs.length ≤ 1000000) :
    Calls Tryz.prog 48 #[.pointer (some ⟨sd, 0, none⟩), evV ⟨7, path, dst, off, size, data⟩ a c] w (NamesAns w base sd fa (namesS S ⟨7, path, dst, off, size, data⟩)) := by
  obtain ⟨T', nid, x, hR⟩ : ∃ T' nid x, dropS S.t path true = (T', nid, x) := ⟨_, _, _, rfl⟩
  have hN : namesS S ⟨7, path, dst, off, size, data⟩ = (⟨T', if x = 0 then dropF S.fs nid else S.fs⟩, x) := by
    unfold namesS; dsimp only
    rw [if_neg (by decide), if_neg (by decide), if_neg (by decide), if_pos (by decide), show decide ((7 : Int) = 7) = true from rfl, hR]
  generalize namesS S ⟨7, path, dst, off, size, data⟩ = R at *
  have HN := Lib.hid hN
  clear hN
  have HR := Lib.hid hR
  clear hR
  dsimp only [evV]
  generalize data.length = n at *
  have hbx := heap_alloc_new w (.cells #[.int .i64 7, .string path, .string dst, .int .i64 off, .int .i64 size, .slice a n c] 31)
  have hBx : Below w.heap.size w (w.alloc (.cells #[.int .i64 7, .string path, .string dst, .int .i64 off, .int .i64 size, .slice a n c] 31)) := (Below.refl _ _).alloc (Nat.le_refl _) _
  have hsx : (w.alloc (.cells #[.int .i64 7, .string path, .string dst, .int .i64 off, .int .i64 size, .slice a n c] 31)).heap.size = w.heap.size + 1 := by simp
  have hsd := hS.lt
  have hlb := hS.lb
  obtain ⟨dx, hD, hTr⟩ := (hS.below hBx).tree
  have HTr := Lib.hid hTr
  have HD := Lib.hid hD
  have HI := Lib.hid hI
  have HS := Lib.hid hS
  clear hTr hD hI hS
  go_enter Tryz.func48, Tryz.ntmps48
  go_upto_region 1 with (fail)
  generalize w.alloc (.cells #[.int .i64 7, .string path, .string dst, .int .i64 off, .int .i64 size, .slice a n c] 31) = V at *
  obtain ⟨e0, e1, e2, e3, e4, e5⟩ := b6_cells hbx
  have HBx := Lib.hid hBx
  have HKt : Hid (∀ X, Turn [sd] V X → X.cell? ⟨w.heap.size, 0, none⟩ = some (.int .i64 7) ∧ X.cell? ⟨w.heap.size, 1, none⟩ = some (.string path) ∧ X.cell? ⟨w.heap.size, 2, none⟩ = some (.string dst)) := Lib.hid fun X h => ⟨(h.cell (p := ⟨w.heap.size, 0, none⟩) (by show w.heap.size < _; omega) (by simp; omega)).trans e0, (h.cell (p := ⟨w.heap.size, 1, none⟩) (by show w.heap.size < _; omega) (by simp; omega)).trans e1, (h.cell (p := ⟨w.heap.size, 2, none⟩) (by show w.heap.size < _; omega) (by simp; omega)).trans e2⟩
  clear hbx hBx
  go_upto_region 15 with (fail)
  clear e3 e4 e5
  have HCl : Hid (∀ X, Below V.heap.size V X → Calls Tryz.prog 79 #[.pointer (some ⟨sd, 0, none⟩), .string path, .bool true] X fun e w' => e = .returned (.tuple #[.int .i64 nid, .int .i64 x]) ∧ DocS w' base sd fa ⟨T', S.fs⟩ ∧ TurnD [sd] V w') := Lib.hid fun X h => by
    refine (doc_drop path true X hp (HD.out.below h) HI.out).mono ?_
    rw [HR.out]
    rintro e w' ⟨h1, h2, h3⟩
    exact ⟨h1, HTr.out w' _ ((Turn.of_below h).trans h3) h2⟩
  go_region_held3 (fun w' => w'.cell? ⟨w.heap.size, 0, none⟩ = some (.int .i64 7) ∧ w'.cell? ⟨w.heap.size, 1, none⟩ = some (.string path) ∧ w'.cell? ⟨w.heap.size, 2, none⟩ = some (.string dst)) (first | go_keep | exact ⟨e0, e1, e2⟩ | exact HKt.out _ HTn.out) (first | (go_at_call 79; refine (HCl.out _ (by first | exact Below.refl _ _ | exact below_drewN' (Below.refl _ _) 1)).mono ?_; rintro e w' ⟨rfl, hDS, hTn⟩; have HDS := Lib.hid hDS; have HTn := Lib.hid hTn.t; have HTd := Lib.hid hTn; clear hDS hTn))
  all_goals
    obtain ⟨k0, k1, k2⟩ := HKt.out _ HTn.out
    by_cases hx : x = 0
    · subst hx
      have HDr := Lib.hid (doc_dropf nid w' HDS.out hl)
      clear HCl
      go_wp2_with fail
      with_reducible refine Calls.mono HDr.out ?_
      rintro e w2 ⟨rfl, fa', hD2, hT2, hfr⟩
      have HD2 := Lib.hid hD2
      have HT2 := Lib.hid ((HTd.out).trans hT2)
      have HFr := Lib.hid hfr
      have hsw := HTn.out.size
      clear hD2 hT2 hfr HDr
      go_wp2
      go_ret
      have e : R = (⟨T', dropF S.fs nid⟩, 0) := by have e := HN.out; simpa using e
      subst e
      exact ⟨rfl, fa', HD2.out, (TurnD.of_below HBx.out).trans HT2.out, .inr fun g hg => by have := HFr.out g hg; omega⟩
    · have hxb : (x == 0) = false := by simpa using hx
      have HX := Lib.hid hx
      clear hx
      go_wp2
      go_ret
      have e : R = (⟨T', S.fs⟩, x) := by have e := HN.out; simpa [HX.out] using e
      subst e
      exact ⟨rfl, fa, HDS.out, (TurnD.of_below HBx.out).trans HTd.out, .inl rfl⟩
set_option maxRecDepth 100000 in
set_option maxHeartbeats 8000000 in
theorem names_mark (path dst : ByteArray) (off size : Int) (data : List UInt8) (a : Option Addr) (c : Nat) (w : World) {base sd : Nat} {fa : Option Addr} {S : FS} (hp : path.size ≤ 100000) (hq : dst.size ≤ 100000) (hS : DocS w base sd fa S) (hI : TInv S.t) (hnx : S.t.nx ≤ 1000000000000) (hl : S.fs.length ≤ 1000000) :
    Calls Tryz.prog 48 #[.pointer (some ⟨sd, 0, none⟩), evV ⟨8, path, dst, off, size, data⟩ a c] w (NamesAns w base sd fa (namesS S ⟨8, path, dst, off, size, data⟩)) := by
  cases hn : nameOk path with
  | true =>
    have hN : namesS S ⟨8, path, dst, off, size, data⟩ = (S, 0) := by unfold namesS; dsimp only; rw [if_neg (by decide), if_neg (by decide), if_neg (by decide), if_neg (by decide), hn]; rfl
    generalize namesS S ⟨8, path, dst, off, size, data⟩ = R at *
    have HN := Lib.hid hN
    clear hN
    have HNm := Lib.hid (fun W => rname_any path (by unfold maxLen; omega) W)
    rw [hn] at HNm
    dsimp only [evV]
    generalize data.length = n at *
    have hbx := heap_alloc_new w (.cells #[.int .i64 8, .string path, .string dst, .int .i64 off, .int .i64 size, .slice a n c] 31)
    have hBx : Below w.heap.size w (w.alloc (.cells #[.int .i64 8, .string path, .string dst, .int .i64 off, .int .i64 size, .slice a n c] 31)) := (Below.refl _ _).alloc (Nat.le_refl _) _
    have hsx : (w.alloc (.cells #[.int .i64 8, .string path, .string dst, .int .i64 off, .int .i64 size, .slice a n c] 31)).heap.size = w.heap.size + 1 := by simp
    have hsd := hS.lt
    have hlb := hS.lb
    obtain ⟨dx, hD, hTr⟩ := (hS.below hBx).tree
    have HTr := Lib.hid hTr
    have HD := Lib.hid hD
    have HI := Lib.hid hI
    have HS := Lib.hid hS
    clear hTr hD hI hS
    go_enter Tryz.func48, Tryz.ntmps48
    go_upto_region 1 with (fail)
    generalize w.alloc (.cells #[.int .i64 8, .string path, .string dst, .int .i64 off, .int .i64 size, .slice a n c] 31) = V at *
    obtain ⟨e0, e1, e2, e3, e4, e5⟩ := b6_cells hbx
    have HBx := Lib.hid hBx
    clear hbx hBx
    clear HTr HD HI hn
    go_wp2_with fail
    with_reducible refine Calls.mono (HNm.out _) ?_
    rintro e w' ⟨rfl, rfl⟩
    go_wp2
    go_ret
    have e := HN.out
    subst e
    exact ⟨rfl, fa, HS.out.below HBx.out, .of_below HBx.out, .inl rfl⟩
  | false =>
    have hN : namesS S ⟨8, path, dst, off, size, data⟩ = (S, 11) := by unfold namesS; dsimp only; rw [if_neg (by decide), if_neg (by decide), if_neg (by decide), if_neg (by decide), hn]; rfl
    generalize namesS S ⟨8, path, dst, off, size, data⟩ = R at *
    have HN := Lib.hid hN
    clear hN
    have HNm := Lib.hid (fun W => rname_any path (by unfold maxLen; omega) W)
    rw [hn] at HNm
    dsimp only [evV]
    generalize data.length = n at *
    have hbx := heap_alloc_new w (.cells #[.int .i64 8, .string path, .string dst, .int .i64 off, .int .i64 size, .slice a n c] 31)
    have hBx : Below w.heap.size w (w.alloc (.cells #[.int .i64 8, .string path, .string dst, .int .i64 off, .int .i64 size, .slice a n c] 31)) := (Below.refl _ _).alloc (Nat.le_refl _) _
    have hsx : (w.alloc (.cells #[.int .i64 8, .string path, .string dst, .int .i64 off, .int .i64 size, .slice a n c] 31)).heap.size = w.heap.size + 1 := by simp
    have hsd := hS.lt
    have hlb := hS.lb
    obtain ⟨dx, hD, hTr⟩ := (hS.below hBx).tree
    have HTr := Lib.hid hTr
    have HD := Lib.hid hD
    have HI := Lib.hid hI
    have HS := Lib.hid hS
    clear hTr hD hI hS
    go_enter Tryz.func48, Tryz.ntmps48
    go_upto_region 1 with (fail)
    generalize w.alloc (.cells #[.int .i64 8, .string path, .string dst, .int .i64 off, .int .i64 size, .slice a n c] 31) = V at *
    obtain ⟨e0, e1, e2, e3, e4, e5⟩ := b6_cells hbx
    have HBx := Lib.hid hBx
    clear hbx hBx
    clear HTr HD HI hn
    go_wp2_with fail
    with_reducible refine Calls.mono (HNm.out _) ?_
    rintro e w' ⟨rfl, rfl⟩
    go_wp2
    go_ret
    have e := HN.out
    subst e
    exact ⟨rfl, fa, HS.out.below HBx.out, .of_below HBx.out, .inl rfl⟩
/-- names, whatever the event is that may be. -/
theorem doc_names (e0 : Ev) (a : Option Addr) (c : Nat) (w : World) {base sd : Nat} {fa : Option Addr} {S : FS} (hop : e0.op = 1 ∨ e0.op = 2 ∨ e0.op = 5 ∨ e0.op = 6 ∨ e0.op = 7 ∨ e0.op = 8) (hp : e0.path.size ≤ 100000) (hq : e0.to.size ≤ 100000) (hS : DocS w base sd fa S) (hI : TInv S.t) (hnx : S.t.nx ≤ 1000000000000) (hl : S.fs.length ≤ 1000000) :
    Calls Tryz.prog 48 #[.pointer (some ⟨sd, 0, none⟩), evV e0 a c] w (NamesAns w base sd fa (namesS S e0)) := by
  obtain ⟨op, path, dst, off, size, data⟩ := e0
  dsimp only at hop hp hq
  rcases hop with rfl | rfl | rfl | rfl | rfl | rfl
  · exact names_create path dst off size data a c w hp hq hS hI hnx hl
  · exact names_mkdir path dst off size data a c w hp hq hS hI hnx hl
  · exact names_rename path dst off size data a c w hp hq hS hI hnx hl
  · exact names_unlink path dst off size data a c w hp hq hS hI hnx hl
  · exact names_rmdir path dst off size data a c w hp hq hS hI hnx hl
  · exact names_mark path dst off size data a c w hp hq hS hI hnx hl
end Go.Proofs.YtiegadfhgccliaaGreatDoor
namespace Go.Proofs.YtiegadfhgccliaaGreatDoor
open Go.RowKit Go.Lib

set_option maxRecDepth 100000 in
set_option maxHeartbeats 4000000 in
theorem fits_any (p : Bp) (w : World) :
    Calls Tryz.prog 86 #[.agg #[.int .i64 p.off, .int .i64 p.ln, .int .i64 p.ch, .int .i64 p.at_]] w fun e w' => e = .returned (.bool (fitsP p)) ∧ Below w.heap.size w w' := by
  obtain ⟨off, ln, ch, at0⟩ := p
  dsimp only
  obtain ⟨r, hr⟩ : ∃ r, fitsP ⟨off, ln, ch, at0⟩ = r := ⟨_, rfl⟩
  have hr2 := hr
  unfold fitsP at hr2
  dsimp only at hr2
  rw [hr]
  have HW : Hid (Below w.heap.size w (w.alloc (.cells #[.int .i64 off, .int .i64 ln, .int .i64 ch, .int .i64 at0] 40))) := Lib.hid ((Below.refl _ _).alloc (Nat.le_refl _) _)
  by_cases c0 : 1 ≤ ln
  rotate_left
  · have h0 : r = false := by rw [← hr2]; simp; omega
    have d0 : ln < 1 := by omega
    subst h0
    clear hr hr2
    go_enter Tryz.func86, Tryz.ntmps86
    go_wp2
    go_ret
    exact ⟨rfl, HW.out⟩
  by_cases c1 : ln ≤ 64
  rotate_left
  · have h0 : r = false := by rw [← hr2]; simp; omega
    have d1 : ln > 64 := by omega
    subst h0
    clear hr hr2
    go_enter Tryz.func86, Tryz.ntmps86
    go_wp2
    go_ret
    exact ⟨rfl, HW.out⟩
  by_cases c2 : 1 ≤ ch
  rotate_left
  · have h0 : r = false := by rw [← hr2]; simp; omega
    have d2 : ch < 1 := by omega
    subst h0
    clear hr hr2
    go_enter Tryz.func86, Tryz.ntmps86
    go_wp2
    go_ret
    exact ⟨rfl, HW.out⟩
  by_cases c3 : ch ≤ 4611686018427387904
  rotate_left
  · have h0 : r = false := by rw [← hr2]; simp; omega
    have d3 : ch > 4611686018427387904 := by omega
    subst h0
    clear hr hr2
    go_enter Tryz.func86, Tryz.ntmps86
    go_wp2
    go_ret
    exact ⟨rfl, HW.out⟩
  by_cases c4 : 0 ≤ at0
  rotate_left
  · have h0 : r = false := by rw [← hr2]; simp; omega
    have d4 : at0 < 0 := by omega
    subst h0
    clear hr hr2
    go_enter Tryz.func86, Tryz.ntmps86
    go_wp2
    go_ret
    exact ⟨rfl, HW.out⟩
  by_cases c5 : at0 ≤ 64 - ln
  rotate_left
  · have h0 : r = false := by rw [← hr2]; simp; omega
    have d5 : at0 > 64 - ln := by omega
    subst h0
    clear hr hr2
    go_enter Tryz.func86, Tryz.ntmps86
    go_wp2
    go_ret
    exact ⟨rfl, HW.out⟩
  have h0 : r = true := by rw [← hr2]; simp; omega
  subst h0
  clear hr hr2
  go_enter Tryz.func86, Tryz.ntmps86
  go_wp2
  go_ret
  exact ⟨rfl, HW.out⟩
set_option maxRecDepth 100000 in
set_option maxHeartbeats 4000000 in
theorem end_any (p : Bp) (w : World) (h1 : -1000000000000000 ≤ p.off + p.ln) (h2 : p.off + p.ln ≤ 1000000000000000) :
    Calls Tryz.prog 87 #[.agg #[.int .i64 p.off, .int .i64 p.ln, .int .i64 p.ch, .int .i64 p.at_]] w fun e w' => e = .returned (.int .i64 (p.off + p.ln)) ∧ Below w.heap.size w w' := by
  obtain ⟨off, ln, ch, at0⟩ := p
  dsimp only at h1 h2 ⊢
  have HW : Hid (Below w.heap.size w (w.alloc (.cells #[.int .i64 off, .int .i64 ln, .int .i64 ch, .int .i64 at0] 40))) := Lib.hid ((Below.refl _ _).alloc (Nat.le_refl _) _)
  go_enter Tryz.func87, Tryz.ntmps87
  go_wp2
  go_ret
  exact ⟨rfl, HW.out⟩
end Go.Proofs.YtiegadfhgccliaaGreatDoor
