/- Walks of the document: Rename, ahead of its loop. Printed by gen_docren.py. -/
import Derived.Test.YtiegadfhgccliaaGreatDoorMDocD
namespace Go.Proofs.YtiegadfhgccliaaGreatDoor
open Go.RowKit Go.Lib
open Go.ChangeMaps (setBlock)

theorem DocP.cell1 {w : World} {td : Nat} {dx : DX} {T : TS} (h : DocP dx w td T) : w.cell? ⟨td, 1, none⟩ = some (.int .i64 T.nx) ∧ w.frozen? ⟨td, 1, none⟩ = false := by
  obtain ⟨a, c, h1, _⟩ := h.ex
  constructor
  · unfold World.cell?; rw [h1]; rfl
  · unfold World.frozen?; rw [h1]; simp
theorem DocP.cell0 {w : World} {td : Nat} {dx : DX} {T : TS} (h : DocP dx w td T) : ∃ a c, w.cell? ⟨td, 0, none⟩ = some (.slice a T.L.length c) ∧ T.L.length ≤ c := by
  obtain ⟨a, c, h1, h2, _⟩ := h.ex
  exact ⟨a, c, by unfold World.cell?; rw [h1]; rfl, h2⟩
theorem DocP.next {w : World} {td : Nat} {dx : DX} {L : List Nd} {nx : Int} (h : DocP dx w td ⟨L, nx⟩) (v : Int) : DocP dx (w.setCell ⟨td, 1, none⟩ (.int .i64 v)) td ⟨L, v⟩ := by
  obtain ⟨a, c, h1, h2, h3⟩ := h.ex
  exact DocP.mk2 (dc_set1 h1 _) h2 (h3.turnS ((Turn.refl [td] _).setCell (p := ⟨td, 1, none⟩) (.inl (by simp)) _) (by simpa using dc_nostr h1))
theorem make_eq (T : TS) (s : ByteArray) (dir : Bool) {x : Int} (h : canS T.L s = x) : makeS T s dir = if x = 0 then (⟨insN ⟨s, T.nx, dir⟩ T.L, T.nx + 1⟩, T.nx, 0) else (T, 0, x) := by unfold makeS; rw [h]
theorem can_eq {L : List Nd} {s : ByteArray} {P : List ByteArray} (hP : psplit s = some P) {x : Int} (hx : aheadS (fnd · L) P = x) : canS L s = if x = 0 then (if (fnd s L).isSome || decide (s = rootP) then 5 else if 64 ≤ L.length then 12 else 0) else x := by
  have h : parentS (fnd · L) s = x := by unfold parentS; rw [hP]; exact hx
  unfold canS
  rw [h]
set_option maxRecDepth 100000 in
set_option maxHeartbeats 8000000 in
theorem doc_make (s : ByteArray) (dir : Bool) (w : World) (hs : s.size ≤ 100000) {td : Nat} {dx : DX} {T : TS} (hT : DocP dx w td T) (hI : TInv T) (hnx : T.nx ≤ 1000000000000) :
    Calls Tryz.prog 76 #[.pointer (some ⟨td, 0, none⟩), .string s, .bool dir] w fun e w' => e = .returned (.tuple #[.int .i64 (makeS T s dir).2.1, .int .i64 (makeS T s dir).2.2]) ∧ DocP dx w' td (makeS T s dir).1 ∧ Turn [td] w w' := by
  have hs' : s.size ≤ maxLen := by unfold maxLen; omega
  have HSp := Lib.hid (ref_split s w hs')
  have HT := Lib.hid hT
  have hfew := hI.few
  have hnx0 := hI.nx1
  cases hP : psplit s with
  | none =>
    have hc : canS T.L s = 3 := by unfold canS parentS; rw [hP]; rfl
    have hm := make_eq T s dir hc
    rw [if_neg (by decide)] at hm
    rw [hm]
    have HX := Lib.hid hP
    clear hm hc hP hT hI
    go_enter Tryz.func76, Tryz.ntmps76
    go_wp2_with fail
    refine HSp.out.mono ?_
    intro e w1 hr
    obtain ⟨rfl, hB1⟩ := rsplitAns_none HX.out hr
    clear hr
    go_wp2
    go_ret2
    exact ⟨rfl, HT.out.below hB1, .of_below hB1⟩
  | some P =>
    obtain ⟨x, hx⟩ : ∃ x, aheadS (fnd · T.L) P = x := ⟨_, rfl⟩
    have hc := can_eq hP hx
    have HAh : Hid (∀ W, Below w.heap.size w W → Calls Tryz.prog 103 #[.pointer (some ⟨td, 0, none⟩), .string s] W fun e w' => e = .returned (.int .i64 x) ∧ Below W.heap.size W w') := fun W h => doc_ahead s W hs' (hT.below h) (by omega) hP hx
    have HX := Lib.hid hP
    by_cases hx0 : x = 0
    · subst hx0
      rw [if_pos rfl] at hc
      have HAt : Hid (∀ W, Below w.heap.size w W → Calls Tryz.prog 74 #[.pointer (some ⟨td, 0, none⟩), .string s] W fun e w' => e = .returned (.int .i64 (atD T.L s)) ∧ w' = W) := fun W h => doc_at s W (hT.below h) (by omega)
      cases hth : ((fnd s T.L).isSome || decide (s = rootP))
      · rw [hth, if_neg (by decide)] at hc
        rw [Bool.or_eq_false_iff, decide_eq_false_iff_not] at hth
        have hat : atD T.L s = -1 := atD_none hth.2 (by cases hf : fnd s T.L; rfl; rw [hf] at hth; cases hth.1)
        rw [hat] at HAt
        by_cases hl : 64 ≤ T.L.length
        · rw [if_pos hl] at hc
          have hm := make_eq T s dir hc
          rw [if_neg (by decide)] at hm
          rw [hm]
          have hl' : ((T.L.length : Int) ≥ 64) := by omega
          clear hm hc hP hT hI hx hth hat hl
          go_enter Tryz.func76, Tryz.ntmps76
          go_wp2_with fail
          refine HSp.out.mono ?_
          intro e w1 hr
          obtain ⟨a1, c1, rfl, hc1, hS1, hB1⟩ := rsplitAns_some HX.out hr
          clear hr hS1
          go_wp2_with fail
          refine (HAh.out _ hB1).mono ?_
          rintro e w2 ⟨rfl, hB2⟩
          have hB12 := blw hB1 hB2
          go_wp2_with fail
          refine (HAt.out _ hB12).mono ?_
          rintro e w2 ⟨rfl, rfl⟩
          obtain ⟨a, c, c0, hcl⟩ := (HT.out.below hB12).cell0
          go_wp2
          go_ret2
          exact ⟨rfl, HT.out.below hB12, .of_below hB12⟩
        · rw [if_neg hl] at hc
          have hm := make_eq T s dir hc
          rw [if_pos rfl] at hm
          rw [hm]
          have hl' : ¬ ((T.L.length : Int) ≥ 64) := by omega
          have HPu : Hid (∀ W, Below w.heap.size w W → Calls Tryz.prog 104 #[.pointer (some ⟨td, 0, none⟩), .agg #[.string s, .int .i64 T.nx, .bool dir]] W fun e w' => e = .returned (.tuple #[]) ∧ DocP dx w' td ⟨insN ⟨s, T.nx, dir⟩ T.L, T.nx⟩ ∧ Turn [td] W w') := fun W h => doc_put ⟨s, T.nx, dir⟩ W (hT.below h) (by omega)
          clear hm hc hP hT hI hx hth hat hl
          go_enter Tryz.func76, Tryz.ntmps76
          go_wp2_with fail
          refine HSp.out.mono ?_
          intro e w1 hr
          obtain ⟨a1, c1, rfl, hc1, hS1, hB1⟩ := rsplitAns_some HX.out hr
          clear hr hS1
          go_wp2_with fail
          refine (HAh.out _ hB1).mono ?_
          rintro e w2 ⟨rfl, hB2⟩
          have hB12 := blw hB1 hB2
          go_wp2_with fail
          refine (HAt.out _ hB12).mono ?_
          rintro e w2 ⟨rfl, rfl⟩
          obtain ⟨a, c, c0, hcl⟩ := (HT.out.below hB12).cell0
          obtain ⟨c1', _⟩ := (HT.out.below hB12).cell1
          have HPW := Lib.hid (HPu.out _ hB12)
          clear HPu HAh HAt
          go_wp2_with fail
          with_reducible refine Calls.mono HPW.out ?_
          rintro e w3 ⟨rfl, hD3, hT3⟩
          obtain ⟨d1, f1⟩ := hD3.cell1
          dsimp only at d1
          have HD3 := Lib.hid hD3
          have hlt3 := hD3.lt
          have HT3 := Lib.hid hT3
          clear hD3 hT3 c0 c1'
          go_wp2
          go_ret2
          exact ⟨rfl, HD3.out.next _, ((Turn.of_below hB12).trans HT3.out).setCell (p := ⟨td, 1, none⟩) (.inl (by simp)) _⟩
      · rw [hth, if_pos rfl] at hc
        have hm := make_eq T s dir hc
        rw [if_neg (by decide)] at hm
        rw [hm]
        have hat : atD T.L s ≠ -1 := by
          by_cases hr : s = rootP
          · unfold atD; rw [if_pos hr]; decide
          · cases hf : fnd s T.L with
            | none => rw [hf, decide_eq_false hr] at hth; cases hth
            | some n => obtain ⟨i, _, h2, _⟩ := atD_some hr hf; rw [h2]; omega
        have hat' : (atD T.L s == -1) = false := by rw [beq_eq_false_iff_ne]; exact hat
        generalize atD T.L s = at0 at *
        clear hm hc hP hT hI hx hth
        go_enter Tryz.func76, Tryz.ntmps76
        go_wp2_with fail
        refine HSp.out.mono ?_
        intro e w1 hr
        obtain ⟨a1, c1, rfl, hc1, hS1, hB1⟩ := rsplitAns_some HX.out hr
        clear hr hS1
        go_wp2_with fail
        refine (HAh.out _ hB1).mono ?_
        rintro e w2 ⟨rfl, hB2⟩
        have hB12 := blw hB1 hB2
        go_wp2_with fail
        refine (HAt.out _ hB12).mono ?_
        rintro e w2 ⟨rfl, rfl⟩
        go_wp2
        go_ret2
        exact ⟨rfl, HT.out.below hB12, .of_below hB12⟩
    · rw [if_neg hx0] at hc
      have hm := make_eq T s dir hc
      rw [if_neg hx0] at hm
      rw [hm]
      have hx1 : (x == 0) = false := by rw [beq_eq_false_iff_ne]; exact hx0
      clear hm hc hP hT hI hx hx0
      go_enter Tryz.func76, Tryz.ntmps76
      go_wp2_with fail
      refine HSp.out.mono ?_
      intro e w1 hr
      obtain ⟨a1, c1, rfl, hc1, hS1, hB1⟩ := rsplitAns_some HX.out hr
      clear hr hS1
      go_wp2_with fail
      refine (HAh.out _ hB1).mono ?_
      rintro e w2 ⟨rfl, hB2⟩
      have hB12 := blw hB1 hB2
      go_wp2
      go_ret2
      exact ⟨rfl, HT.out.below hB12, .of_below hB12⟩
end Go.Proofs.YtiegadfhgccliaaGreatDoor
namespace Go.Proofs.YtiegadfhgccliaaGreatDoor
open Go.RowKit Go.Lib

def badN (src dst : ByteArray) (n : Nd) : Bool := (psplit (newPath src dst n.path)).isNone
theorem canRen_eq {L : List Nd} {src dst : ByteArray} {X Y : List ByteArray} (hX : psplit src = some X) (hY : psplit dst = some Y) {i : Int} {d : Bool} {g a : Int} (hl : lookS (fnd · L) src = (i, d, g)) (ha : aheadS (fnd · L) Y = a) :
    canRenS L src dst = if g = 0 then if X.isEmpty then 8 else if punder dst src then 10 else if a = 0 then if src = dst then 0 else if Y.isEmpty || thereS L dst d then 5 else if (L.filter (movesN src)).any (badN src dst) then 3 else 0 else a else g := by
  unfold canRenS
  rw [hX, hY]
  simp only [hl, ha]
  rfl
theorem canRen_none {L : List Nd} {src dst : ByteArray} (h : psplit src = none ∨ psplit dst = none) : canRenS L src dst = 3 := by
  unfold canRenS
  rcases h with h | h
  · rw [h]
  · rw [h]; cases psplit src <;> rfl
theorem ren_no {T : TS} {src dst : ByteArray} {x : Int} (h : canRenS T.L src dst = x) (hx : x ≠ 0) : renS T src dst = (T, 0, x) := by
  unfold renS
  rw [h, if_neg hx]
theorem ren_same {T : TS} {src dst : ByteArray} (h : canRenS T.L src dst = 0) (e : src = dst) : renS T src dst = (T, -1, 0) := by
  unfold renS
  rw [if_pos h, if_pos e]
/-- What has been gathered of the first k nodes. -/
def movedK (T : TS) (src dst : ByteArray) (k : Nat) : List Nd := ((T.L.take k).filter (movesN src)).map (moveN src dst)
def keptN (src dst : ByteArray) (n : Nd) : Bool := !(movesN src n) && !(decide (n.path = dst))
def restK (T : TS) (src dst : ByteArray) (k : Nat) : List Nd := (T.L.take k).filter (keptN src dst)
theorem ren_go {T : TS} {src dst : ByteArray} (h : canRenS T.L src dst = 0) (e : src ≠ dst) : renS T src dst = (⟨(movedK T src dst T.L.length).foldl (fun R n => insN n R) (restK T src dst T.L.length), T.nx⟩, goneS T.L dst, 0) := by
  unfold renS movedK restK
  rw [if_pos h, if_neg e, List.take_length]
  rfl
theorem movedK_succ (T : TS) (src dst : ByteArray) {k : Nat} (hk : k < T.L.length) : movedK T src dst (k + 1) = movedK T src dst k ++ if movesN src (T.L.getD k default) then [moveN src dst (T.L.getD k default)] else [] := by
  unfold movedK
  rw [take_keep hk, List.map_append]
  congr 1
  split <;> rfl
theorem restK_succ (T : TS) (src dst : ByteArray) {k : Nat} (hk : k < T.L.length) : restK T src dst (k + 1) = restK T src dst k ++ if keptN src dst (T.L.getD k default) then [T.L.getD k default] else [] := by
  unfold restK
  rw [take_keep hk]
theorem movedK_len (T : TS) (src dst : ByteArray) (k : Nat) : (movedK T src dst k).length ≤ T.L.length := by
  unfold movedK
  rw [List.length_map]
  exact Nat.le_trans (List.length_filter_le _ _) (by rw [List.length_take]; omega)
theorem restK_len (T : TS) (src dst : ByteArray) (k : Nat) : (restK T src dst k).length ≤ T.L.length := by
  unfold restK
  exact Nat.le_trans (List.length_filter_le _ _) (by rw [List.length_take]; omega)
theorem insAll_len (M L : List Nd) : (M.foldl (fun R n => insN n R) L).length = L.length + M.length := by rw [(insAll_perm M L).length_eq, List.length_append]
/-- A node that moves has at least as many parts. -/
theorem moves_long {src p : ByteArray} {X Z : List ByteArray} (hX : psplit src = some X) (hZ : psplit p = some Z) {n : Nd} (hn : n.path = p) (hm : movesN src n = true) : X.length ≤ Z.length := by
  unfold movesN at hm
  rw [hn, Bool.or_eq_true, decide_eq_true_eq] at hm
  rcases hm with e | e
  · rw [e, hX] at hZ; cases hZ; exact Nat.le_refl _
  · rw [under_parts hZ hX, Bool.and_eq_true, decide_eq_true_eq] at e
    omega
theorem tail_small {P : List ByteArray} (h : PathOk P) : (joinTail [47] (raws P)).length ≤ 64 := by
  have hs := h.short
  by_cases h0 : P = []
  · rw [h0]; decide
  · rw [size_eq, pjoin_tail h0] at hs; exact hs
theorem tail_drop (P : List ByteArray) (k : Nat) : (joinTail [47] (raws (P.drop k))).length ≤ (joinTail [47] (raws P)).length := by
  have e : raws P = raws (P.take k) ++ raws (P.drop k) := by rw [raws, raws, raws, ← List.map_append, List.take_append_drop]
  rw [e, joinTail_append, List.length_append]
  omega
theorem new_small {X Y Z : List ByteArray} (hY : PathOk Y) (hZ : PathOk Z) : (joinTail [47] (raws (Y ++ Z.drop X.length))).length ≤ 128 ∧ (Y ++ Z.drop X.length).length ≤ 16 ∧ (pjoin (Y ++ Z.drop X.length)).size ≤ 128 := by
  have h1 : (joinTail [47] (raws (Y ++ Z.drop X.length))).length ≤ 128 := by
    rw [raws_append, joinTail_append, List.length_append]
    have a := tail_small hY
    have b := tail_small hZ
    have c := tail_drop Z X.length
    omega
  refine ⟨h1, ?_, ?_⟩
  · have a := hY.few
    have b := hZ.few
    rw [List.length_append, List.length_drop]
    omega
  · by_cases h0 : Y ++ Z.drop X.length = []
    · rw [h0]; decide +kernel
    · rw [size_eq, pjoin_tail h0]; exact h1
theorem newPath_eq {src dst p : ByteArray} {X Y Z : List ByteArray} (hX : psplit src = some X) (hY : psplit dst = some Y) (hZ : psplit p = some Z) : newPath src dst p = pjoin (Y ++ Z.drop X.length) := by
  unfold newPath partsN
  rw [hX, hY, hZ]
  rfl
theorem sls_news {w : World} {a : Option Addr} {L : List ByteArray} (h : SlS w a L) : ∀ j u, (L.map Value.string)[j]? = some u → ∃ b, a = some b ∧ w.cell? (b.add j) = some u := by
  intro j u hu
  rcases h with rfl | ⟨b, o, rfl, hr⟩
  · simp at hu
  · refine ⟨_, rfl, ?_⟩
    have hj : j < L.length := by simpa using (List.getElem?_eq_some_iff.1 hu).1
    have ha : (⟨b, o, none⟩ : Addr).add j = ⟨b, o + j, none⟩ := by
      unfold Addr.add
      by_cases h0 : j = 0
      · rw [if_pos h0, h0]; rfl
      · rw [if_neg h0]
    rw [ha, hr.at_ j hj, List.getElem?_map, List.getElem?_eq_getElem hj] at *
    rw [← hu]
    simp [List.getD, hj]
theorem sls_drop_news {w : World} {a : Option Addr} {L : List ByteArray} (h : SlS w a L) {p c : Nat} (hc : L.length ≤ c) : ∀ j u, ((L.drop p).map Value.string)[j]? = some u → ∃ b, (if c = p then a else a.map (·.add p)) = some b ∧ w.cell? (b.add j) = some u := by
  intro j u hu
  rcases h with rfl | ⟨b, o, rfl, hr⟩
  · simp at hu
  · by_cases e : c = p
    · subst e
      rw [List.drop_eq_nil_of_le hc] at hu
      simp at hu
    · rw [if_neg e]
      refine ⟨_, rfl, ?_⟩
      have ha : (⟨b, o, none⟩ : Addr).add p = ⟨b, o + p, none⟩ := by
        unfold Addr.add
        by_cases h0 : p = 0
        · rw [if_pos h0, h0]; rfl
        · rw [if_neg h0]
      show w.cell? (((⟨b, o, none⟩ : Addr).add p).add j) = some u
      rw [ha]
      have hj : j < (L.drop p).length := by simpa using (List.getElem?_eq_some_iff.1 hu).1
      have hr2 : SlS w (some ⟨b, o + p, none⟩) (L.drop p) := .inr ⟨b, o + p, rfl, ⟨fun k hk => by
        rw [List.length_drop] at hk
        have := hr.at_ (p + k) (by omega)
        rw [Nat.add_assoc, this]
        simp [List.getD], hr.lt⟩⟩
      obtain ⟨b', hb', hc'⟩ := sls_news hr2 j u hu
      cases hb'
      exact hc'
theorem ones_str (L : List ByteArray) : ∀ u ∈ L.map Value.string, u.oneCell' = true := by
  intro u hu
  obtain ⟨x, _, rfl⟩ := List.mem_map.1 hu
  rfl
theorem own_other {w w' : World} {base : Nat} {e : TypeId} {size : Nat} {v : Value} {n : Nat} {xs : List Value} {row : Option Nat} (h : w.ownsRow base e size v n xs) (hg : w.grownBy w' row) (hne : ∀ b, v.ownBlock = some b → row ≠ some b) : w'.ownsRow base e size v n xs := by
  refine ⟨h.1, ?_⟩
  rcases h.2 with h2 | ⟨g, cap, cur, e1, h1, hgk, h3⟩
  · exact .inl h2
  · refine .inr ⟨g, cap, cur, e1, h1, ?_, h3⟩
    have hlt : g < w.heap.size := (Array.getElem?_eq_some_iff.1 hgk).1
    rw [hg.block g hlt (fun e => hne g (by rw [e1]; rfl) e.symm)]
    exact hgk
end Go.Proofs.YtiegadfhgccliaaGreatDoor
namespace Go.Proofs.YtiegadfhgccliaaGreatDoor
open Go.RowKit Go.Lib
open Go.ChangeMaps (setBlock)

set_option maxRecDepth 100000 in
set_option maxHeartbeats 8000000 in
theorem doc_ren_bad (src dst : ByteArray) (w : World) (hs : src.size ≤ 100000) (hd : dst.size ≤ 100000) {td : Nat} {dx : DX} {T : TS} (hT : DocP dx w td T) (h : psplit src = none ∨ psplit dst = none) :
    Calls Tryz.prog 77 #[.pointer (some ⟨td, 0, none⟩), .string src, .string dst] w fun e w' => e = .returned (.tuple #[.int .i64 (renS T src dst).2.1, .int .i64 (renS T src dst).2.2]) ∧ DocP dx w' td (renS T src dst).1 ∧ Turn [td] w w' := by
  rw [ren_no (canRen_none h) (by decide)]
  have HSs := Lib.hid (ref_split src w (by unfold maxLen; omega))
  have HSd : Hid (∀ W, Below w.heap.size w W → Calls Tryz.prog 73 #[.string dst] W (RSplitAns W dst)) := fun W _ => ref_split dst W (by unfold maxLen; omega)
  have HT := Lib.hid hT
  clear hT
  cases hX : psplit src with
  | none =>
    have HX := Lib.hid hX
    cases hY : psplit dst with
    | none =>
      have HY := Lib.hid hY
      clear h hX hY
      go_enter Tryz.func77, Tryz.ntmps77
      go_wp2_with fail
      refine HSs.out.mono ?_
      intro e w1 hr
      obtain ⟨rfl, hB1'⟩ := rsplitAns_none HX.out hr
      clear hr
      have hB1 := hB1'
      go_wp2_with fail
      with_reducible refine Calls.mono (HSd.out _ hB1) ?_
      intro e w2 hr
      obtain ⟨rfl, hB2'⟩ := rsplitAns_none HY.out hr
      clear hr
      have hB2 := blw hB1 hB2'
      go_wp2
      go_ret2
      exact ⟨rfl, HT.out.below hB2, .of_below hB2⟩
    | some Y =>
      have HY := Lib.hid hY
      clear h hX hY
      go_enter Tryz.func77, Tryz.ntmps77
      go_wp2_with fail
      refine HSs.out.mono ?_
      intro e w1 hr
      obtain ⟨rfl, hB1'⟩ := rsplitAns_none HX.out hr
      clear hr
      have hB1 := hB1'
      go_wp2_with fail
      with_reducible refine Calls.mono (HSd.out _ hB1) ?_
      intro e w2 hr
      obtain ⟨a2, c2, rfl, hc2, hS2, hB2'⟩ := rsplitAns_some HY.out hr
      have HS2 := Lib.hid hS2
      clear hr hS2
      have hB2 := blw hB1 hB2'
      go_wp2
      go_ret2
      exact ⟨rfl, HT.out.below hB2, .of_below hB2⟩
  | some X =>
    have HX := Lib.hid hX
    have hY : psplit dst = none := by
      rcases h with h | h
      · rw [hX] at h; cases h
      · exact h
    have HY := Lib.hid hY
    clear h hX hY
    go_enter Tryz.func77, Tryz.ntmps77
    go_wp2_with fail
    refine HSs.out.mono ?_
    intro e w1 hr
    obtain ⟨a1, c1, rfl, hc1, hS1, hB1'⟩ := rsplitAns_some HX.out hr
    have HS1 := Lib.hid hS1
    clear hr hS1
    have hB1 := hB1'
    go_wp2_with fail
    with_reducible refine Calls.mono (HSd.out _ hB1) ?_
    intro e w2 hr
    obtain ⟨rfl, hB2'⟩ := rsplitAns_none HY.out hr
    clear hr
    have hB2 := blw hB1 hB2'
    go_wp2
    go_ret2
    exact ⟨rfl, HT.out.below hB2, .of_below hB2⟩
set_option maxRecDepth 100000 in
set_option maxHeartbeats 8000000 in
theorem doc_ren_no (src dst : ByteArray) (w : World) (hs : src.size ≤ 100000) (hd : dst.size ≤ 100000) {td : Nat} {dx : DX} {T : TS} (hT : DocP dx w td T) (hI : TInv T) {X Y : List ByteArray} (hX : psplit src = some X) (hY : psplit dst = some Y) {i : Int} {d : Bool} {g a : Int} (hl : lookS (fnd · T.L) src = (i, d, g)) (ha : aheadS (fnd · T.L) Y = a) (hno : g ≠ 0 ∨ X = [] ∨ punder dst src = true ∨ a ≠ 0 ∨ src = dst ∨ Y.isEmpty || thereS T.L dst d) :
    Calls Tryz.prog 77 #[.pointer (some ⟨td, 0, none⟩), .string src, .string dst] w fun e w' => e = .returned (.tuple #[.int .i64 (renS T src dst).2.1, .int .i64 (renS T src dst).2.2]) ∧ DocP dx w' td (renS T src dst).1 ∧ Turn [td] w w' := by
  have hcan := canRen_eq hX hY hl ha
  have HSs := Lib.hid (ref_split src w (by unfold maxLen; omega))
  have HSd : Hid (∀ W, Below w.heap.size w W → Calls Tryz.prog 73 #[.string dst] W (RSplitAns W dst)) := fun W _ => ref_split dst W (by unfold maxLen; omega)
  have HX := Lib.hid hX
  have HY := Lib.hid hY
  have hfew := hI.few
  have hX8 := (psplit_ok hX).1.few
  have hY8 := (psplit_ok hY).1.few
  have HLk : Hid (∀ W, Below w.heap.size w W → Calls Tryz.prog 46 #[.pointer (some ⟨td, 0, none⟩), .string src] W fun e w' => e = .returned (.tuple #[.int .i64 i, .bool d, .int .i64 g]) ∧ Below W.heap.size W w') := fun W h => doc_look src W (by unfold maxLen; omega) (hT.below h) (by omega) hl
  have HUn : Hid (∀ W, Below w.heap.size w W → Calls Tryz.prog 105 #[.string dst, .string src] W fun e w' => e = .returned (.bool (punder dst src)) ∧ Below W.heap.size W w') := fun W _ => ref_under dst src W (by unfold maxLen; omega) (by unfold maxLen; omega)
  have HAh : Hid (∀ W, Below w.heap.size w W → Calls Tryz.prog 103 #[.pointer (some ⟨td, 0, none⟩), .string dst] W fun e w' => e = .returned (.int .i64 a) ∧ Below W.heap.size W w') := fun W h => doc_ahead dst W (by unfold maxLen; omega) (hT.below h) (by omega) hY ha
  have HAt : Hid (∀ W, Below w.heap.size w W → Calls Tryz.prog 74 #[.pointer (some ⟨td, 0, none⟩), .string dst] W fun e w' => e = .returned (.int .i64 (atD T.L dst)) ∧ w' = W) := fun W h => doc_at dst W (hT.below h) (by omega)
  have HT := Lib.hid hT
  clear hT hl ha hI
  by_cases hg : g = 0
  · subst hg
    rw [if_pos rfl] at hcan
    cases X with
    | nil =>
      rw [if_pos (show ([] : List ByteArray).isEmpty = true from rfl)] at hcan
      rw [ren_no hcan (by decide)]
      clear hcan hno hX hY
      go_enter Tryz.func77, Tryz.ntmps77
      go_wp2_with fail
      refine HSs.out.mono ?_
      intro e w1 hr
      obtain ⟨a1, c1, rfl, hc1, hS1, hB1'⟩ := rsplitAns_some HX.out hr
      have HS1 := Lib.hid hS1
      clear hr hS1
      have hB1 := hB1'
      go_wp2_with fail
      with_reducible refine Calls.mono (HSd.out _ hB1) ?_
      intro e w2 hr
      obtain ⟨a2, c2, rfl, hc2, hS2, hB2'⟩ := rsplitAns_some HY.out hr
      have HS2 := Lib.hid hS2
      clear hr hS2
      have hB2 := blw hB1 hB2'
      go_wp2_with fail
      with_reducible refine Calls.mono (HLk.out _ hB2) ?_
      rintro e w3 ⟨rfl, hB3'⟩
      have hB3 := blw hB2 hB3'
      go_wp2
      go_ret2
      exact ⟨rfl, HT.out.below hB3, .of_below hB3⟩
    | cons x0 X0 =>
      rw [if_neg (by simp)] at hcan
      generalize hXX : x0 :: X0 = X at *
      have hXl : ((X.length : Int) == 0) = false := by rw [beq_eq_false_iff_ne, ← hXX, List.length_cons]; omega
      cases hu : punder dst src
      · rw [hu, if_neg (by decide)] at hcan
        rw [hu] at HUn
        by_cases ha0 : a = 0
        · subst ha0
          rw [if_pos rfl] at hcan
          by_cases he : src = dst
          · subst he
            rw [if_pos rfl] at hcan
            rw [ren_same hcan rfl]
            have hbq : (src.toList == src.toList) = true := by rw [beq_bytes]; simp
            clear hcan hno hX hY hu HAt hXX
            go_enter Tryz.func77, Tryz.ntmps77
            go_wp2_with fail
            refine HSs.out.mono ?_
            intro e w1 hr
            obtain ⟨a1, c1, rfl, hc1, hS1, hB1'⟩ := rsplitAns_some HX.out hr
            have HS1 := Lib.hid hS1
            clear hr hS1
            have hB1 := hB1'
            go_wp2_with fail
            with_reducible refine Calls.mono (HSd.out _ hB1) ?_
            intro e w2 hr
            obtain ⟨a2, c2, rfl, hc2, hS2, hB2'⟩ := rsplitAns_some HY.out hr
            have HS2 := Lib.hid hS2
            clear hr hS2
            have hB2 := blw hB1 hB2'
            go_wp2_with fail
            with_reducible refine Calls.mono (HLk.out _ hB2) ?_
            rintro e w3 ⟨rfl, hB3'⟩
            have hB3 := blw hB2 hB3'
            go_wp2_with fail
            with_reducible refine Calls.mono (HUn.out _ hB3) ?_
            rintro e w4 ⟨rfl, hB4'⟩
            have hB4 := blw hB3 hB4'
            go_wp2_with fail
            with_reducible refine Calls.mono (HAh.out _ hB4) ?_
            rintro e w5 ⟨rfl, hB5'⟩
            have hB5 := blw hB4 hB5'
            go_wp2
            go_ret2
            exact ⟨rfl, HT.out.below hB5, .of_below hB5⟩
          · rw [if_neg he] at hcan
            have hth : (Y.isEmpty || thereS T.L dst d) = true := by
              rcases hno with h | h | h | h | h | h
              · exact absurd rfl h
              · rw [← hXX] at h; cases h
              · rw [hu] at h; cases h
              · exact absurd rfl h
              · exact absurd h he
              · exact h
            rw [hth, if_pos rfl] at hcan
            rw [ren_no hcan (by decide)]
            have hbq : (src.toList == dst.toList) = false := by rw [beq_bytes]; exact decide_eq_false he
            by_cases hYe : Y = []
            · subst hYe
              clear hcan hno hX hY hu hth he hXX
              go_enter Tryz.func77, Tryz.ntmps77
              go_wp2_with fail
              refine HSs.out.mono ?_
              intro e w1 hr
              obtain ⟨a1, c1, rfl, hc1, hS1, hB1'⟩ := rsplitAns_some HX.out hr
              have HS1 := Lib.hid hS1
              clear hr hS1
              have hB1 := hB1'
              go_wp2_with fail
              with_reducible refine Calls.mono (HSd.out _ hB1) ?_
              intro e w2 hr
              obtain ⟨a2, c2, rfl, hc2, hS2, hB2'⟩ := rsplitAns_some HY.out hr
              have HS2 := Lib.hid hS2
              clear hr hS2
              have hB2 := blw hB1 hB2'
              go_wp2_with fail
              with_reducible refine Calls.mono (HLk.out _ hB2) ?_
              rintro e w3 ⟨rfl, hB3'⟩
              have hB3 := blw hB2 hB3'
              go_wp2_with fail
              with_reducible refine Calls.mono (HUn.out _ hB3) ?_
              rintro e w4 ⟨rfl, hB4'⟩
              have hB4 := blw hB3 hB4'
              go_wp2_with fail
              with_reducible refine Calls.mono (HAh.out _ hB4) ?_
              rintro e w5 ⟨rfl, hB5'⟩
              have hB5 := blw hB4 hB5'
              go_wp2_with fail
              refine (HAt.out _ hB5).mono ?_
              rintro e w5 ⟨rfl, rfl⟩
              go_wp2
              go_ret2
              exact ⟨rfl, HT.out.below hB5, .of_below hB5⟩
            · have hYl : ((Y.length : Int) == 0) = false := by
                rw [beq_eq_false_iff_ne]
                have := List.length_pos_iff.2 hYe
                omega
              have hY1 : Y.isEmpty = false := by simpa using hYe
              rw [hY1, Bool.false_or] at hth
              have hroot : dst ≠ rootP := by
                intro e
                have := root_split hY
                rw [decide_eq_true e] at this
                rw [hY1] at this; cases this
              unfold thereS at hth
              cases hf : fnd dst T.L with
              | none => rw [hf] at hth; cases hth
              | some m =>
                rw [hf] at hth
                have hth : (m.dir || d) = true := hth
                obtain ⟨q, hq, hqa, hqd, _⟩ := atD_some hroot hf
                rw [hqa] at HAt
                have hq1 : (q : Int) < (T.L.length : Int) := by omega
                have hq0 : (0 : Int) ≤ (q : Int) := Int.natCast_nonneg _
                clear hcan hno hX hY hu he hXX hf hroot hYe
                go_enter Tryz.func77, Tryz.ntmps77
                go_wp2_with fail
                refine HSs.out.mono ?_
                intro e w1 hr
                obtain ⟨a1, c1, rfl, hc1, hS1, hB1'⟩ := rsplitAns_some HX.out hr
                have HS1 := Lib.hid hS1
                clear hr hS1
                have hB1 := hB1'
                go_wp2_with fail
                with_reducible refine Calls.mono (HSd.out _ hB1) ?_
                intro e w2 hr
                obtain ⟨a2, c2, rfl, hc2, hS2, hB2'⟩ := rsplitAns_some HY.out hr
                have HS2 := Lib.hid hS2
                clear hr hS2
                have hB2 := blw hB1 hB2'
                go_wp2_with fail
                with_reducible refine Calls.mono (HLk.out _ hB2) ?_
                rintro e w3 ⟨rfl, hB3'⟩
                have hB3 := blw hB2 hB3'
                go_wp2_with fail
                with_reducible refine Calls.mono (HUn.out _ hB3) ?_
                rintro e w4 ⟨rfl, hB4'⟩
                have hB4 := blw hB3 hB4'
                go_wp2_with fail
                with_reducible refine Calls.mono (HAh.out _ hB4) ?_
                rintro e w5 ⟨rfl, hB5'⟩
                have hB5 := blw hB4 hB5'
                go_wp2_with fail
                refine (HAt.out _ hB5).mono ?_
                rintro e w5 ⟨rfl, rfl⟩
                obtain ⟨a0, c0, t1, t2, t3⟩ := (HT.out.below hB5).ex
                have ce : w5.cell? ⟨td, 0, none⟩ = some (.slice a0 T.L.length c0) := by unfold World.cell?; rw [t1]; rfl
                obtain ⟨b, o, rfl, _, _, p2, _⟩ := t3.at_ hq
                rw [hqd] at p2
                have hqc : (q : Int) < (c0 : Int) := by omega
                clear t1 t3
                obtain ⟨mp, mi, md⟩ := m
                dsimp only at p2 hth
                clear hqa hqd
                cases md
                all_goals cases d
                all_goals first
                  | (exact absurd hth (by decide))
                  | (go_wp2
                     go_ret2
                     exact ⟨rfl, HT.out.below hB5, .of_below hB5⟩)
        · rw [if_neg ha0] at hcan
          rw [ren_no hcan ha0]
          have ha1 : (a == 0) = false := by rw [beq_eq_false_iff_ne]; exact ha0
          clear hcan hno hX hY hu HAt hXX ha0
          go_enter Tryz.func77, Tryz.ntmps77
          go_wp2_with fail
          refine HSs.out.mono ?_
          intro e w1 hr
          obtain ⟨a1, c1, rfl, hc1, hS1, hB1'⟩ := rsplitAns_some HX.out hr
          have HS1 := Lib.hid hS1
          clear hr hS1
          have hB1 := hB1'
          go_wp2_with fail
          with_reducible refine Calls.mono (HSd.out _ hB1) ?_
          intro e w2 hr
          obtain ⟨a2, c2, rfl, hc2, hS2, hB2'⟩ := rsplitAns_some HY.out hr
          have HS2 := Lib.hid hS2
          clear hr hS2
          have hB2 := blw hB1 hB2'
          go_wp2_with fail
          with_reducible refine Calls.mono (HLk.out _ hB2) ?_
          rintro e w3 ⟨rfl, hB3'⟩
          have hB3 := blw hB2 hB3'
          go_wp2_with fail
          with_reducible refine Calls.mono (HUn.out _ hB3) ?_
          rintro e w4 ⟨rfl, hB4'⟩
          have hB4 := blw hB3 hB4'
          go_wp2_with fail
          with_reducible refine Calls.mono (HAh.out _ hB4) ?_
          rintro e w5 ⟨rfl, hB5'⟩
          have hB5 := blw hB4 hB5'
          go_wp2
          go_ret2
          exact ⟨rfl, HT.out.below hB5, .of_below hB5⟩
      · rw [hu, if_pos rfl] at hcan
        rw [ren_no hcan (by decide)]
        rw [hu] at HUn
        clear hcan hno hX hY hu HAt HAh hXX
        go_enter Tryz.func77, Tryz.ntmps77
        go_wp2_with fail
        refine HSs.out.mono ?_
        intro e w1 hr
        obtain ⟨a1, c1, rfl, hc1, hS1, hB1'⟩ := rsplitAns_some HX.out hr
        have HS1 := Lib.hid hS1
        clear hr hS1
        have hB1 := hB1'
        go_wp2_with fail
        with_reducible refine Calls.mono (HSd.out _ hB1) ?_
        intro e w2 hr
        obtain ⟨a2, c2, rfl, hc2, hS2, hB2'⟩ := rsplitAns_some HY.out hr
        have HS2 := Lib.hid hS2
        clear hr hS2
        have hB2 := blw hB1 hB2'
        go_wp2_with fail
        with_reducible refine Calls.mono (HLk.out _ hB2) ?_
        rintro e w3 ⟨rfl, hB3'⟩
        have hB3 := blw hB2 hB3'
        go_wp2_with fail
        with_reducible refine Calls.mono (HUn.out _ hB3) ?_
        rintro e w4 ⟨rfl, hB4'⟩
        have hB4 := blw hB3 hB4'
        go_wp2
        go_ret2
        exact ⟨rfl, HT.out.below hB4, .of_below hB4⟩
  · rw [if_neg hg] at hcan
    rw [ren_no hcan hg]
    have hg1 : (g == 0) = false := by rw [beq_eq_false_iff_ne]; exact hg
    clear hcan hno hX hY HAt HAh HUn hg
    go_enter Tryz.func77, Tryz.ntmps77
    go_wp2_with fail
    refine HSs.out.mono ?_
    intro e w1 hr
    obtain ⟨a1, c1, rfl, hc1, hS1, hB1'⟩ := rsplitAns_some HX.out hr
    have HS1 := Lib.hid hS1
    clear hr hS1
    have hB1 := hB1'
    go_wp2_with fail
    with_reducible refine Calls.mono (HSd.out _ hB1) ?_
    intro e w2 hr
    obtain ⟨a2, c2, rfl, hc2, hS2, hB2'⟩ := rsplitAns_some HY.out hr
    have HS2 := Lib.hid hS2
    clear hr hS2
    have hB2 := blw hB1 hB2'
    go_wp2_with fail
    with_reducible refine Calls.mono (HLk.out _ hB2) ?_
    rintro e w3 ⟨rfl, hB3'⟩
    have hB3 := blw hB2 hB3'
    go_wp2
    go_ret2
    exact ⟨rfl, HT.out.below hB3, .of_below hB3⟩
end Go.Proofs.YtiegadfhgccliaaGreatDoor
