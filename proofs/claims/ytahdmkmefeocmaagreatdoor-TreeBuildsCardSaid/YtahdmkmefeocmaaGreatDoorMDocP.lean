/- Walks of the document: put. Printed by gen_put.py out of DocP.txt. -/
import Derived.Test.YtahdmkmefeocmaaGreatDoorMDocJ
import Derived.Test.YtahdmkmefeocmaaGreatDoorMNews
import Derived.Test.YtahdmkmefeocmaaGreatDoorMBase
import Derived.Deep.AppendLies
import Derived.Deep.RegionLaw
import Derived.Deep.CutRange
import Derived.Sort.Walk0
namespace Go.Proofs.YtahdmkmefeocmaaGreatDoor
open Go.RowKit Go.Lib
open Go.ChangeMaps (setBlock)

theorem bytesLess_ltB (a b : ByteArray) : Op.bytesLess a.toList b.toList = ltB a b := by unfold ltB; rw [bytesLess_eq, toList_data, toList_data]
theorem place_le (n : Nd) (L : List Nd) : placeD n L ≤ L.length := by unfold placeD; exact (List.takeWhile_sublist _).length_le
theorem place_lt {n : Nd} {L : List Nd} {k : Nat} (h : ∀ j, j < k → ltB (L.getD j default).path n.path = true) (hk : k < L.length) (h2 : ltB (L.getD k default).path n.path = false) : placeD n L = k := by
  unfold placeD
  induction L generalizing k with
  | nil => simp at hk
  | cons m L ih =>
    cases k with
    | zero => rw [List.takeWhile_cons, show ltB m.path n.path = false from h2]; rfl
    | succ k =>
      rw [List.takeWhile_cons, show ltB m.path n.path = true from h 0 (by omega), if_pos rfl, List.length_cons]
      rw [ih (k := k) (fun j hj => h (j + 1) (by omega)) (by simpa using hk) h2]
theorem place_end {n : Nd} {L : List Nd} (h : ∀ j, j < L.length → ltB (L.getD j default).path n.path = true) : placeD n L = L.length := by
  unfold placeD
  induction L with
  | nil => rfl
  | cons m L ih =>
    rw [List.takeWhile_cons, show ltB m.path n.path = true from h 0 (by simp), if_pos rfl, List.length_cons, List.length_cons]
    rw [ih fun j hj => h (j + 1) (by simpa using hj)]
theorem news_some {w : World} {ad : Addr} {news : List Value} (h : ∀ j u, news[j]? = some u → w.cell? (ad.add j) = some u) : ∀ j u, news[j]? = some u → ∃ b, some ad = some b ∧ w.cell? (b.add j) = some u := fun j u hu => ⟨ad, rfl, h j u hu⟩
theorem one3 (n : Nd) : ∀ u ∈ cells3 n, u.oneCell' = true := by
  intro u hu
  unfold cells3 at hu
  simp at hu
  rcases hu with rfl | rfl | rfl <;> rfl
theorem fzz {w w' : World} {td : Nat} {cs : Array Value} {t : TypeId} (h : w.heap[td]? = some (.cells cs t (0, 0))) (e : w'.heap[td]? = w.heap[td]?) : w'.frozen? ⟨td, 0, none⟩ = false := by
  unfold World.frozen?
  rw [e, h]; simp
theorem put_done {w W w3 : World} {td k c g3 cap3 : Nat} {T : TS} {a : Option Addr} {n : Nd} (h1 : W.heap[td]? = some (.cells #[.slice a T.L.length c, .int .i64 T.nx] 30 (0, 0))) (hpl : placeD n T.L = k) (hk : k ≤ T.L.length) (htd : td < w.heap.size) (hB : Below w.heap.size w W)
    (hO : w3.ownsRow W.heap.size 53 3 (.slice (some ⟨g3, 0, none⟩) (k + 1 + (T.L.length - k)) cap3) (k + 1 + (T.L.length - k)) (cellsN (T.L.take k) ++ cells3 n ++ cellsN (T.L.drop k))) (hB3 : Below W.heap.size W w3) :
    DocP (w3.setCell ⟨td, 0, none⟩ (.slice (some ⟨g3, 0, none⟩) (k + 1 + (T.L.length - k)) cap3)) td ⟨insN n T.L, T.nx⟩ ∧ Turn [td] w (w3.setCell ⟨td, 0, none⟩ (.slice (some ⟨g3, 0, none⟩) (k + 1 + (T.L.length - k)) cap3)) := by
  have e : cellsN (T.L.take k) ++ cells3 n ++ cellsN (T.L.drop k) = cellsN (insN n T.L) := by
    have := put_at n T.L
    rw [hpl] at this
    rw [← this, cellsN_append, cellsN_append]
    simp [cellsN]
  have hl : k + 1 + (T.L.length - k) = (insN n T.L).length := by rw [(insN_perm n T.L).length_eq, List.length_cons]; omega
  rw [e, hl] at hO
  rw [hl]
  have hbase := own_base hO
  obtain ⟨a', c', hv, hc', hS⟩ := SlN.own hO
  obtain ⟨e1, _, e2⟩ := Value.slice.inj hv
  subst e1
  subst e2
  have htW := Nat.lt_of_lt_of_le htd hB.size
  refine ⟨DocP.mk2 (heap_setCell_at ((hB3.block td htW).trans h1) 0 _) hc' (sln_set hS (fun b o e => hbase b o e) htW) (fun b o e => Nat.lt_of_lt_of_le htW (hbase b o e)), (Turn.of_below (hB.trans (hB3.mono hB.size))).setCell (p := ⟨td, 0, none⟩) (.inl (by simp)) _⟩
set_option maxRecDepth 100000 in
set_option maxHeartbeats 8000000 in
theorem doc_put (n : Nd) (w : World) {td : Nat} {T : TS} (hT : DocP w td T) (hn : T.L.length ≤ 1000) :
    Calls Tryz.prog 48 #[.pointer (some ⟨td, 0, none⟩), .agg #[.string n.path, .int .i64 n.id, .bool n.dir]] w fun e w' => e = .returned (.tuple #[]) ∧ DocP w' td ⟨insN n T.L, T.nx⟩ ∧ Turn [td] w w' := by
  have HT := Lib.hid hT
  have htd : td < w.heap.size := hT.lt
  obtain ⟨np, ni, nd⟩ := n
  obtain ⟨i0, hi, hz0, hz1, hz2⟩ := info_parts info_rnd
  dsimp only
  clear hT
  go_enter Tryz.func48, Tryz.ntmps48
  go_wp2
  go_loopw [4] (fun i wr => ∃ k : Nat, k ≤ T.L.length ∧ i = .int .i64 (k : Int) ∧ Hid (Below w.heap.size w wr) ∧ Hid (wr.heap[w.heap.size]? = some (.cells #[.string np, .int .i64 ni, .bool nd] 53 (0, 0))) ∧ Hid (∀ j, j < k → ltB (T.L.getD j default).path np = true)) (fun i _ => T.L.length - (intOf i).toNat)
  case atStart => exact ⟨0, by omega, rfl, Lib.hid ((Below.refl _ _).alloc (Nat.le_refl _) _), Lib.hid (heap_alloc_new _ _), Lib.hid fun j hj => by omega⟩
  case round =>
    obtain ⟨k, hk, rfl, HB, HN, HF⟩ := hrel
    go_upto_region 2 with (fail)
    go_cut [24] from 5 to 26 (fun bv wx => ∃ b : Bool, bv = .bool b ∧ Hid (Below w.heap.size w wx) ∧ Hid (wx.heap[w.heap.size]? = some (.cells #[.string np, .int .i64 ni, .bool nd] 53 (0, 0))) ∧ Hid (b = true → k < T.L.length ∧ ltB (T.L.getD k default).path np = true) ∧ Hid (b = false → placeD ⟨np, ni, nd⟩ T.L = k))
    case first =>
      obtain ⟨a, c, t1, t2, t3⟩ := (HT.out.below HB.out).ex
      have c0 : wr.cell? ⟨td, 0, none⟩ = some (.slice a T.L.length c) := by unfold World.cell?; rw [t1]; rfl
      obtain ⟨n0, n1, n2, _⟩ := b3_cells HN.out
      by_cases hlt : k < T.L.length
      · obtain ⟨b, o, rfl, p0, p1, p2, hbl⟩ := t3.at_ hlt
        have hki : (k : Int) < (T.L.length : Int) := by omega
        have hkc : (k : Int) < (c : Int) := by omega
        generalize hnp : (T.L.getD k default).path = mp at *
        have HNp := Lib.hid hnp
        clear t1 t3 hnp
        go_quiet (fail)
        have HBW := Lib.hid (below_drewN HB.out nq)
        have HN2 : Hid ((wr.drewN nq).heap[w.heap.size]? = some (.cells #[.string np, .int .i64 ni, .bool nd] 53 (0, 0))) := HN
        go_wp2
        go_meet
        case rel =>
          refine ⟨_, rfl, HBW, HN2, Lib.hid fun hb => ⟨hlt, ?_⟩, Lib.hid fun hb => place_lt HF.out hlt ?_⟩
          · rw [← bytesLess_ltB]; exact hb
          · rw [HNp.out, ← bytesLess_ltB]; exact hb
      · obtain rfl : k = T.L.length := by omega
        have hlt' : decide ((T.L.length : Int) < (T.L.length : Int)) = false := by simp
        clear t1 t3 hlt
        go_quiet (fail)
        have HBW := Lib.hid (below_drewN HB.out nq)
        have HN2 : Hid ((wr.drewN nq).heap[w.heap.size]? = some (.cells #[.string np, .int .i64 ni, .bool nd] 53 (0, 0))) := HN
        go_wp2
        go_meet
        case rel => exact ⟨false, rfl, HBW, HN2, Lib.hid fun hb => (by cases hb), Lib.hid fun _ => place_end HF.out⟩
    case rest =>
      obtain ⟨b, rfl, HBW, HN2, HTr, HFa⟩ := hcut
      generalize wc = W at *
      cases b
      · have HPl := Lib.hid (HFa.out rfl)
        clear HTr HFa HF HN HB
        obtain ⟨a, c, t1, t2, t3⟩ := (HT.out.below HBW.out).ex
        have c0 : W.cell? ⟨td, 0, none⟩ = some (.slice a T.L.length c) := by unfold World.cell?; rw [t1]; rfl
        have HS := Lib.hid t3
        have HT1 := Lib.hid t1
        have htW := Nat.lt_of_lt_of_le htd HBW.out.size
        have hwW : w.heap.size < W.heap.size := (Array.getElem?_eq_some_iff.1 HN2.out).1
        obtain ⟨n0, n1, n2, _⟩ := b3_cells HN2.out
        have hp1 : ((k : Nat) : Int) ≤ (c : Int) := by omega
        have hp2 : ((k : Nat) : Int) ≤ (T.L.length : Int) := by omega
        have hp0 : (0 : Int) ≤ ((k : Nat) : Int) := Int.natCast_nonneg _
        have hpN : k ≤ T.L.length := by omega
        have HL1 : Hid ((cellsN (T.L.take (k))).length = (k) * 3) := Lib.hid (by rw [cellsN_len, List.length_take, Nat.min_eq_left hpN])
        have HL3 : Hid ((cellsN (T.L.drop (k))).length = (T.L.length - (k)) * 3) := Lib.hid (by rw [cellsN_len, List.length_drop])
        clear t1 t3
        go_upto_region 4 with (fail)
        go_region_law (first | (refine step_append_any (by rfl) _ _ _ (by rfl) (W.heap.size) 53 i0 _ 3 32 Tryz.underlying28 hi hz0 hz1 hz2 rfl (by omega) (.slice none 0 0) (0) ([]) (by rfl) (World.ownsRow_nil _ _ _ _) a (k) (c) (cellsN (T.L.take (k))) (by rfl) (HL1.out) (by first | exact sln_take_news HS.out _ | exact sln_take_news (HS.out.below ((Below.refl _ _).alloc (Nat.le_refl _) _)) _) (cellsN_one _) (by unfold maxLen; omega) (by omega) (by first | exact Nat.le_refl _ | omega | (simp; done) | (simp; omega)) ?_; intro v1 w1 ho1 hg1 hat1; rw [Nat.zero_add, List.nil_append] at ho1; have HO1 := Lib.hid ho1; have HG1 := Lib.hid hg1; have HB1 : Hid (Below W.heap.size W w1) := Lib.hid (grown_below (B := W.heap.size) (w := W) (by first | exact Below.refl _ _ | exact below_drewN' (Below.refl _ _) 1 | exact (Below.refl _ _).alloc (Nat.le_refl _) _ | exact (below_drewN' (Below.refl _ _) 1).alloc (Nat.le_refl _) _) (by first | exact Nat.le_refl _ | (simp; done)) (World.ownsRow_nil _ _ 53 3) hg1); clear ho1 hg1 hat1; have c1 : w1.cell? ⟨td, 0, none⟩ = some (.slice a T.L.length c) := (World.cell?_of_block (HB1.out.block td htW)).trans c0; have n01 : w1.cell? ⟨w.heap.size, 0, none⟩ = some (.string np) := (World.cell?_of_block (HB1.out.block w.heap.size hwW)).trans n0; have n11 : w1.cell? ⟨w.heap.size, 1, none⟩ = some (.int .i64 ni) := (World.cell?_of_block (HB1.out.block w.heap.size hwW)).trans n1; have n21 : w1.cell? ⟨w.heap.size, 2, none⟩ = some (.bool nd) := (World.cell?_of_block (HB1.out.block w.heap.size hwW)).trans n2; have hs1 := HB1.out.size; have ht1 := Nat.lt_of_lt_of_le htW hs1; have hw1 := Nat.lt_of_lt_of_le hwW hs1; have fz1 : w1.frozen? ⟨td, 0, none⟩ = false := fzz HT1.out (HB1.out.block td htW)) | (refine step_append_any (by rfl) _ _ _ (by rfl) (W.heap.size) 53 i0 _ 3 32 Tryz.underlying28 hi hz0 hz1 hz2 rfl (by omega) v1 (k) (cellsN (T.L.take (k))) (by rfl) (HO1.out.alloc _) (some ⟨w1.heap.size, 0, none⟩) (1) (1) (cells3 ⟨np, ni, nd⟩) (by rfl) (rfl) (by exact news_some (World.news_of_block (cs := #[.string np, .int .i64 ni, .bool nd]) (t := 53) (fr := (0, 0)) (heap_alloc_new w1 _))) (one3 _) (by unfold maxLen; omega) (by omega) (by first | exact Nat.le_refl _ | omega | (simp; done) | (simp; omega)) ?_; intro v2 w2 ho2 hg2 hat2; have HO2 := Lib.hid ho2; have HB2 : Hid (Below W.heap.size W w2) := Lib.hid (grown_below (B := W.heap.size) (w := W) (HB1.out.alloc HB1.out.size _) (by simp; omega) (HO1.out.alloc _) hg2); clear ho2 hg2 hat2; have c2 : w2.cell? ⟨td, 0, none⟩ = some (.slice a T.L.length c) := (World.cell?_of_block (HB2.out.block td htW)).trans c0; have n02 : w2.cell? ⟨w.heap.size, 0, none⟩ = some (.string np) := (World.cell?_of_block (HB2.out.block w.heap.size hwW)).trans n0; have n12 : w2.cell? ⟨w.heap.size, 1, none⟩ = some (.int .i64 ni) := (World.cell?_of_block (HB2.out.block w.heap.size hwW)).trans n1; have n22 : w2.cell? ⟨w.heap.size, 2, none⟩ = some (.bool nd) := (World.cell?_of_block (HB2.out.block w.heap.size hwW)).trans n2; have hs2 := HB2.out.size; have ht2 := Nat.lt_of_lt_of_le htW hs2; have hw2 := Nat.lt_of_lt_of_le hwW hs2; have fz2 : w2.frozen? ⟨td, 0, none⟩ = false := fzz HT1.out (HB2.out.block td htW)) | (refine step_append_any (by rfl) _ _ _ (by rfl) (W.heap.size) 53 i0 _ 3 32 Tryz.underlying28 hi hz0 hz1 hz2 rfl (by omega) v1 (k) (cellsN (T.L.take (k))) (by rfl) (HO1.out) (some ⟨W.heap.size, 0, none⟩) (1) (1) (cells3 ⟨np, ni, nd⟩) (by rfl) (rfl) (by exact news_some (World.news_of_block (cs := #[.string np, .int .i64 ni, .bool nd]) (t := 53) (fr := (0, 0)) ((HG1.out.block W.heap.size (by simp) (by simp [Value.ownBlock])).trans (heap_alloc_new W _)))) (one3 _) (by unfold maxLen; omega) (by omega) (by first | exact Nat.le_refl _ | omega | (simp; done) | (simp; omega)) ?_; intro v2 w2 ho2 hg2 hat2; have HO2 := Lib.hid ho2; have HB2 : Hid (Below W.heap.size W w2) := Lib.hid (grown_below (B := W.heap.size) (w := W) HB1.out (by omega) HO1.out hg2); clear ho2 hg2 hat2; have c2 : w2.cell? ⟨td, 0, none⟩ = some (.slice a T.L.length c) := (World.cell?_of_block (HB2.out.block td htW)).trans c0; have n02 : w2.cell? ⟨w.heap.size, 0, none⟩ = some (.string np) := (World.cell?_of_block (HB2.out.block w.heap.size hwW)).trans n0; have n12 : w2.cell? ⟨w.heap.size, 1, none⟩ = some (.int .i64 ni) := (World.cell?_of_block (HB2.out.block w.heap.size hwW)).trans n1; have n22 : w2.cell? ⟨w.heap.size, 2, none⟩ = some (.bool nd) := (World.cell?_of_block (HB2.out.block w.heap.size hwW)).trans n2; have hs2 := HB2.out.size; have ht2 := Nat.lt_of_lt_of_le htW hs2; have hw2 := Nat.lt_of_lt_of_le hwW hs2; have fz2 : w2.frozen? ⟨td, 0, none⟩ = false := fzz HT1.out (HB2.out.block td htW)) | (refine step_append_any (by rfl) _ _ _ (by rfl) (W.heap.size) 53 i0 _ 3 32 Tryz.underlying28 hi hz0 hz1 hz2 rfl (by omega) v2 (k + 1) (cellsN (T.L.take (k)) ++ cells3 ⟨np, ni, nd⟩) (by rfl) (HO2.out) _ (T.L.length - k) (c - k) (cellsN (T.L.drop (k))) (by rfl) (HL3.out) (by exact sln_drop_news (HS.out.below HB2.out) t2) (cellsN_one _) (by unfold maxLen; omega) (by omega) (by first | exact Nat.le_refl _ | omega | (simp; done) | (simp; omega)) ?_; intro v3 w3 ho3 hg3 hat3; obtain ⟨g3, cap3, rfl, hg3b, hg3l⟩ := ho3.form (by omega); have HO3 := Lib.hid ho3; have HB3 : Hid (Below W.heap.size W w3) := Lib.hid (grown_below (B := W.heap.size) (w := W) HB2.out (by omega) HO2.out hg3); clear ho3 hg3 hat3; have c3 : w3.cell? ⟨td, 0, none⟩ = some (.slice a T.L.length c) := (World.cell?_of_block (HB3.out.block td htW)).trans c0; have n03 : w3.cell? ⟨w.heap.size, 0, none⟩ = some (.string np) := (World.cell?_of_block (HB3.out.block w.heap.size hwW)).trans n0; have n13 : w3.cell? ⟨w.heap.size, 1, none⟩ = some (.int .i64 ni) := (World.cell?_of_block (HB3.out.block w.heap.size hwW)).trans n1; have n23 : w3.cell? ⟨w.heap.size, 2, none⟩ = some (.bool nd) := (World.cell?_of_block (HB3.out.block w.heap.size hwW)).trans n2; have hs3 := HB3.out.size; have ht3 := Nat.lt_of_lt_of_le htW hs3; have hw3 := Nat.lt_of_lt_of_le hwW hs3; have fz3 : w3.frozen? ⟨td, 0, none⟩ = false := fzz HT1.out (HB3.out.block td htW)))
        all_goals
          have hdone := put_done HT1.out HPl.out hpN htd HBW.out HO3.out HB3.out
          have HDone := Lib.hid hdone
          clear hdone
          go_wp2
          all_goals (first | go_end0 | refine bodyPost_ret (results_none rfl _ _ _) rfl ?_)
          all_goals exact ⟨rfl, HDone.out⟩
      · obtain ⟨hlt, hl⟩ := HTr.out rfl
        have HF2 : Hid (∀ j, j < k + 1 → ltB (T.L.getD j default).path np = true) := fun j hj => by
          by_cases e : j = k
          · subst e; exact hl
          · exact HF.out j (by omega)
        clear HTr HFa HF HN HB hl
        go_wp2
        exact ⟨⟨k + 1, by omega, by go_num, HBW, HN2, HF2⟩, by simp [intOf]; omega⟩
end Go.Proofs.YtahdmkmefeocmaaGreatDoor
