/- Walks of package tree: CanRename. -/
import Derived.Test.YtiegadfhgccliaaGreatDoorMTreeW2
namespace Go.Proofs.YtiegadfhgccliaaGreatDoor
open Go.RowKit Go.Lib
open Go.ChangeMaps (setBlock)

theorem getD_some (p : ByteArray) (i : Int) (d : Bool) : ((some (⟨p, i, d⟩ : Nd)).map ndV).getD (.agg #[.string ⟨#[]⟩, .int .i64 0, .bool false]) = .agg #[.string p, .int .i64 i, .bool d] := rfl
set_option maxRecDepth 100000 in
set_option maxHeartbeats 8000000 in
theorem tree_canren (src dst : ByteArray) (w : World) (hs : src.size ≤ 100000) (hd : dst.size ≤ 100000) {tb mb : Nat} {T : TS} (hT : TreeP w tb mb T) (hI : TInv T) (hm : MLen w) {x : Int} (hx : canRenS T.L src dst = x) :
    Calls Tryz.prog 43 #[.pointer (some ⟨tb, 0, none⟩), .string src, .string dst] w fun e w' => e = .returned (.int .i64 x) ∧ Below w.heap.size w w' := by
  have hs' : src.size ≤ maxLen := by unfold maxLen; omega
  have hd' : dst.size ≤ maxLen := by unfold maxLen; omega
  have HTW : Hid (∀ W, Below w.heap.size w W → TreeP W tb mb T) := fun W h => hT.below h
  have HMW : Hid (∀ W, Below w.heap.size w W → MLen W) := fun W h => hm.below h
  have HI := Lib.hid hI
  have HA := Lib.hid hI.rises.apart
  have HS1 := Lib.hid (path_split src w hs' hm)
  have HS2 : Hid (∀ W, Below w.heap.size w W → Calls Tryz.prog 70 #[.string dst] W (SplitAns W dst)) := fun W h => path_split dst W hd' (HMW.out W h)
  have HU : Hid (∀ W, Below w.heap.size w W → Calls Tryz.prog 71 #[.string dst, .string src] W fun e w' => e = .returned (.bool (punder dst src)) ∧ Below W.heap.size W w') := fun W h => path_under dst src W hd' hs' (HMW.out W h)
  have hrs := beq_root src
  have hrd := beq_root dst
  have hsd := beq_bytes src dst
  clear hT hm
  unfold canRenS at hx
  cases h1 : psplit src with
  | none =>
    rw [h1] at hx
    have HR := Lib.hid (show (3 : Int) = x from hx)
    have H1 := Lib.hid h1
    clear hx h1 hI hrs hrd hsd
    cases h2 : psplit dst with
    | none =>
      have H2 := Lib.hid h2
      clear h2
      go_enter Tryz.func43, Tryz.ntmps43
      go_wp2_with fail
      refine HS1.out.mono ?_
      intro e w1 hr
      obtain ⟨rfl, hB1⟩ := splitAns_none H1.out hr
      clear hr
      go_wp2_with fail
      refine (HS2.out _ hB1).mono ?_
      intro e w2 hr
      obtain ⟨rfl, hB2⟩ := splitAns_none H2.out hr
      clear hr
      go_wp2_with fail
      go_ret
      exact ⟨by rw [← HR.out]; rfl, (blw hB1 hB2)⟩
    | some Y =>
      have H2 := Lib.hid h2
      clear h2
      go_enter Tryz.func43, Tryz.ntmps43
      go_wp2_with fail
      refine HS1.out.mono ?_
      intro e w1 hr
      obtain ⟨rfl, hB1⟩ := splitAns_none H1.out hr
      clear hr
      go_wp2_with fail
      refine (HS2.out _ hB1).mono ?_
      intro e w2 hr
      obtain ⟨a2, c2, rfl, _, _, hB2⟩ := splitAns_some H2.out hr
      clear hr
      go_wp2_with fail
      go_ret
      exact ⟨by rw [← HR.out]; rfl, (blw hB1 hB2)⟩
  | some X =>
    have H1 := Lib.hid h1
    cases h2 : psplit dst with
    | none =>
      rw [h1, h2] at hx
      have HR := Lib.hid (show (3 : Int) = x from hx)
      have H2 := Lib.hid h2
      clear hx h1 h2 hI hrs hrd hsd
      go_enter Tryz.func43, Tryz.ntmps43
      go_wp2_with fail
      refine HS1.out.mono ?_
      intro e w1 hr
      obtain ⟨a1, c1, rfl, _, _, hB1⟩ := splitAns_some H1.out hr
      clear hr
      go_wp2_with fail
      refine (HS2.out _ hB1).mono ?_
      intro e w2 hr
      obtain ⟨rfl, hB2⟩ := splitAns_none H2.out hr
      clear hr
      go_wp2_with fail
      go_ret
      exact ⟨by rw [← HR.out]; rfl, (blw hB1 hB2)⟩
    | some Y =>
      have H2 := Lib.hid h2
      rw [h1, h2] at hx
      obtain ⟨i0, d0, x0, hlk⟩ : ∃ i d x1, lookS (fnd · T.L) src = (i, d, x1) := ⟨_, _, _, rfl⟩
      have HLk : Hid (∀ W, Below w.heap.size w W → Calls Tryz.prog 57 #[.pointer (some ⟨tb, 0, none⟩), .string src] W fun e w' => e = .returned (.tuple #[.int .i64 i0, .bool d0, .int .i64 x0]) ∧ Below W.heap.size W w') := fun W h => tree_look src W hs' (HTW.out W h) HA.out (HMW.out W h) hlk
      rw [hlk] at hx
      have hx := hx
      dsimp only at hx
      rw [root_split h1] at hrs
      rw [root_split h2] at hrd
      have hne : ∀ {P : List ByteArray}, P.isEmpty = false → P ≠ [] := fun h e => by rw [e] at h; cases h
      by_cases hx0 : x0 = 0
      · subst hx0
        rw [if_pos rfl] at hx
        cases he : X.isEmpty
        · rw [he] at hx hrs
          rw [if_neg (by decide)] at hx
          cases hu : punder dst src
          · rw [hu] at hx
            rw [if_neg (by decide)] at hx
            have HUf : Hid (∀ W, Below w.heap.size w W → Calls Tryz.prog 71 #[.string dst, .string src] W fun e w' => e = .returned (.bool false) ∧ Below W.heap.size W w') := fun W h => by have := HU.out W h; rw [hu] at this; exact this
            obtain ⟨y, hy⟩ : ∃ y, aheadS (fnd · T.L) Y = y := ⟨_, rfl⟩
            rw [hy] at hx
            have HPa : Hid (∀ W, Below w.heap.size w W → Calls Tryz.prog 69 #[.pointer (some ⟨tb, 0, none⟩), .string dst] W fun e w' => e = .returned (.int .i64 y) ∧ Below W.heap.size W w') := fun W h => tree_parent dst W hd' (HTW.out W h) HA.out (HMW.out W h) (by unfold parentS; rw [h2]; exact hy)
            by_cases hy0 : y = 0
            · subst hy0
              rw [if_pos rfl] at hx
              by_cases hq : src = dst
              · rw [if_pos hq] at hx
                rw [decide_eq_true hq] at hsd
                have HR := Lib.hid hx
                obtain ⟨gp, gi, gd, hg⟩ := ndV_getD (fnd dst T.L)
                have HG := Lib.hid hg
                obtain ⟨gb, hgb⟩ : ∃ b, (fnd dst T.L).isSome = b := ⟨_, rfl⟩
                have HGb := Lib.hid hgb
                clear hx h1 h2 hI hrd hlk he hu hy hq hg hgb
                go_enter Tryz.func43, Tryz.ntmps43
                go_wp2_with fail
                refine HS1.out.mono ?_
                intro e w1 hr
                obtain ⟨a1, c1, rfl, _, _, hB1⟩ := splitAns_some H1.out hr
                clear hr
                go_wp2_with fail
                refine (HS2.out _ hB1).mono ?_
                intro e w2 hr
                obtain ⟨a2, c2, rfl, _, _, hB2⟩ := splitAns_some H2.out hr
                clear hr
                go_wp2_with fail
                refine (HLk.out _ (blw hB1 hB2)).mono ?_
                rintro e w3 ⟨rfl, hB3⟩
                go_wp2_with fail
                refine (HUf.out _ (blw (blw hB1 hB2) hB3)).mono ?_
                rintro e w4 ⟨rfl, hB4⟩
                go_wp2_with fail
                refine (HPa.out _ (blw (blw (blw hB1 hB2) hB3) hB4)).mono ?_
                rintro e w5 ⟨rfl, hB5⟩
                have HB5 := Lib.hid (blw (blw (blw (blw hB1 hB2) hB3) hB4) hB5)
                have hTr := HTW.out _ HB5.out
                have hl := hTr.look HA.out dst
                rw [HG.out, HGb.out] at hl
                have hc0 := hTr.facts.1
                have htb := hTr.lt.1
                clear hTr hB1 hB2 hB3 hB4 hB5
                go_wp2_with fail
                go_ret
                exact ⟨by rw [← HR.out]; rfl, HB5.out.alloc HB5.out.size _⟩
              · rw [if_neg hq] at hx
                rw [decide_eq_false hq] at hsd
                cases hye : Y.isEmpty
                · rw [hye] at hx hrd
                  have hdm := deep_moves hI h1 (hne he) h2 (hne hye)
                  rw [← hdm] at hx
                  rw [Bool.false_or] at hx
                  have HDp : Hid (∀ W, Below w.heap.size w W → Calls Tryz.prog 72 #[.pointer (some ⟨tb, 0, none⟩), .string src, .string dst] W fun e w' => e = .returned (.bool (deepB src dst T.L)) ∧ Below W.heap.size W w') := fun W h => tree_deep src dst W hs hd (HTW.out W h) (HMW.out W h) (by have := HI.out.few; omega) (fun n hn => by have := path_size HI.out n hn; omega)
                  generalize deepB src dst T.L = dp at *
                  unfold thereS at hx
                  cases hf : fnd dst T.L with
                  | none =>
                    have HG := Lib.hid (show ((fnd dst T.L).map ndV).getD (.agg #[.string ⟨#[]⟩, .int .i64 0, .bool false]) = .agg #[.string ⟨#[]⟩, .int .i64 0, .bool false] by rw [hf]; rfl)
                    have HGb := Lib.hid (show (fnd dst T.L).isSome = false by rw [hf]; rfl)
                    rw [hf] at hx
                    cases dp
                    · have HR := Lib.hid (show (0 : Int) = x from hx)
                      clear hx h1 h2 hI hlk he hu hy hq hf hye hdm
                      go_enter Tryz.func43, Tryz.ntmps43
                      go_wp2_with fail
                      refine HS1.out.mono ?_
                      intro e w1 hr
                      obtain ⟨a1, c1, rfl, _, _, hB1⟩ := splitAns_some H1.out hr
                      clear hr
                      go_wp2_with fail
                      refine (HS2.out _ hB1).mono ?_
                      intro e w2 hr
                      obtain ⟨a2, c2, rfl, _, _, hB2⟩ := splitAns_some H2.out hr
                      clear hr
                      go_wp2_with fail
                      refine (HLk.out _ (blw hB1 hB2)).mono ?_
                      rintro e w3 ⟨rfl, hB3⟩
                      go_wp2_with fail
                      refine (HUf.out _ (blw (blw hB1 hB2) hB3)).mono ?_
                      rintro e w4 ⟨rfl, hB4⟩
                      go_wp2_with fail
                      refine (HPa.out _ (blw (blw (blw hB1 hB2) hB3) hB4)).mono ?_
                      rintro e w5 ⟨rfl, hB5⟩
                      have HB5 := Lib.hid (blw (blw (blw (blw hB1 hB2) hB3) hB4) hB5)
                      have hTr := HTW.out _ HB5.out
                      have hl := hTr.look HA.out dst
                      rw [HG.out, HGb.out] at hl
                      have hc0 := hTr.facts.1
                      have htb := hTr.lt.1
                      clear hTr hB1 hB2 hB3 hB4 hB5
                      go_wp2_with fail
                      refine (HDp.out _ (HB5.out.alloc HB5.out.size _)).mono ?_
                      rintro e w7 ⟨rfl, hB7⟩
                      go_wp2_with fail
                      go_ret
                      exact ⟨by rw [← HR.out]; rfl, blw (HB5.out.alloc HB5.out.size _) hB7⟩
                    · have HR := Lib.hid (show (3 : Int) = x from hx)
                      clear hx h1 h2 hI hlk he hu hy hq hf hye hdm
                      go_enter Tryz.func43, Tryz.ntmps43
                      go_wp2_with fail
                      refine HS1.out.mono ?_
                      intro e w1 hr
                      obtain ⟨a1, c1, rfl, _, _, hB1⟩ := splitAns_some H1.out hr
                      clear hr
                      go_wp2_with fail
                      refine (HS2.out _ hB1).mono ?_
                      intro e w2 hr
                      obtain ⟨a2, c2, rfl, _, _, hB2⟩ := splitAns_some H2.out hr
                      clear hr
                      go_wp2_with fail
                      refine (HLk.out _ (blw hB1 hB2)).mono ?_
                      rintro e w3 ⟨rfl, hB3⟩
                      go_wp2_with fail
                      refine (HUf.out _ (blw (blw hB1 hB2) hB3)).mono ?_
                      rintro e w4 ⟨rfl, hB4⟩
                      go_wp2_with fail
                      refine (HPa.out _ (blw (blw (blw hB1 hB2) hB3) hB4)).mono ?_
                      rintro e w5 ⟨rfl, hB5⟩
                      have HB5 := Lib.hid (blw (blw (blw (blw hB1 hB2) hB3) hB4) hB5)
                      have hTr := HTW.out _ HB5.out
                      have hl := hTr.look HA.out dst
                      rw [HG.out, HGb.out] at hl
                      have hc0 := hTr.facts.1
                      have htb := hTr.lt.1
                      clear hTr hB1 hB2 hB3 hB4 hB5
                      go_wp2_with fail
                      refine (HDp.out _ (HB5.out.alloc HB5.out.size _)).mono ?_
                      rintro e w7 ⟨rfl, hB7⟩
                      go_wp2_with fail
                      go_ret
                      exact ⟨by rw [← HR.out]; rfl, blw (HB5.out.alloc HB5.out.size _) hB7⟩
                  | some m =>
                    obtain ⟨gp, gi, gd⟩ := m
                    have HG := Lib.hid (show ((fnd dst T.L).map ndV).getD (.agg #[.string ⟨#[]⟩, .int .i64 0, .bool false]) = .agg #[.string gp, .int .i64 gi, .bool gd] by rw [hf]; rfl)
                    have HGb := Lib.hid (show (fnd dst T.L).isSome = true by rw [hf]; rfl)
                    rw [hf] at hx
                    cases gd
                    · cases d0
                      · cases dp
                        · have HR := Lib.hid (show (0 : Int) = x from hx)
                          clear hx h1 h2 hI hlk he hu hy hq hf hye hdm
                          go_enter Tryz.func43, Tryz.ntmps43
                          go_wp2_with fail
                          refine HS1.out.mono ?_
                          intro e w1 hr
                          obtain ⟨a1, c1, rfl, _, _, hB1⟩ := splitAns_some H1.out hr
                          clear hr
                          go_wp2_with fail
                          refine (HS2.out _ hB1).mono ?_
                          intro e w2 hr
                          obtain ⟨a2, c2, rfl, _, _, hB2⟩ := splitAns_some H2.out hr
                          clear hr
                          go_wp2_with fail
                          refine (HLk.out _ (blw hB1 hB2)).mono ?_
                          rintro e w3 ⟨rfl, hB3⟩
                          go_wp2_with fail
                          refine (HUf.out _ (blw (blw hB1 hB2) hB3)).mono ?_
                          rintro e w4 ⟨rfl, hB4⟩
                          go_wp2_with fail
                          refine (HPa.out _ (blw (blw (blw hB1 hB2) hB3) hB4)).mono ?_
                          rintro e w5 ⟨rfl, hB5⟩
                          have HB5 := Lib.hid (blw (blw (blw (blw hB1 hB2) hB3) hB4) hB5)
                          have hTr := HTW.out _ HB5.out
                          have hl := hTr.look HA.out dst
                          rw [HG.out, HGb.out] at hl
                          have hc0 := hTr.facts.1
                          have htb := hTr.lt.1
                          clear hTr hB1 hB2 hB3 hB4 hB5
                          go_wp2_with fail
                          refine (HDp.out _ (HB5.out.alloc HB5.out.size _)).mono ?_
                          rintro e w7 ⟨rfl, hB7⟩
                          go_wp2_with fail
                          go_ret
                          exact ⟨by rw [← HR.out]; rfl, blw (HB5.out.alloc HB5.out.size _) hB7⟩
                        · have HR := Lib.hid (show (3 : Int) = x from hx)
                          clear hx h1 h2 hI hlk he hu hy hq hf hye hdm
                          go_enter Tryz.func43, Tryz.ntmps43
                          go_wp2_with fail
                          refine HS1.out.mono ?_
                          intro e w1 hr
                          obtain ⟨a1, c1, rfl, _, _, hB1⟩ := splitAns_some H1.out hr
                          clear hr
                          go_wp2_with fail
                          refine (HS2.out _ hB1).mono ?_
                          intro e w2 hr
                          obtain ⟨a2, c2, rfl, _, _, hB2⟩ := splitAns_some H2.out hr
                          clear hr
                          go_wp2_with fail
                          refine (HLk.out _ (blw hB1 hB2)).mono ?_
                          rintro e w3 ⟨rfl, hB3⟩
                          go_wp2_with fail
                          refine (HUf.out _ (blw (blw hB1 hB2) hB3)).mono ?_
                          rintro e w4 ⟨rfl, hB4⟩
                          go_wp2_with fail
                          refine (HPa.out _ (blw (blw (blw hB1 hB2) hB3) hB4)).mono ?_
                          rintro e w5 ⟨rfl, hB5⟩
                          have HB5 := Lib.hid (blw (blw (blw (blw hB1 hB2) hB3) hB4) hB5)
                          have hTr := HTW.out _ HB5.out
                          have hl := hTr.look HA.out dst
                          rw [HG.out, HGb.out] at hl
                          have hc0 := hTr.facts.1
                          have htb := hTr.lt.1
                          clear hTr hB1 hB2 hB3 hB4 hB5
                          go_wp2_with fail
                          refine (HDp.out _ (HB5.out.alloc HB5.out.size _)).mono ?_
                          rintro e w7 ⟨rfl, hB7⟩
                          go_wp2_with fail
                          go_ret
                          exact ⟨by rw [← HR.out]; rfl, blw (HB5.out.alloc HB5.out.size _) hB7⟩
                      · have HR := Lib.hid (show (5 : Int) = x from hx)
                        clear hx h1 h2 hI hlk he hu hy hq hf hye hdm
                        go_enter Tryz.func43, Tryz.ntmps43
                        go_wp2_with fail
                        refine HS1.out.mono ?_
                        intro e w1 hr
                        obtain ⟨a1, c1, rfl, _, _, hB1⟩ := splitAns_some H1.out hr
                        clear hr
                        go_wp2_with fail
                        refine (HS2.out _ hB1).mono ?_
                        intro e w2 hr
                        obtain ⟨a2, c2, rfl, _, _, hB2⟩ := splitAns_some H2.out hr
                        clear hr
                        go_wp2_with fail
                        refine (HLk.out _ (blw hB1 hB2)).mono ?_
                        rintro e w3 ⟨rfl, hB3⟩
                        go_wp2_with fail
                        refine (HUf.out _ (blw (blw hB1 hB2) hB3)).mono ?_
                        rintro e w4 ⟨rfl, hB4⟩
                        go_wp2_with fail
                        refine (HPa.out _ (blw (blw (blw hB1 hB2) hB3) hB4)).mono ?_
                        rintro e w5 ⟨rfl, hB5⟩
                        have HB5 := Lib.hid (blw (blw (blw (blw hB1 hB2) hB3) hB4) hB5)
                        have hTr := HTW.out _ HB5.out
                        have hl := hTr.look HA.out dst
                        rw [HG.out, HGb.out] at hl
                        have hc0 := hTr.facts.1
                        have htb := hTr.lt.1
                        clear hTr hB1 hB2 hB3 hB4 hB5
                        go_wp2_with fail
                        go_ret
                        exact ⟨by rw [← HR.out]; rfl, HB5.out.alloc HB5.out.size _⟩
                    · have HR := Lib.hid (show (5 : Int) = x from hx)
                      clear hx h1 h2 hI hlk he hu hy hq hf hye hdm
                      go_enter Tryz.func43, Tryz.ntmps43
                      go_wp2_with fail
                      refine HS1.out.mono ?_
                      intro e w1 hr
                      obtain ⟨a1, c1, rfl, _, _, hB1⟩ := splitAns_some H1.out hr
                      clear hr
                      go_wp2_with fail
                      refine (HS2.out _ hB1).mono ?_
                      intro e w2 hr
                      obtain ⟨a2, c2, rfl, _, _, hB2⟩ := splitAns_some H2.out hr
                      clear hr
                      go_wp2_with fail
                      refine (HLk.out _ (blw hB1 hB2)).mono ?_
                      rintro e w3 ⟨rfl, hB3⟩
                      go_wp2_with fail
                      refine (HUf.out _ (blw (blw hB1 hB2) hB3)).mono ?_
                      rintro e w4 ⟨rfl, hB4⟩
                      go_wp2_with fail
                      refine (HPa.out _ (blw (blw (blw hB1 hB2) hB3) hB4)).mono ?_
                      rintro e w5 ⟨rfl, hB5⟩
                      have HB5 := Lib.hid (blw (blw (blw (blw hB1 hB2) hB3) hB4) hB5)
                      have hTr := HTW.out _ HB5.out
                      have hl := hTr.look HA.out dst
                      rw [HG.out, HGb.out] at hl
                      have hc0 := hTr.facts.1
                      have htb := hTr.lt.1
                      clear hTr hB1 hB2 hB3 hB4 hB5
                      go_wp2_with fail
                      go_ret
                      exact ⟨by rw [← HR.out]; rfl, HB5.out.alloc HB5.out.size _⟩
                · rw [hye] at hx hrd
                  have HR := Lib.hid (show (5 : Int) = x from hx)
                  obtain ⟨gp, gi, gd, hg⟩ := ndV_getD (fnd dst T.L)
                  have HG := Lib.hid hg
                  obtain ⟨gb, hgb⟩ : ∃ b, (fnd dst T.L).isSome = b := ⟨_, rfl⟩
                  have HGb := Lib.hid hgb
                  clear hx h1 h2 hI hlk he hu hy hq hg hgb hye
                  go_enter Tryz.func43, Tryz.ntmps43
                  go_wp2_with fail
                  refine HS1.out.mono ?_
                  intro e w1 hr
                  obtain ⟨a1, c1, rfl, _, _, hB1⟩ := splitAns_some H1.out hr
                  clear hr
                  go_wp2_with fail
                  refine (HS2.out _ hB1).mono ?_
                  intro e w2 hr
                  obtain ⟨a2, c2, rfl, _, _, hB2⟩ := splitAns_some H2.out hr
                  clear hr
                  go_wp2_with fail
                  refine (HLk.out _ (blw hB1 hB2)).mono ?_
                  rintro e w3 ⟨rfl, hB3⟩
                  go_wp2_with fail
                  refine (HUf.out _ (blw (blw hB1 hB2) hB3)).mono ?_
                  rintro e w4 ⟨rfl, hB4⟩
                  go_wp2_with fail
                  refine (HPa.out _ (blw (blw (blw hB1 hB2) hB3) hB4)).mono ?_
                  rintro e w5 ⟨rfl, hB5⟩
                  have HB5 := Lib.hid (blw (blw (blw (blw hB1 hB2) hB3) hB4) hB5)
                  have hTr := HTW.out _ HB5.out
                  have hl := hTr.look HA.out dst
                  rw [HG.out, HGb.out] at hl
                  have hc0 := hTr.facts.1
                  have htb := hTr.lt.1
                  clear hTr hB1 hB2 hB3 hB4 hB5
                  go_wp2_with fail
                  go_ret
                  exact ⟨by rw [← HR.out]; rfl, HB5.out.alloc HB5.out.size _⟩
            · rw [if_neg hy0] at hx
              have HR := Lib.hid hx
              have hy1 : (y == 0) = false := by rw [beq_eq_false_iff_ne]; exact hy0
              clear hx h1 h2 hI hrd hsd hlk he hu hy hy0
              go_enter Tryz.func43, Tryz.ntmps43
              go_wp2_with fail
              refine HS1.out.mono ?_
              intro e w1 hr
              obtain ⟨a1, c1, rfl, _, _, hB1⟩ := splitAns_some H1.out hr
              clear hr
              go_wp2_with fail
              refine (HS2.out _ hB1).mono ?_
              intro e w2 hr
              obtain ⟨a2, c2, rfl, _, _, hB2⟩ := splitAns_some H2.out hr
              clear hr
              go_wp2_with fail
              refine (HLk.out _ (blw hB1 hB2)).mono ?_
              rintro e w3 ⟨rfl, hB3⟩
              go_wp2_with fail
              refine (HUf.out _ (blw (blw hB1 hB2) hB3)).mono ?_
              rintro e w4 ⟨rfl, hB4⟩
              go_wp2_with fail
              refine (HPa.out _ (blw (blw (blw hB1 hB2) hB3) hB4)).mono ?_
              rintro e w5 ⟨rfl, hB5⟩
              go_wp2_with fail
              go_ret
              exact ⟨by rw [← HR.out]; rfl, (blw (blw (blw (blw hB1 hB2) hB3) hB4) hB5)⟩
          · rw [hu] at hx
            have HR := Lib.hid (show (10 : Int) = x from hx)
            have HUf : Hid (∀ W, Below w.heap.size w W → Calls Tryz.prog 71 #[.string dst, .string src] W fun e w' => e = .returned (.bool true) ∧ Below W.heap.size W w') := fun W h => by have := HU.out W h; rw [hu] at this; exact this
            clear hx h1 h2 hI hrd hsd hlk he hu
            go_enter Tryz.func43, Tryz.ntmps43
            go_wp2_with fail
            refine HS1.out.mono ?_
            intro e w1 hr
            obtain ⟨a1, c1, rfl, _, _, hB1⟩ := splitAns_some H1.out hr
            clear hr
            go_wp2_with fail
            refine (HS2.out _ hB1).mono ?_
            intro e w2 hr
            obtain ⟨a2, c2, rfl, _, _, hB2⟩ := splitAns_some H2.out hr
            clear hr
            go_wp2_with fail
            refine (HLk.out _ (blw hB1 hB2)).mono ?_
            rintro e w3 ⟨rfl, hB3⟩
            go_wp2_with fail
            refine (HUf.out _ (blw (blw hB1 hB2) hB3)).mono ?_
            rintro e w4 ⟨rfl, hB4⟩
            go_wp2_with fail
            go_ret
            exact ⟨by rw [← HR.out]; rfl, (blw (blw (blw hB1 hB2) hB3) hB4)⟩
        · rw [he] at hx hrs
          have HR := Lib.hid (show (8 : Int) = x from hx)
          clear hx h1 h2 hI hrd hsd hlk he
          go_enter Tryz.func43, Tryz.ntmps43
          go_wp2_with fail
          refine HS1.out.mono ?_
          intro e w1 hr
          obtain ⟨a1, c1, rfl, _, _, hB1⟩ := splitAns_some H1.out hr
          clear hr
          go_wp2_with fail
          refine (HS2.out _ hB1).mono ?_
          intro e w2 hr
          obtain ⟨a2, c2, rfl, _, _, hB2⟩ := splitAns_some H2.out hr
          clear hr
          go_wp2_with fail
          refine (HLk.out _ (blw hB1 hB2)).mono ?_
          rintro e w3 ⟨rfl, hB3⟩
          go_wp2_with fail
          go_ret
          exact ⟨by rw [← HR.out]; rfl, (blw (blw hB1 hB2) hB3)⟩
      · rw [if_neg hx0] at hx
        have HR := Lib.hid hx
        have hx1 : (x0 == 0) = false := by rw [beq_eq_false_iff_ne]; exact hx0
        clear hx h1 h2 hI hrs hrd hsd hlk hx0
        go_enter Tryz.func43, Tryz.ntmps43
        go_wp2_with fail
        refine HS1.out.mono ?_
        intro e w1 hr
        obtain ⟨a1, c1, rfl, _, _, hB1⟩ := splitAns_some H1.out hr
        clear hr
        go_wp2_with fail
        refine (HS2.out _ hB1).mono ?_
        intro e w2 hr
        obtain ⟨a2, c2, rfl, _, _, hB2⟩ := splitAns_some H2.out hr
        clear hr
        go_wp2_with fail
        refine (HLk.out _ (blw hB1 hB2)).mono ?_
        rintro e w3 ⟨rfl, hB3⟩
        go_wp2_with fail
        go_ret
        exact ⟨by rw [← HR.out]; rfl, (blw (blw hB1 hB2) hB3)⟩
end Go.Proofs.YtiegadfhgccliaaGreatDoor
