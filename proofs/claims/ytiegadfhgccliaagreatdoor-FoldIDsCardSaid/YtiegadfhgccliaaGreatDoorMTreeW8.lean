/- Walks of package tree: CanDrop, Drop, Len, Next. -/
import Derived.Test.YtiegadfhgccliaaGreatDoorMTreeW7
namespace Go.Proofs.YtiegadfhgccliaaGreatDoor
open Go.RowKit Go.Lib
open Go.ChangeMaps (setBlock)

theorem under_any {T : TS} (h : TInv T) {s : ByteArray} {X : List ByteArray} (hs : psplit s = some X) (hX : X ≠ []) {U : List Nd} (hU : U.Perm (T.L.filter (preB s))) : T.L.any (fun n => punder n.path s) = decide (0 < U.length) := by
  rw [Bool.eq_iff_iff, List.any_eq_true, decide_eq_true_eq, List.length_pos_iff_exists_mem]
  constructor
  · rintro ⟨n, h1, h2⟩
    exact ⟨n, hU.mem_iff.2 (List.mem_filter.2 ⟨h1, by rw [preB_under h hs hX h1]; exact h2⟩)⟩
  · rintro ⟨n, h1⟩
    obtain ⟨h2, h3⟩ := List.mem_filter.1 (hU.mem_iff.1 h1)
    exact ⟨n, h2, by rw [← preB_under h hs hX h2]; exact h3⟩
set_option maxRecDepth 100000 in
set_option maxHeartbeats 8000000 in
theorem tree_candrop (s : ByteArray) (dir : Bool) (w : World) (hs : s.size ≤ 100000) {tb mb : Nat} {T : TS} (hT : TreeP w tb mb T) (hI : TInv T) (hm : MLen w) {x : Int} (hx : canDropS T.L s dir = x) :
    Calls Tryz.prog 44 #[.pointer (some ⟨tb, 0, none⟩), .string s, .bool dir] w fun e w' => e = .returned (.int .i64 x) ∧ Below w.heap.size w w' := by
  obtain ⟨i0, d0, x0, hl⟩ : ∃ i d x, lookS (fnd · T.L) s = (i, d, x) := ⟨_, _, _, rfl⟩
  have HLk := Lib.hid (tree_look s w (by unfold maxLen; omega) hT hI.rises.apart hm hl)
  have HU : Hid (∀ W, Below w.heap.size w W → Calls Tryz.prog 61 #[.pointer (some ⟨tb, 0, none⟩), .string s] W fun e w' => ∃ (U : List Nd) (v : Value), e = .returned v ∧ U.Perm (T.L.filter (preB s)) ∧ w'.ownsRow W.heap.size 51 3 v U.length (cellsN U) ∧ Below W.heap.size W w') :=
    fun W h => tree_under s W hs (hT.below h) (by have := hI.few; omega) (fun n hn => by have := path_size hI n hn; unfold maxLen; omega)
  unfold canDropS at hx
  rw [hl] at hx
  dsimp only at hx
  by_cases h0 : x0 = 0
  · subst h0
    rw [if_pos rfl] at hx
    obtain ⟨X, hX, _⟩ := lookS_ok hl
    have hroot := beq_root s
    have hrt := root_split hX
    have HI := Lib.hid hI
    have HX := Lib.hid hX
    clear hT hI hm hl hX
    by_cases hd : d0 = dir
    · subst hd
      have hx : (if decide (s = rootP) || T.L.any (fun n => punder n.path s) then (8 : Int) else 0) = x := by cases d0 <;> exact hx
      cases hr : decide (s = rootP)
      · have hXn : X ≠ [] := by intro e; rw [hr, e] at hrt; cases hrt
        rw [hr, Bool.false_or] at hx
        rw [hr] at hroot
        have HXn := Lib.hid hXn
        have Hx := Lib.hid hx
        clear hrt hr hXn hx
        cases d0
        all_goals
          go_enter Tryz.func44, Tryz.ntmps44
          go_wp2_with fail
          refine HLk.out.mono ?_
          rintro e w1 ⟨rfl, hB1⟩
          go_wp2_with fail
          refine (HU.out _ hB1).mono ?_
          rintro e w2 ⟨U, v, rfl, hU, hO, hB2⟩
          obtain ⟨a, c, rfl, hc, hS⟩ := SlN.own hO
          have hany := under_any HI.out HX.out HXn.out hU
          have hbb := blw hB1 hB2
          have Hx2 := Lib.hid Hx.out
          clear hO hS hB1 hB2 hU
          cases U with
          | nil =>
            have HR := Lib.hid (show (0 : Int) = x by rw [← Hx.out, hany]; rfl)
            clear hany
            go_wp2
            go_ret
            exact ⟨by rw [← HR.out]; rfl, hbb⟩
          | cons u U =>
            have HR := Lib.hid (show (8 : Int) = x by rw [← Hx.out, hany]; simp)
            clear hany
            go_wp2
            go_ret
            exact ⟨by rw [← HR.out]; rfl, hbb⟩
      · rw [hr] at hroot hx
        have HR := Lib.hid (show (8 : Int) = x by rw [← hx]; rfl)
        clear hrt hr hx
        cases d0
        all_goals
          go_enter Tryz.func44, Tryz.ntmps44
          go_wp2_with fail
          refine HLk.out.mono ?_
          rintro e w1 ⟨rfl, hB1⟩
          go_wp2
          go_ret
          exact ⟨by rw [← HR.out]; rfl, hB1⟩
    · cases d0 <;> cases dir
      · exact absurd rfl hd
      · have HR := Lib.hid (show (7 : Int) = x by rw [← hx]; rfl)
        clear hrt hx hd hroot
        go_enter Tryz.func44, Tryz.ntmps44
        go_wp2_with fail
        refine HLk.out.mono ?_
        rintro e w1 ⟨rfl, hB1⟩
        go_wp2
        go_ret
        exact ⟨by rw [← HR.out]; rfl, hB1⟩
      · have HR := Lib.hid (show (6 : Int) = x by rw [← hx]; rfl)
        clear hrt hx hd hroot
        go_enter Tryz.func44, Tryz.ntmps44
        go_wp2_with fail
        refine HLk.out.mono ?_
        rintro e w1 ⟨rfl, hB1⟩
        go_wp2
        go_ret
        exact ⟨by rw [← HR.out]; rfl, hB1⟩
      · exact absurd rfl hd
  · rw [if_neg h0] at hx
    have HR := Lib.hid hx
    have h1 : (x0 == 0) = false := by rw [beq_eq_false_iff_ne]; exact h0
    clear hx h0 hl hT hI hm
    go_enter Tryz.func44, Tryz.ntmps44
    go_wp2_with fail
    refine HLk.out.mono ?_
    rintro e w1 ⟨rfl, hB1⟩
    go_wp2
    go_ret
    exact ⟨by rw [← HR.out]; rfl, hB1⟩

theorem run_field_nd (w : World) (np : ByteArray) (ni : Int) (nd : Bool) : (Instr.field 51 (.agg #[.string np, .int .i64 ni, .bool nd]) 1).run Tryz.prog w = .ok (.int .i64 ni) w := by kernel_rfl
theorem candrop_zero {T : TS} {s : ByteArray} {dir : Bool} (h : canDropS T.L s dir = 0) : ∃ n, fnd s T.L = some n ∧ (lookS (fnd · T.L) s).1 = n.id := by
  unfold canDropS at h
  obtain ⟨i0, d0, x0, hl⟩ : ∃ i d x, lookS (fnd · T.L) s = (i, d, x) := ⟨_, _, _, rfl⟩
  rw [hl] at h ⊢
  dsimp only at h
  by_cases h0 : x0 = 0
  · subst h0
    obtain ⟨X, hX, hor⟩ := lookS_ok hl
    have hrt := root_split hX
    rw [if_pos rfl] at h
    rcases hor with ⟨h1, _⟩ | ⟨_, n, h2, h3, _⟩
    · rw [h1] at hrt
      rw [hrt] at h
      split at h
      · cases h
      · split at h
        · cases h
        · simp at h
    · exact ⟨n, h2, h3⟩
  · rw [if_neg h0] at h; exact absurd h h0
set_option maxRecDepth 100000 in
set_option maxHeartbeats 4000000 in
theorem tree_drop (s : ByteArray) (dir : Bool) (w : World) (hs : s.size ≤ 100000) {tb mb : Nat} {T : TS} (hT : TreeP w tb mb T) (hI : TInv T) (hm : MLen w) :
    Calls Tryz.prog 32 #[.pointer (some ⟨tb, 0, none⟩), .string s, .bool dir] w fun e w' => e = .returned (.tuple #[.int .i64 (dropS T s dir).2.1, .int .i64 (dropS T s dir).2.2]) ∧ TreeP w' tb mb (dropS T s dir).1 ∧ Turn [tb, mb] w w' := by
  have hcan := tree_candrop s dir w hs hT hI hm rfl
  by_cases h0 : canDropS T.L s dir = 0
  · have hmk : dropS T s dir = (⟨T.L.filter fun n => !(decide (n.path = s)), T.nx⟩, (lookS (fnd · T.L) s).1, 0) := by unfold dropS; rw [if_pos h0]
    obtain ⟨n, hfn, hid⟩ := candrop_zero h0
    rw [h0] at hcan
    rw [hmk, hid]
    have HTW : Hid (∀ W, Below w.heap.size w W → TreeP W tb mb T) := fun W h => hT.below h
    have HA := Lib.hid hI.rises.apart
    obtain ⟨np, ni, nd⟩ := n
    have HFn := Lib.hid hfn
    clear hT hmk hm hI h0 hfn hid
    go_enter Tryz.func32, Tryz.ntmps32
    go_wp2_with fail
    refine hcan.mono ?_
    rintro e w1 ⟨rfl, hB1⟩
    have hT1 := HTW.out w1 hB1
    have hlk := hT1.look1 HA.out s
    rw [HFn.out] at hlk
    replace hlk : (Instr.lookup 97 (.map (some mb)) (.string s) false).run Tryz.prog w1 = .ok (.agg #[.string np, .int .i64 ni, .bool nd]) w1 := hlk
    have hfd := run_field_nd w1 np ni nd
    obtain ⟨L, hp, hTA⟩ := hT1
    have hc0 := hTA.c0
    have htb := hTA.lt
    obtain ⟨ob, hdel⟩ := run_del (P := Tryz.prog) strKey hTA.map Tryz.underlying97 Tryz.underlying9 s #[97, 9] rfl 0
    obtain ⟨p1, p2⟩ := hdel w1 rfl
    replace p1 : (Builtin.delete_ #[97, 9] 0 #[.map (some mb), .string s]).run Tryz.prog w1 = .ok (.tuple #[]) (setBlock w1 mb ob) := p1
    have hend : TreeAt (setBlock w1 mb ob) tb mb (delN s L) T.nx := by
      refine ⟨(heap_setBlock_ne _ _ _ _ hTA.ne).trans hTA.cells, ?_⟩
      rw [← mdel_ents]; exact p2
    have HEnd := Lib.hid (show TreeP (setBlock w1 mb ob) tb mb ⟨T.L.filter fun n => !(decide (n.path = s)), T.nx⟩ from ⟨delN s L, hp.filter _, hend⟩)
    have HTu := Lib.hid ((Turn.of_below (bs := [tb, mb]) hB1).setBlock (r := mb) (.inl (by simp)) ob)
    clear hTA hp hdel p2 hend
    go_wp2
    go_ret2
    exact ⟨rfl, HEnd.out, HTu.out⟩
  · have hmk : dropS T s dir = (T, 0, canDropS T.L s dir) := by unfold dropS; rw [if_neg h0]
    rw [hmk]
    have HT := Lib.hid hT
    generalize canDropS T.L s dir = x at *
    have h1 : (x == 0) = false := by rw [beq_eq_false_iff_ne]; exact h0
    clear hT hmk hm h0 hI
    go_enter Tryz.func32, Tryz.ntmps32
    go_wp2_with fail
    refine hcan.mono ?_
    rintro e w1 ⟨rfl, hB1⟩
    go_wp2
    go_ret2
    exact ⟨rfl, HT.out.below hB1, .of_below hB1⟩
set_option maxRecDepth 100000 in
theorem tree_next (w : World) {tb mb : Nat} {T : TS} (hT : TreeP w tb mb T) :
    Calls Tryz.prog 17 #[.pointer (some ⟨tb, 0, none⟩)] w fun e w' => e = .returned (.int .i64 T.nx) ∧ w' = w := by
  have hc0 := hT.facts.2.1
  clear hT
  go_enter Tryz.func17, Tryz.ntmps17
  go_wp2
  go_ret
  exact ⟨rfl, rfl⟩
end Go.Proofs.YtiegadfhgccliaaGreatDoor
