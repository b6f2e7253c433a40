/- Trees in plain Lean: what lies under a path, and where it moves. -/
import Derived.Test.YtiegadfhgccliaaGreatDoorMTreeM
namespace Go.Proofs.YtiegadfhgccliaaGreatDoor
open Go.RowKit Go.Lib
open Go.ChangeMaps (setBlock)

set_option maxRecDepth 100000 in
set_option maxHeartbeats 2000000 in
theorem tree_parent (s : ByteArray) (w : World) (hs : s.size ≤ maxLen) {tb mb : Nat} {T : TS} (hT : TreeP w tb mb T) (ha : Apart T.L) (hm : MLen w) {x : Int} (hx0 : parentS (fnd · T.L) s = x) :
    Calls Tryz.prog 69 #[.pointer (some ⟨tb, 0, none⟩), .string s] w fun e w' => e = .returned (.int .i64 x) ∧ Below w.heap.size w w' := by
  have HSp := Lib.hid (path_split s w hs hm)
  have HL : Hid (∀ W (p : ByteArray) {i0 : Int} {d0 : Bool} {x0 : Int}, Below w.heap.size w W → p.size ≤ maxLen → lookS (fnd · T.L) p = (i0, d0, x0) → Calls Tryz.prog 57 #[.pointer (some ⟨tb, 0, none⟩), .string p] W fun e w' => e = .returned (.tuple #[.int .i64 i0, .bool d0, .int .i64 x0]) ∧ Below W.heap.size W w') :=
    fun W p _ _ _ h hp hl => tree_look p W hp (hT.below h) ha (hm.below h) hl
  clear hT ha hm
  unfold parentS at hx0
  cases hx : psplit s with
  | none =>
    rw [hx] at hx0
    have HX := Lib.hid hx
    have HR := Lib.hid (show (3 : Int) = x from hx0)
    clear hx hx0
    go_enter Tryz.func69, Tryz.ntmps69
    go_wp2_with fail
    refine HSp.out.mono ?_
    intro e w1 hr
    obtain ⟨rfl, hB1⟩ := splitAns_none HX.out hr
    clear hr
    go_wp2_with fail
    go_ret
    exact ⟨by rw [← HR.out]; rfl, hB1⟩
  | some P =>
    rw [hx] at hx0
    have hx0 : aheadS (fnd · T.L) P = x := hx0
    have HX := Lib.hid hx
    have hP := (psplit_ok hx).1
    have h8 := hP.few
    have HP := Lib.hid hP
    clear hx hP
    by_cases h0 : P = []
    · subst h0
      have HR := Lib.hid (show (0 : Int) = x from hx0)
      clear hx0
      go_enter Tryz.func69, Tryz.ntmps69
      go_wp2_with fail
      refine HSp.out.mono ?_
      intro e w1 hr
      obtain ⟨a1, c1, rfl, hc1, hS1, hB1⟩ := splitAns_some HX.out hr
      clear hr
      go_wp2_with fail
      go_ret
      exact ⟨by rw [← HR.out]; rfl, hB1⟩
    · have hpos : 0 < P.length := List.length_pos_iff.2 h0
      have he : P.isEmpty = false := by cases P; exact absurd rfl h0; rfl
      obtain ⟨i, d, x1, hl⟩ : ∃ i d x1, lookS (fnd · T.L) (pjoin P.dropLast) = (i, d, x1) := ⟨_, _, _, rfl⟩
      have hr0 : (if x1 = 0 then (if d then (0 : Int) else 7) else x1) = x := by
        unfold aheadS at hx0
        rw [he, hl] at hx0
        simpa using hx0
      have HLk := Lib.hid hl
      have HR := Lib.hid hr0
      have d0 : ((P.length : Int) == 0) = false := by rw [beq_eq_false_iff_ne]; omega
      have v1 : IntKind.i64.wrap ((P.length : Int) - 1) = (P.length : Int) - 1 := IntWalk.i64_in _ (by omega)
      have v2 : ((P.length : Int) - 1).toNat = P.length - 1 := by omega
      have v3 : (0 : Int) ≤ (P.length : Int) - 1 := by omega
      have hdl : P.take (P.length - 1) = P.dropLast := List.dropLast_eq_take.symm
      have HDl := Lib.hid hdl
      clear hx0 hl hr0 h0 he hdl
      by_cases hx1 : x1 = 0
      · subst hx1
        cases d
        all_goals
          have HR2 := Lib.hid HR.out
          go_enter Tryz.func69, Tryz.ntmps69
          go_wp2_with fail
          refine HSp.out.mono ?_
          intro e w1 hr
          obtain ⟨a1, c1, rfl, hc1, hS1, hB1⟩ := splitAns_some HX.out hr
          clear hr
          have hj := join_take hS1 hc1 HP.out (k := P.length - 1) (by omega)
          rw [HDl.out] at hj
          have v4 : (P.length : Int) - 1 ≤ (c1 : Int) := by omega
          go_wp2_with fail
          refine hj.mono ?_
          rintro e w2 ⟨rfl, hB2⟩
          go_wp2_with fail
          refine (HL.out _ _ (blw hB1 hB2) (by have := HP.out.dropLast.short; unfold maxLen; omega) HLk.out).mono ?_
          rintro e w3 ⟨rfl, hB3⟩
          go_wp2_with fail
          go_ret
          exact ⟨by rw [← HR2.out]; rfl, blw (blw hB1 hB2) hB3⟩
      · have hx2 : (x1 == 0) = false := by rw [beq_eq_false_iff_ne]; exact hx1
        have HR2 := Lib.hid (show x1 = x by have := HR.out; rw [if_neg hx1] at this; exact this)
        clear hx1
        go_enter Tryz.func69, Tryz.ntmps69
        go_wp2_with fail
        refine HSp.out.mono ?_
        intro e w1 hr
        obtain ⟨a1, c1, rfl, hc1, hS1, hB1⟩ := splitAns_some HX.out hr
        clear hr
        have hj := join_take hS1 hc1 HP.out (k := P.length - 1) (by omega)
        rw [HDl.out] at hj
        have v4 : (P.length : Int) - 1 ≤ (c1 : Int) := by omega
        go_wp2_with fail
        refine hj.mono ?_
        rintro e w2 ⟨rfl, hB2⟩
        go_wp2_with fail
        refine (HL.out _ _ (blw hB1 hB2) (by have := HP.out.dropLast.short; unfold maxLen; omega) HLk.out).mono ?_
        rintro e w3 ⟨rfl, hB3⟩
        go_wp2_with fail
        go_ret
        exact ⟨by rw [← HR2.out]; rfl, blw (blw hB1 hB2) hB3⟩

theorem ndV_getD (o : Option Nd) : ∃ p i d, (o.map ndV).getD (.agg #[.string ⟨#[]⟩, .int .i64 0, .bool false]) = .agg #[.string p, .int .i64 i, .bool d] := by
  cases o with
  | none => exact ⟨_, _, _, rfl⟩
  | some n => exact ⟨_, _, _, rfl⟩
theorem beq_root (s : ByteArray) : (s.toList == [47]) = decide (s = rootP) := by
  have h := beq_bytes s rootP
  have e : rootP.toList = [47] := by rw [toList_data]; rfl
  rw [e] at h
  exact h
set_option maxRecDepth 100000 in
set_option maxHeartbeats 2000000 in
theorem tree_can (s : ByteArray) (w : World) (hs : s.size ≤ maxLen) {tb mb : Nat} {T : TS} (hT : TreeP w tb mb T) (ha : Apart T.L) (hm : MLen w) (hn : T.L.length ≤ 1000000) {x : Int} (hx0 : canS T.L s = x) :
    Calls Tryz.prog 40 #[.pointer (some ⟨tb, 0, none⟩), .string s] w fun e w' => e = .returned (.int .i64 x) ∧ Below w.heap.size w w' := by
  obtain ⟨y, hy⟩ : ∃ y, parentS (fnd · T.L) s = y := ⟨_, rfl⟩
  have hpar := tree_parent s w hs hT ha hm hy
  unfold canS at hx0
  rw [hy] at hx0
  have HTW : Hid (∀ W, Below w.heap.size w W → TreeP W tb mb T) := fun W h => hT.below h
  have HA := Lib.hid ha
  clear hT ha hm hy
  by_cases h0 : y = 0
  · subst h0
    rw [if_pos rfl] at hx0
    obtain ⟨p, i, d, hg⟩ := ndV_getD (fnd s T.L)
    have hroot := beq_root s
    cases hf : (fnd s T.L).isSome
    · rw [hf, Bool.false_or] at hx0
      cases hr : decide (s = rootP)
      · rw [hr] at hx0 hroot
        have hx0 : (if 64 ≤ T.L.length then (12 : Int) else 0) = x := by simpa using hx0
        by_cases hl : 64 ≤ T.L.length
        · have d1 : decide ((64 : Int) ≤ (T.L.length : Int)) = true := decide_eq_true (by omega)
          have HR := Lib.hid (show (12 : Int) = x by rw [← hx0, if_pos hl])
          clear hx0
          have HG := Lib.hid hg
          have HF := Lib.hid hf
          clear hg hf hr
          go_enter Tryz.func40, Tryz.ntmps40
          go_wp2_with fail
          refine hpar.mono ?_
          rintro e w1 ⟨rfl, hB1⟩
          have hT1 := HTW.out w1 hB1
          have hlk := hT1.look HA.out s
          rw [HG.out, HF.out] at hlk
          have hc0 := hT1.facts.1
          have htb := hT1.lt.1
          have hlen0 := fun ob (rt : TypeId) => TreeP.len (HTW.out (w1.alloc ob) (hB1.alloc hB1.size _)) rt
          clear hT1
          go_wp2
          go_ret
          exact ⟨by rw [← HR.out]; rfl, by first | exact (hB1.alloc hB1.size _) | exact below_drewN' (hB1.alloc hB1.size _) _⟩
        · have d1 : decide ((64 : Int) ≤ (T.L.length : Int)) = false := decide_eq_false (by omega)
          have HR := Lib.hid (show (0 : Int) = x by rw [← hx0, if_neg hl])
          clear hx0
          have HG := Lib.hid hg
          have HF := Lib.hid hf
          clear hg hf hr
          go_enter Tryz.func40, Tryz.ntmps40
          go_wp2_with fail
          refine hpar.mono ?_
          rintro e w1 ⟨rfl, hB1⟩
          have hT1 := HTW.out w1 hB1
          have hlk := hT1.look HA.out s
          rw [HG.out, HF.out] at hlk
          have hc0 := hT1.facts.1
          have htb := hT1.lt.1
          have hlen0 := fun ob (rt : TypeId) => TreeP.len (HTW.out (w1.alloc ob) (hB1.alloc hB1.size _)) rt
          clear hT1
          go_wp2
          go_ret
          exact ⟨by rw [← HR.out]; rfl, by first | exact (hB1.alloc hB1.size _) | exact below_drewN' (hB1.alloc hB1.size _) _⟩
      · rw [hr] at hx0 hroot
        have HR := Lib.hid (show (5 : Int) = x by rw [← hx0]; rfl)
        have HG := Lib.hid hg
        have HF := Lib.hid hf
        clear hg hf hr hx0
        go_enter Tryz.func40, Tryz.ntmps40
        go_wp2_with fail
        refine hpar.mono ?_
        rintro e w1 ⟨rfl, hB1⟩
        have hT1 := HTW.out w1 hB1
        have hlk := hT1.look HA.out s
        rw [HG.out, HF.out] at hlk
        have hc0 := hT1.facts.1
        clear hT1
        go_wp2
        go_ret
        exact ⟨by rw [← HR.out]; rfl, hB1.alloc hB1.size _⟩
    · rw [hf, Bool.true_or] at hx0
      have HR := Lib.hid (show (5 : Int) = x by rw [← hx0]; rfl)
      have HG := Lib.hid hg
      have HF := Lib.hid hf
      clear hg hf hx0 hroot
      go_enter Tryz.func40, Tryz.ntmps40
      go_wp2_with fail
      refine hpar.mono ?_
      rintro e w1 ⟨rfl, hB1⟩
      have hT1 := HTW.out w1 hB1
      have hlk := hT1.look HA.out s
      rw [HG.out, HF.out] at hlk
      have hc0 := hT1.facts.1
      clear hT1
      go_wp2
      go_ret
      exact ⟨by rw [← HR.out]; rfl, hB1.alloc hB1.size _⟩
  · rw [if_neg h0] at hx0
    have HR := Lib.hid hx0
    have h1 : (y == 0) = false := by rw [beq_eq_false_iff_ne]; exact h0
    clear hx0 h0
    go_enter Tryz.func40, Tryz.ntmps40
    go_wp2_with fail
    refine hpar.mono ?_
    rintro e w1 ⟨rfl, hB1⟩
    go_wp2
    go_ret
    exact ⟨by rw [← HR.out]; rfl, hB1⟩
end Go.Proofs.YtiegadfhgccliaaGreatDoor
namespace Go.Proofs.YtiegadfhgccliaaGreatDoor
open Go.RowKit Go.Lib
open Go.ChangeMaps (setBlock)

theorem mput_new {L : List Nd} {n : Nd} (h : fnd n.path L = none) : mput n.path (ndV n) (ents L) = ents (L ++ [n]) := by
  unfold mput
  have : (ents L).any (fun p => decide (p.1 = n.path)) = false := by
    rw [List.any_eq_false]
    intro p hp
    obtain ⟨m, hm, rfl⟩ := List.mem_map.1 hp
    simpa using fnd_none h m hm
  rw [this]
  simp [ents]
theorem canS_zero {L : List Nd} {s : ByteArray} (h : canS L s = 0) : fnd s L = none ∧ parentS (fnd · L) s = 0 ∧ s ≠ rootP ∧ L.length < 64 := by
  unfold canS at h
  split at h
  · rename_i h0
    split at h
    · cases h
    · rename_i h1
      split at h
      · cases h
      · rename_i h2
        simp only [Bool.or_eq_true, decide_eq_true_eq, not_or, Bool.not_eq_true, Option.isSome_eq_false_iff, Option.isNone_iff_eq_none] at h1
        exact ⟨h1.1, h0, h1.2, by omega⟩
  · rename_i h0; exact absurd h h0

set_option maxRecDepth 100000 in
set_option maxHeartbeats 2000000 in
theorem tree_make (s : ByteArray) (dir : Bool) (w : World) (hs : s.size ≤ maxLen) {tb mb : Nat} {T : TS} (hT : TreeP w tb mb T) (ha : Apart T.L) (hm : MLen w) (hn : T.L.length ≤ 1000000) (hnx : -9223372036854775808 ≤ T.nx ∧ T.nx < 9223372036854775807) :
    Calls Tryz.prog 27 #[.pointer (some ⟨tb, 0, none⟩), .string s, .bool dir] w fun e w' => e = .returned (.tuple #[.int .i64 (makeS T s dir).2.1, .int .i64 (makeS T s dir).2.2]) ∧ TreeP w' tb mb (makeS T s dir).1 ∧ Turn [tb, mb] w w' := by
  have hcan := tree_can s w hs hT ha hm hn rfl
  have hlt := hT.lt
  by_cases h0 : canS T.L s = 0
  · have hmk : makeS T s dir = (⟨insN ⟨s, T.nx, dir⟩ T.L, T.nx + 1⟩, T.nx, 0) := by unfold makeS; rw [if_pos h0]
    have hfn := (canS_zero h0).1
    rw [h0] at hcan
    rw [hmk]
    have HTW : Hid (∀ W, Below w.heap.size w W → TreeP W tb mb T) := fun W h => hT.below h
    clear hT hmk hm hn h0
    obtain ⟨hx1, hx2⟩ := hnx
    go_enter Tryz.func27, Tryz.ntmps27
    go_wp2_with fail
    refine hcan.mono ?_
    rintro e w1 ⟨rfl, hB1⟩
    obtain ⟨L, hp, hTA⟩ := HTW.out w1 hB1
    have htb := hTA.lt
    have hmb := hTA.ltm
    have hne := hTA.ne
    have hc0 := hTA.c0
    have hc1 := hTA.c1
    have hf1 := hTA.f1
    obtain ⟨ob, hput⟩ := run_put (P := Tryz.prog) strKey hTA.map Tryz.underlying97 Tryz.underlying9 s (.agg #[.string s, .int .i64 T.nx, .bool dir])
    obtain ⟨X, hX⟩ : ∃ X, X = w1.alloc (.cells #[.string s, .int .i64 T.nx, .bool dir] 51) := ⟨_, rfl⟩
    have hXb : ∀ k, k < w1.heap.size → X.drew.heap[k]? = w1.heap[k]? := fun k hk => by rw [hX]; exact Below.heap_alloc _ _ _ hk
    obtain ⟨p1, p2⟩ := hput X.drew (hXb mb hmb)
    have hXn : X.drew.heap[w1.heap.size]? = some (.cells #[.string s, .int .i64 T.nx, .bool dir] 51 (0, 0)) := by rw [hX]; exact heap_alloc_new _ _
    have hXs : X.drew.heap.size = w1.heap.size + 1 := by rw [hX]; simp
    have hTX : Turn [tb, mb] w1 X.drew := by rw [hX]; exact (Turn.of_below ((Below.refl _ _).alloc (Nat.le_refl _) _)).drewN 1
    -- behind the store
    have q1 : (setBlock X.drew mb ob).heap[tb]? = some (.cells #[.map (some mb), .int .i64 T.nx] 99 (0, 0)) := (heap_setBlock_ne _ _ _ _ hne).trans ((hXb tb htb).trans hTA.cells)
    have q2 : (setBlock X.drew mb ob).heap[w1.heap.size]? = some (.cells #[.string s, .int .i64 T.nx, .bool dir] 51 (0, 0)) := (heap_setBlock_ne _ _ _ _ (by omega)).trans hXn
    have q3 := (hTX.setBlock (r := mb) (.inl (by simp)) ob)
    rw [hX] at p1
    have p1 : (Instr.mapUpdate 97 (.map (some mb)) (.string s) (.agg #[.string s, .int .i64 T.nx, .bool dir])).run Tryz.prog (w1.alloc (.cells #[.string s, .int .i64 T.nx, .bool dir] 51)).drew = .ok () (setBlock (w1.alloc (.cells #[.string s, .int .i64 T.nx, .bool dir] 51)).drew mb ob) := p1
    have HP2 := Lib.hid p2
    have HQ1 := Lib.hid q1
    have HQ2 := Lib.hid q2
    have HQ3 := Lib.hid q3
    have HTA := Lib.hid hTA
    clear hput p2 q1 q2 q3 hXb hXn hXs hTX hTA
    have HX := Lib.hid hX
    clear hX
    go_wp2
    go_region
    all_goals
      rw [← HX.out]
      generalize setBlock X.drew mb ob = W at *
      have c1 : W.cell? ⟨tb, 1, none⟩ = some (.int .i64 T.nx) := by unfold World.cell?; rw [HQ1.out]; rfl
      have c2 : W.frozen? ⟨tb, 1, none⟩ = false := by unfold World.frozen?; rw [HQ1.out]; rfl
      have c3 : W.cell? ⟨w1.heap.size, 1, none⟩ = some (.int .i64 T.nx) := by unfold World.cell?; rw [HQ2.out]; rfl
      have c4 : (W.setCell ⟨tb, 1, none⟩ (.int .i64 (T.nx + 1))).cell? ⟨w1.heap.size, 1, none⟩ = some (.int .i64 T.nx) := by
        rw [World.cell?_setCell_other _ _ _ _ (by intro e; have := congrArg Addr.block e; simp at this; omega)]; exact c3
      go_wp2
      go_ret2
      refine ⟨rfl, ⟨L ++ [⟨s, T.nx, dir⟩], ?_, ⟨?_, ?_⟩⟩, ?_⟩
      · exact (hp.append_right _).trans ((List.perm_append_comm).trans (insN_perm ⟨s, T.nx, dir⟩ T.L).symm)
      · exact heap_setCell_at HQ1.out 1 _
      · refine (show MapIs strKey W mb (ents (L ++ [⟨s, T.nx, dir⟩])) from ?_).of_block (Below.heap_setCell _ _ _ _ (by simpa using Ne.symm hne))
        rw [← mput_new (n := ⟨s, T.nx, dir⟩) (by rw [fnd_perm (ha.perm hp.symm) hp]; exact hfn)]
        exact HP2.out
      · exact (Turn.of_below (bs := [tb, mb]) (hB1)).trans (HQ3.out.setCell (p := ⟨tb, 1, none⟩) (.inl (by simp)) _)
  · have hmk : makeS T s dir = (T, 0, canS T.L s) := by unfold makeS; rw [if_neg h0]
    rw [hmk]
    have HT := Lib.hid hT
    generalize canS T.L s = x at *
    have h1 : (x == 0) = false := by rw [beq_eq_false_iff_ne]; exact h0
    clear hT hmk hm hn h0 ha
    go_enter Tryz.func27, Tryz.ntmps27
    go_wp2_with fail
    refine hcan.mono ?_
    rintro e w1 ⟨rfl, hB1⟩
    go_wp2
    go_ret2
    exact ⟨rfl, HT.out.below hB1, .of_below hB1⟩
end Go.Proofs.YtiegadfhgccliaaGreatDoor
namespace Go.Proofs.YtiegadfhgccliaaGreatDoor
open Go.RowKit Go.Lib
open Go.ChangeMaps (setBlock)

/-- A row of nodes as cells. -/
def cells3 (n : Nd) : List Value := [.string n.path, .int .i64 n.id, .bool n.dir]
def cellsN (L : List Nd) : List Value := L.flatMap cells3
theorem cellsN_len (L : List Nd) : (cellsN L).length = L.length * 3 := by
  induction L with
  | nil => rfl
  | cons n r ih => unfold cellsN at *; rw [List.flatMap_cons, List.length_append, ih, List.length_cons]; simp [cells3]; omega
theorem cellsN_snoc (L : List Nd) (n : Nd) : cellsN (L ++ [n]) = cellsN L ++ [.string n.path, .int .i64 n.id, .bool n.dir] := by
  unfold cellsN; rw [List.flatMap_append]; rfl
theorem cellsN_get : ∀ {L : List Nd} {k : Nat} (hk : k < L.length) (j : Nat), j < 3 → (cellsN L)[k * 3 + j]? = (cells3 L[k])[j]?
  | n :: r, 0, _, j, hj => by
    unfold cellsN
    rw [List.flatMap_cons, List.getElem?_append_left (by simp [cells3]; omega)]
    simp
  | n :: r, k + 1, hk, j, hj => by
    have ih := cellsN_get (L := r) (k := k) (by simpa using hk) j hj
    unfold cellsN at *
    rw [List.flatMap_cons, List.getElem?_append_right (by simp [cells3]; omega)]
    have e : (k + 1) * 3 + j - (cells3 n).length = k * 3 + j := by simp [cells3]; omega
    rw [e, ih]
    simp

/-- A row of nodes from a place on. -/
structure RdN (w : World) (b o : Nat) (L : List Nd) : Prop where
  at_ : ∀ k, k < L.length → w.cell? ⟨b, o + k * 3, none⟩ = some (.string (L.getD k default).path) ∧ w.cell? ⟨b, o + k * 3 + 1, none⟩ = some (.int .i64 (L.getD k default).id) ∧ w.cell? ⟨b, o + k * 3 + 2, none⟩ = some (.bool (L.getD k default).dir)
  lt : b < w.heap.size
def SlN (w : World) (a : Option Addr) (L : List Nd) : Prop := L = [] ∨ ∃ b o, a = some ⟨b, o, none⟩ ∧ RdN w b o L
theorem RdN.turn {bs : List Nat} {w w' : World} {b o : Nat} {L : List Nd} (h : RdN w b o L) (ht : Turn bs w w') (hn : b ∉ bs) : RdN w' b o L :=
  ⟨fun k hk => by
    obtain ⟨h1, h2, h3⟩ := h.at_ k hk
    exact ⟨(ht.cell (p := ⟨b, o + k * 3, none⟩) h.lt hn).trans h1, (ht.cell (p := ⟨b, o + k * 3 + 1, none⟩) h.lt hn).trans h2, (ht.cell (p := ⟨b, o + k * 3 + 2, none⟩) h.lt hn).trans h3⟩, Nat.lt_of_lt_of_le h.lt ht.size⟩
theorem SlN.below {w w' : World} {a : Option Addr} {L : List Nd} (h : SlN w a L) (hb : Below w.heap.size w w') : SlN w' a L := by
  rcases h with h | ⟨b, o, e, hr⟩
  · exact .inl h
  · exact .inr ⟨b, o, e, hr.turn (bs := []) (.of_below hb) (by simp)⟩
theorem SlN.at_ {w : World} {a : Option Addr} {L : List Nd} (h : SlN w a L) {k : Nat} (hk : k < L.length) : ∃ b o, a = some ⟨b, o, none⟩ ∧ w.cell? ⟨b, o + k * 3, none⟩ = some (.string (L.getD k default).path) ∧ w.cell? ⟨b, o + k * 3 + 1, none⟩ = some (.int .i64 (L.getD k default).id) ∧ w.cell? ⟨b, o + k * 3 + 2, none⟩ = some (.bool (L.getD k default).dir) ∧ b < w.heap.size := by
  rcases h with rfl | ⟨b, o, e, hr⟩
  · simp at hk
  · obtain ⟨h1, h2, h3⟩ := hr.at_ k hk
    exact ⟨b, o, e, h1, h2, h3, hr.lt⟩
/-- A row of the call's own. -/
theorem SlN.own {w : World} {base : Nat} {e : TypeId} {v : Value} {L : List Nd} (h : w.ownsRow base e 3 v L.length (cellsN L)) : ∃ a c, v = .slice a L.length c ∧ L.length ≤ c ∧ SlN w a L := by
  obtain ⟨_, ⟨rfl, hn⟩ | ⟨g, cap, cur, rfl, _, hg, hc, _, _, hx⟩⟩ := h
  · have : L = [] := by cases L; rfl; simp at hn
    subst this
    exact ⟨none, 0, rfl, Nat.le_refl _, .inl rfl⟩
  · refine ⟨_, _, rfl, hc, .inr ⟨g, 0, rfl, ⟨fun k hk => ?_, (Array.getElem?_eq_some_iff.1 hg).1⟩⟩⟩
    have each : ∀ j u, j < 3 → (cells3 L[k])[j]? = some u → w.cell? ⟨g, k * 3 + j, none⟩ = some u := by
      intro j u hj hu
      have h1 := cellsN_get hk j hj
      rw [hu, ← hx, List.getElem?_take] at h1
      split at h1
      · unfold World.cell?
        rw [hg]
        simpa using h1
      · cases h1
    have hd : L.getD k default = L[k] := by simp [List.getD, hk]
    rw [hd, Nat.zero_add]
    exact ⟨each 0 _ (by omega) rfl, each 1 _ (by omega) rfl, each 2 _ (by omega) rfl⟩
theorem info_nd : (Tryz.prog.info? 51).map (fun i => (i.zero, i.size, i.bytes)) = some (some (.agg #[.string ⟨#[]⟩, .int .i64 0, .bool false]), 3, 32) := by kernel_rfl
theorem new3 (w : World) (a b c : Value) (t : TypeId) : ∀ j u, [a, b, c][j]? = some u → (w.alloc (.cells #[a, b, c] t)).cell? ((⟨w.heap.size, 0, none⟩ : Addr).add j) = some u := by
  intro j u hu
  have h0 := b3_cells (heap_alloc_new w (.cells #[a, b, c] t))
  match j, hu with
  | 0, hu => simp at hu; subst hu; exact h0.1
  | 1, hu => simp at hu; subst hu; exact h0.2.1
  | 2, hu => simp at hu; subst hu; exact h0.2.2.1
  | j + 3, hu => simp at hu

theorem new3b (W : World) (a b c : Value) (t : TypeId) (B : Nat) (hB : W.heap.size = B) : ∀ j u, [a, b, c][j]? = some u → (W.alloc (.cells #[a, b, c] t)).cell? ((⟨B, 0, none⟩ : Addr).add j) = some u := by
  subst hB; exact new3 W a b c t
theorem it_left {w : World} {mb r : Nat} {M left : List (ByteArray × Value)} (h : MapIt strKey w mb r M left) : w.rangeLeft mb r = left.length := by
  obtain ⟨es, clock, since, seen, c0, a, _, _, d, _, _, _, e⟩ := h
  have := congrArg List.length e
  rw [List.length_map, List.length_map, Array.length_toList] at this
  simp only [World.rangeLeft, a, d]
  exact this
section ops
variable {ops : Array Oper} {rest : List Oper} {o : Oper} {a : Act} {Q : Exit → Act → World → Prop} {P : Program}
theorem wpList_next_nd (w : World) (hg : o.guard = none) (it : Operand) (hop : o.op = Op.next it false) (mb r : Nat) (L left : List Nd)
    (hit : a.eval it = .pointer (some ⟨r, 0, none⟩)) (h : MapIt strKey w mb r (ents L) (ents left))
    (hDone : left = [] → wpList P ops Q rest (a.put o.dst (.tuple #[.bool false])) w)
    (hMore : ∀ i (n : Nd) w1 ob, left[i]? = some n → (w1 = w ∨ w1 = w.drew) → MapIt strKey (setBlock w1 r ob) mb r (ents L) (ents (left.eraseIdx i)) →
      (Instr.entry (.pointer (some ⟨r, 0, none⟩))).run P (setBlock w1 r ob) = .ok (.tuple #[.string n.path, .agg #[.string n.path, .int .i64 n.id, .bool n.dir]]) (setBlock w1 r ob) → wpList P ops Q rest (a.put o.dst (.tuple #[.bool true, .string n.path, .agg #[.string n.path, .int .i64 n.id, .bool n.dir]])) (setBlock w1 r ob)) :
    wpList P ops Q (o :: rest) a w := by
  refine wpList_next_it w hg it hop strKey mb r (ents L) (ents left) hit h (fun e => hDone (by unfold ents at e; exact List.map_eq_nil_iff.1 e)) fun i k v w1 ob hi hw1 hit2 hen => ?_
  unfold ents at hi
  rw [List.getElem?_map] at hi
  cases hn : left[i]? with
  | none => rw [hn] at hi; cases hi
  | some n =>
    rw [hn] at hi
    obtain ⟨rfl, rfl⟩ := Prod.mk.inj (Option.some.inj hi)
    refine hMore i n w1 ob hn hw1 ?_ hen
    have e : ents (left.eraseIdx i) = (ents left).eraseIdx i := by unfold ents; exact Go.ChangeMaps.map_eraseIdx _ _ _
    rw [e]; exact hit2
end ops
theorem perm_erase {α : Type} {l : List α} {i : Nat} {x : α} (h : l[i]? = some x) : l.Perm (x :: l.eraseIdx i) := by
  induction l generalizing i with
  | nil => cases h
  | cons a r ih =>
    cases i with
    | zero => simp at h; subst h; exact .refl _
    | succ i =>
      simp at h
      exact ((ih h).cons a).trans (.swap x a _)

def preB (s : ByteArray) (n : Nd) : Bool := hasPrefix n.path.data.toList (s.data.toList ++ [47])

set_option maxRecDepth 100000 in
set_option maxHeartbeats 4000000 in
theorem tree_under (s : ByteArray) (w : World) (hs : s.size ≤ 100000) {tb mb : Nat} {T : TS} (hT : TreeP w tb mb T) (hn : T.L.length ≤ 1000000) (hps : ∀ n ∈ T.L, n.path.size ≤ maxLen) :
    Calls Tryz.prog 61 #[.pointer (some ⟨tb, 0, none⟩), .string s] w fun e w' => ∃ (U : List Nd) (v : Value), e = .returned v ∧ U.Perm (T.L.filter (preB s)) ∧ w'.ownsRow w.heap.size 51 3 v U.length (cellsN U) ∧ Below w.heap.size w w' := by
  obtain ⟨L, hp, hTA⟩ := hT
  have hlen : L.length ≤ 1000000 := by rw [hp.length_eq]; exact hn
  have hps2 : ∀ n ∈ L, n.path.size ≤ maxLen := fun n h => hps n (hp.mem_iff.1 h)
  have HPm := Lib.hid hp
  have HPs := Lib.hid hps2
  have hc0 := hTA.c0
  have htb := hTA.lt
  have hmb := hTA.ltm
  have HM := Lib.hid hTA.map
  obtain ⟨i0, hi, hz0, hz1, hz2⟩ := info_parts info_nd
  clear hp hn hps hps2 hTA
  go_enter Tryz.func61, Tryz.ntmps61
  go_wp2_with (at_range; refine wpList_range_it _ rfl _ 97 rfl 9 51 strKey Tryz.underlying97 mb _ rfl HM.out ?_; intro ob hit)
  go_frame
  have HIt := Lib.hid hit
  clear hit
  have HB0 := Lib.hid ((Below.refl w.heap.size w).alloc (Nat.le_refl _) ob)
  generalize hw0 : w.alloc ob = w0 at *
  have HW0 := Lib.hid hw0
  clear hw0
  go_loopw [5] (fun v wr => ∃ (U left : List Nd) (sv : Value), v = sv ∧ Hid (MapIt strKey wr mb w.heap.size (ents L) (ents left)) ∧ Hid (wr.ownsRow w.heap.size 51 3 sv U.length (cellsN U)) ∧ Hid (Below w.heap.size w wr) ∧ Hid ((U ++ left.filter (preB s)).Perm (L.filter (preB s))) ∧ Hid (∀ n ∈ left, n ∈ L)) (fun _ wr => wr.rangeLeft mb w.heap.size)
  case atStart => exact ⟨[], L, _, rfl, HIt, Lib.hid (World.ownsRow_nil _ _ _ _), HB0, Lib.hid (List.Perm.refl _), Lib.hid fun n h => h⟩
  case round =>
    obtain ⟨U, left, sv, hsv, HI, HO, HB, HP, HL⟩ := hrel
    have hsv' := hsv.symm
    subst hsv'
    go_wp2_with (at_next; refine wpList_next_nd _ rfl _ rfl mb w.heap.size L left rfl HI.out ?_ ?_)
    · intro hnil
      have HNil := Lib.hid hnil
      clear hnil
      go_wp2
      go_ret
      refine ⟨U, sv, rfl, ?_, HO.out, HB.out⟩
      have := HP.out
      rw [HNil.out] at this
      simp at this
      exact this.trans (HPm.out.filter _)
    · intro i n w1 ob1 hi1 hw1 hit1 hen
      have hmem := HL.out n (List.mem_of_getElem? hi1)
      have hpsz := HPs.out n hmem
      have hBw1 : Below w.heap.size w w1 := by rcases hw1 with rfl | rfl; exact HB.out; exact below_drewN' HB.out 1
      have hOw1 : w1.ownsRow w.heap.size 51 3 sv U.length (cellsN U) := by rcases hw1 with rfl | rfl; exact HO.out; exact own_heap HO.out rfl
      have hIw1 : MapIt strKey w1 mb w.heap.size (ents L) (ents left) := by rcases hw1 with rfl | rfl; exact HI.out; exact HI.out.of_blocks rfl rfl
      have hB1 : Below w.heap.size w (setBlock w1 w.heap.size ob1) := below_setBlock hBw1 (Nat.le_refl _) ob1
      have hO1 : (setBlock w1 w.heap.size ob1).ownsRow w.heap.size 51 3 sv U.length (cellsN U) := by
        refine ⟨hOw1.1, ?_⟩
        rcases hOw1.2 with h | ⟨g, cap, cur, hv, hbg, hg, r⟩
        · exact .inl h
        · refine .inr ⟨g, cap, cur, hv, hbg, ?_, r⟩
          rw [heap_setBlock_ne _ _ _ _ (Ne.symm (hIw1.ne_row hg).2)]
          exact hg
      have hpm1 : (U ++ left.filter (preB s)).Perm (U ++ (n :: left.eraseIdx i).filter (preB s)) := ((perm_erase hi1).filter _).append_left U
      have HPm1 := Lib.hid (hpm1.symm.trans HP.out)
      have HL1 : Hid (∀ x ∈ left.eraseIdx i, x ∈ L) := fun x hx => HL.out x (List.mem_of_mem_eraseIdx hx)
      have HLen := Lib.hid (show (left.eraseIdx i).length < left.length by
        have := (List.getElem?_eq_some_iff.1 hi1).1
        rw [List.length_eraseIdx]; split <;> omega)
      have HLft := Lib.hid (it_left HI.out)
      have hul : U.length ≤ 1000000 := by
        have h1 := HP.out.length_eq
        have h2 := List.length_filter_le (preB s) L
        rw [List.length_append] at h1
        omega
      obtain ⟨np, ni, nd⟩ := n
      dsimp only at hen hpsz
      have hlen : ¬ 9223372036854775807 < s.size + 1 := by omega
      have HO1 := Lib.hid hO1
      have HB1 := Lib.hid hB1
      have HI1 := Lib.hid hit1
      have HHi := Lib.hid hi1
      clear hw1 hit1 hBw1 hOw1 hIw1 hB1 hO1 hpm1 hmem hi1 HI HO HB
      generalize setBlock w1 w.heap.size ob1 = W at *
      have hcat : (s ++ (⟨#[47]⟩ : ByteArray)).data.toList = s.data.toList ++ [47] := by simp
      have HCat := Lib.hid hcat
      clear hcat
      cases hb : preB s ⟨np, ni, nd⟩
      · have HBr := Lib.hid hb
        go_wp2_with (go_at_call 92; refine (Tryz.strings_HasPrefix _ _ _).mono ?_; rintro e w' ⟨rfl, rfl⟩; rw [show hasPrefix np.data.toList (s ++ (⟨#[47]⟩ : ByteArray)).data.toList = false by rw [HCat.out]; exact HBr.out])
        refine ⟨⟨U, left.eraseIdx i, sv, rfl, Lib.hid (HI1.out.alloc _), Lib.hid (HO1.out.alloc _), Lib.hid (HB1.out.alloc HB1.out.size _), ?_, HL1⟩, ?_⟩
        · have := HPm1.out
          rw [List.filter_cons, HBr.out] at this
          exact Lib.hid this
        · rw [it_left (HI1.out.alloc _), HLft.out]; unfold ents; rw [List.length_map, List.length_map]; exact HLen.out
      · have HBr := Lib.hid hb
        go_wp2_with (first
          | (go_at_call 92; refine (Tryz.strings_HasPrefix _ _ _).mono ?_; rintro e w' ⟨rfl, rfl⟩; rw [show hasPrefix np.data.toList (s ++ (⟨#[47]⟩ : ByteArray)).data.toList = true by rw [HCat.out]; exact HBr.out])
          | (at_builtin; refine wpList_append_own _ rfl (.tmp 22) (.tmp 24) 42 rfl w.heap.size 51 i0 _ 3 32 Tryz.underlying42 hi hz0 hz1 hz2 rfl (by decide) _ _ _ rfl ((HO1.out.alloc _).alloc _) ⟨W.heap.size + 1, 0, none⟩ 1 1 [.string np, .int .i64 ni, .bool nd] rfl rfl (new3b _ _ _ _ _ _ (by simp)) (by intro u hu; simp at hu; rcases hu with rfl | rfl | rfl <;> rfl) (by unfold maxLen; omega) (by omega) (by have := HB1.out.size; simp; omega) ?_; intro v' w3 hown' hgrow hnil; clear hnil; have HO2 := Lib.hid hown'; have HG := Lib.hid hgrow; clear hown' hgrow))
        refine ⟨⟨U ++ [⟨np, ni, nd⟩], left.eraseIdx i, v', rfl, Lib.hid (((HI1.out.alloc _).alloc _).grown ((HO1.out.alloc _).alloc _) HG.out), ?_, ?_, ?_, HL1⟩, ?_⟩
        · have := HO2.out
          rw [cellsN_snoc, List.length_append, List.length_singleton]
          exact Lib.hid this
        · exact Lib.hid (grown_below ((HB1.out.alloc HB1.out.size _).alloc (by have := HB1.out.size; simp; omega) _) (by have := HB1.out.size; simp; omega) ((HO1.out.alloc _).alloc _) HG.out)
        · have := HPm1.out
          rw [List.filter_cons, HBr.out, if_pos rfl] at this
          refine Lib.hid ?_
          rw [List.append_assoc]
          exact this
        · rw [it_left (((HI1.out.alloc _).alloc _).grown ((HO1.out.alloc _).alloc _) HG.out), HLft.out]; unfold ents; rw [List.length_map, List.length_map]; exact HLen.out
end Go.Proofs.YtiegadfhgccliaaGreatDoor
namespace Go.Proofs.YtiegadfhgccliaaGreatDoor
open Go.RowKit Go.Lib
open Go.ChangeMaps (setBlock)

/-- The path that a node would have. -/
def movedRaw (src dst p : ByteArray) : ByteArray := dst ++ p.extract src.size p.size
def deepB (src dst : ByteArray) (L : List Nd) : Bool := (L.filter (preB src)).any fun n => (psplit (movedRaw src dst n.path)).isNone
theorem preB_size {s : ByteArray} {n : Nd} (h : preB s n = true) : s.size < n.path.size := by
  unfold preB hasPrefix at h
  have := (List.isPrefixOf_iff_prefix.1 h).length_le
  rw [List.length_append, ← size_eq, ← size_eq, List.length_singleton] at this
  omega
theorem any_perm {α : Type} {l l' : List α} (h : l.Perm l') (p : α → Bool) : l.any p = l'.any p := by
  rw [Bool.eq_iff_iff, List.any_eq_true, List.any_eq_true]
  exact ⟨fun ⟨x, hx, hp⟩ => ⟨x, h.mem_iff.1 hx, hp⟩, fun ⟨x, hx, hp⟩ => ⟨x, h.mem_iff.2 hx, hp⟩⟩

set_option maxRecDepth 100000 in
set_option maxHeartbeats 4000000 in
theorem tree_deep (src dst : ByteArray) (w : World) (hs : src.size ≤ 100000) (hd : dst.size ≤ 100000) {tb mb : Nat} {T : TS} (hT : TreeP w tb mb T) (hm : MLen w) (hn : T.L.length ≤ 1000000) (hps : ∀ n ∈ T.L, n.path.size ≤ 1000) :
    Calls Tryz.prog 72 #[.pointer (some ⟨tb, 0, none⟩), .string src, .string dst] w fun e w' => e = .returned (.bool (deepB src dst T.L)) ∧ Below w.heap.size w w' := by
  have hund := tree_under src w hs hT hn (fun n h => by have := hps n h; unfold maxLen; omega)
  have HM : Hid (∀ W, Below w.heap.size w W → MLen W) := fun W h => hm.below h
  have HPs := Lib.hid hps
  clear hT hm hps
  go_enter Tryz.func72, Tryz.ntmps72
  go_wp2_with fail
  refine hund.mono ?_
  rintro e w1 ⟨U, v, rfl, hp, hO, hB1⟩
  obtain ⟨a, c, rfl, hc, hS⟩ := SlN.own hO
  have hUl : U.length ≤ 1000000 := by
    have h1 := hp.length_eq
    have h2 := List.length_filter_le (preB src) T.L
    omega
  have HB1 := Lib.hid hB1
  have HP := Lib.hid hp
  clear hB1 hp hO
  go_wp2
  go_loopw [15] (fun i wr => ∃ (k : Nat), k ≤ U.length ∧ i = .int .i64 (k : Int) ∧ Hid (Below w1.heap.size w1 wr) ∧ Hid (∀ j, j < k → (psplit (movedRaw src dst (U.getD j default).path)).isNone = false)) (fun i _ => U.length - (intOf i).toNat)
  case atStart => exact ⟨0, by omega, rfl, Lib.hid (Below.refl _ _), fun j hj => by omega⟩
  case round =>
    obtain ⟨k, hk, rfl, HB, HF⟩ := hrel
    by_cases hlt : k < U.length
    · obtain ⟨b, o, rfl, c0, c1, c2, hbl⟩ := (hS.below HB.out).at_ hlt
      have hki : (k : Int) < (U.length : Int) := by omega
      have hmem : U.getD k default ∈ T.L.filter (preB src) := HP.out.mem_iff.1 (by simp [List.getD, hlt])
      have hpre := preB_size (List.mem_filter.1 hmem).2
      have hpsz := HPs.out _ (List.mem_filter.1 hmem).1
      have HMem := Lib.hid hmem
      generalize hnd : U.getD k default = n at *
      obtain ⟨np, ni, nd⟩ := n
      dsimp only at c0 c1 c2 hpre hpsz
      have HNd := Lib.hid hnd
      have hsz : (np.extract src.size np.size).size ≤ 1000 := by rw [ByteArray.size_extract]; omega
      have hcat : ¬ 9223372036854775807 < dst.size + (np.extract src.size np.size).size := by omega
      have hraw : Hid (movedRaw src dst np = dst ++ np.extract src.size np.size) := rfl
      have hrs : (dst ++ np.extract src.size np.size).size ≤ maxLen := by rw [ByteArray.size_append]; unfold maxLen; omega
      have hle : src.size ≤ np.size := by omega
      clear hmem hnd
      generalize hX : np.extract src.size np.size = X at *
      have HX := Lib.hid hX
      have HSp : Hid (∀ W, Below w1.heap.size w1 W → Calls Tryz.prog 70 #[.string (dst ++ X)] W (SplitAns W (dst ++ X))) := fun W h => path_split _ W hrs (HM.out W (blw HB1.out h))
      clear hrs
      cases hps : psplit (dst ++ X) with
      | none =>
        have HS2 := Lib.hid hps
        have hfin : Hid (deepB src dst T.L = true) := Lib.hid (by
          unfold deepB
          rw [List.any_eq_true]
          exact ⟨_, HMem.out, by show (psplit (movedRaw src dst np)).isNone = true; rw [hraw.out, hps]; rfl⟩)
        clear hps
        go_wp2_with fail
        refine (HSp.out _ (HB.out.alloc HB.out.size _)).mono ?_
        intro e w3 hr
        obtain ⟨rfl, hB3⟩ := splitAns_none HS2.out hr
        clear hr
        go_wp2_with fail
        go_ret
        exact ⟨by rw [hfin.out]; rfl, blw HB1.out (blw (HB.out.alloc HB.out.size _) hB3)⟩
      | some Q =>
        have HS2 := Lib.hid hps
        have hfin : Hid ((psplit (movedRaw src dst np)).isNone = false) := Lib.hid (by rw [hraw.out, hps]; rfl)
        clear hps
        go_wp2_with fail
        refine (HSp.out _ (HB.out.alloc HB.out.size _)).mono ?_
        intro e w3 hr
        obtain ⟨a3, c3, rfl, _, _, hB3⟩ := splitAns_some HS2.out hr
        clear hr
        go_wp2_with fail
        refine ⟨⟨k + 1, by omega, by go_num, Lib.hid (blw (HB.out.alloc HB.out.size _) hB3), ?_⟩, by simp [intOf]; omega⟩
        intro j hj
        by_cases e : j = k
        · subst e; rw [HNd.out]; exact hfin.out
        · exact HF.out j (by omega)
    · obtain rfl : k = U.length := by omega
      have hfin : Hid (deepB src dst T.L = false) := Lib.hid (by
        unfold deepB
        rw [← any_perm HP.out, List.any_eq_false]
        intro n hn
        obtain ⟨j, hj, rfl⟩ := List.getElem_of_mem hn
        have e : U[j] = U.getD j default := by simp [List.getD, hj]
        rw [e, HF.out j hj]
        decide)
      have hlt' : decide ((U.length : Int) < (U.length : Int)) = false := by simp
      clear hlt HF
      go_wp2
      go_ret
      exact ⟨by rw [hfin.out]; rfl, blw HB1.out HB.out⟩
end Go.Proofs.YtiegadfhgccliaaGreatDoor
namespace Go.Proofs.YtiegadfhgccliaaGreatDoor
open Go.Lib

theorem psplit_of_mem {T : TS} (h : TInv T) {n : Nd} (hn : n ∈ T.L) : ∃ Z, psplit n.path = some Z ∧ Z ≠ [] := by
  obtain ⟨Z, h1, h2, _⟩ := h.path n hn
  exact ⟨Z, h1, h2⟩
theorem path_size {T : TS} (h : TInv T) : ∀ n ∈ T.L, n.path.size ≤ 64 := fun n hn => by
  obtain ⟨Z, h1, _⟩ := psplit_of_mem h hn
  have h2 := psplit_ok h1
  rw [← h2.2]
  exact h2.1.short
theorem root_split {s : ByteArray} {P : List ByteArray} (h : psplit s = some P) : decide (s = rootP) = P.isEmpty := by
  rw [Bool.eq_iff_iff, decide_eq_true_eq, List.isEmpty_iff]
  constructor
  · intro e
    have h2 : psplit rootP = some [] := by unfold psplit; rw [if_pos (by rw [toList_data]; decide)]
    rw [e, h2] at h
    exact (Option.some.inj h).symm
  · intro e
    rw [← (psplit_ok h).2, e, pjoin_nil]; rfl
/-- Under: it begins with the path and a slash. -/
theorem pre_under {s p : ByteArray} {X Z : List ByteArray} (hs : psplit s = some X) (hX : X ≠ []) (hp : psplit p = some Z) : hasPrefix p.data.toList (s.data.toList ++ [47]) = punder p s := by
  have h1 := psplit_ok hs
  have h2 := psplit_ok hp
  have := under_prefix hX h1.1.names h2.1.names
  rw [h1.2, h2.2] at this
  rw [this]
  unfold punder
  rw [hs, hp]
theorem preB_under {T : TS} (h : TInv T) {s : ByteArray} {X : List ByteArray} (hs : psplit s = some X) (hX : X ≠ []) {n : Nd} (hn : n ∈ T.L) : preB s n = punder n.path s := by
  obtain ⟨Z, h1, _⟩ := psplit_of_mem h hn
  exact pre_under hs hX h1
theorem under_split {p s : ByteArray} {Z X : List ByteArray} (hp : psplit p = some Z) (hs : psplit s = some X) (h : punder p s = true) : X.length < Z.length ∧ Z.take X.length = X := by
  unfold punder at h
  rw [hp, hs] at h
  simpa using h
/-- Where it moves. -/
theorem movedRaw_eq {src dst p : ByteArray} {X Y Z : List ByteArray} (hs : psplit src = some X) (hX : X ≠ []) (hd : psplit dst = some Y) (hY : Y ≠ []) (hp : psplit p = some Z) (ht : Z.take X.length = X) : movedRaw src dst p = newPath src dst p := by
  apply bytes_ext
  have h1 := (psplit_ok hs).2
  have h2 := (psplit_ok hd).2
  have h3 := (psplit_ok hp).2
  have hZ : Z = X ++ Z.drop X.length := by conv => lhs; rw [← List.take_append_drop X.length Z, ht]
  unfold movedRaw newPath partsN
  rw [hs, hd, hp]
  simp only [Option.getD_some]
  have h4 := pjoin_move (X := X) (Y := Y) (W := Z.drop X.length) hX hY
  rw [← hZ, h1, h2, h3] at h4
  rw [← h4, ByteArray.data_append, Array.toList_append, extract_to_end]
theorem newPath_self {src dst : ByteArray} {X Y : List ByteArray} (hs : psplit src = some X) (hd : psplit dst = some Y) : newPath src dst src = dst := by
  unfold newPath partsN
  rw [hs, hd]
  simp only [Option.getD_some, List.drop_length, List.append_nil]
  exact (psplit_ok hd).2
/-- Has anything in it no place? -/
theorem deep_moves {T : TS} (h : TInv T) {src dst : ByteArray} {X Y : List ByteArray} (hs : psplit src = some X) (hX : X ≠ []) (hd : psplit dst = some Y) (hY : Y ≠ []) :
    deepB src dst T.L = (T.L.filter (movesN src)).any (fun n => (psplit (newPath src dst n.path)).isNone) := by
  unfold deepB
  rw [Bool.eq_iff_iff, List.any_eq_true, List.any_eq_true]
  constructor
  · rintro ⟨n, hn, hx⟩
    obtain ⟨h1, h2⟩ := List.mem_filter.1 hn
    obtain ⟨Z, hz, _⟩ := psplit_of_mem h h1
    rw [preB_under h hs hX h1] at h2
    rw [movedRaw_eq hs hX hd hY hz (under_split hz hs h2).2] at hx
    exact ⟨n, List.mem_filter.2 ⟨h1, by unfold movesN; rw [h2, Bool.or_true]⟩, hx⟩
  · rintro ⟨n, hn, hx⟩
    obtain ⟨h1, h2⟩ := List.mem_filter.1 hn
    obtain ⟨Z, hz, _⟩ := psplit_of_mem h h1
    unfold movesN at h2
    by_cases he : n.path = src
    · rw [he, newPath_self hs hd, hd] at hx; cases hx
    · have h3 : punder n.path src = true := by simpa [he] using h2
      rw [← movedRaw_eq hs hX hd hY hz (under_split hz hs h3).2] at hx
      exact ⟨n, List.mem_filter.2 ⟨h1, by rw [preB_under h hs hX h1]; exact h3⟩, hx⟩
end Go.Proofs.YtiegadfhgccliaaGreatDoor
