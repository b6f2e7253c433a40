/- Walks of package tree: Make, Len, Next. -/
import Derived.Test.YtahdmkmefeocmaaDoorTreeW2
namespace Go.Proofs.YtahdmkmefeocmaaDoor
open Go.RowKit Go.Lib
open Go.ChangeMaps (setBlock)

theorem turn_setBlock {bs : List Nat} {a b : World} (h : Turn bs a b) {r : Nat} (hr : r ∈ bs) (o : Obj) : Turn bs a (setBlock b r o) := h.setBlock (.inl hr) o
theorem mput_new {L : List Nd} {n : Nd} (h : fnd n.path L = none) : mput n.path (ndV n) (ents L) = ents (L ++ [n]) := by
  unfold mput
  have : (ents L).any (fun p => decide (p.1 = n.path)) = false := by
    rw [List.any_eq_false]
    intro p hp
    obtain ⟨m, hm, rfl⟩ := List.mem_map.1 hp
    simpa using fnd_none h m hm
  rw [this]
  simp [ents]
theorem canS_zero {L : List Nd} {s : ByteArray} (h : canS L s = 0) : fnd s L = none ∧ parentS (fnd · L) s = 0 ∧ s ≠ rootP ∧ L.length < 64 := by
  unfold canS at h
  split at h
  · rename_i h0
    split at h
    · cases h
    · rename_i h1
      split at h
      · cases h
      · rename_i h2
        simp only [Bool.or_eq_true, decide_eq_true_eq, not_or, Bool.not_eq_true, Option.isSome_eq_false_iff, Option.isNone_iff_eq_none] at h1
        exact ⟨h1.1, h0, h1.2, by omega⟩
  · rename_i h0; exact absurd h h0

set_option maxRecDepth 100000 in
set_option maxHeartbeats 2000000 in
theorem tree_make (s : ByteArray) (dir : Bool) (w : World) (hs : s.size ≤ maxLen) {tb mb : Nat} {T : TS} (hT : TreeP w tb mb T) (ha : Apart T.L) (hm : MLen w) (hn : T.L.length ≤ 1000000) (hnx : -9223372036854775808 ≤ T.nx ∧ T.nx < 9223372036854775807) :
    Calls Tryd.prog 8 #[.pointer (some ⟨tb, 0, none⟩), .string s, .bool dir] w fun e w' => e = .returned (.tuple #[.int .i64 (makeS T s dir).2.1, .int .i64 (makeS T s dir).2.2]) ∧ TreeP w' tb mb (makeS T s dir).1 ∧ Turn [tb, mb] w w' := by
  have hcan := tree_can s w hs hT ha hm hn rfl
  have hlt := hT.lt
  by_cases h0 : canS T.L s = 0
  · have hmk : makeS T s dir = (⟨insN ⟨s, T.nx, dir⟩ T.L, T.nx + 1⟩, T.nx, 0) := by unfold makeS; rw [if_pos h0]
    have hfn := (canS_zero h0).1
    rw [h0] at hcan
    rw [hmk]
    have HTW : Hid (∀ W, Below w.heap.size w W → TreeP W tb mb T) := fun W h => hT.below h
    clear hT hmk hm hn h0
    obtain ⟨hx1, hx2⟩ := hnx
    go_enter Tryd.func8, Tryd.ntmps8
    go_wp2_with fail
    refine hcan.mono ?_
    rintro e w1 ⟨rfl, hB1⟩
    obtain ⟨L, hp, hTA⟩ := HTW.out w1 hB1
    have htb := hTA.lt
    have hmb := hTA.ltm
    have hne := hTA.ne
    have hc0 := hTA.c0
    have hc1 := hTA.c1
    have hf1 := hTA.f1
    obtain ⟨ob, hput⟩ := run_put (P := Tryd.prog) strKey hTA.map Tryd.underlying42 Tryd.underlying9 s (.agg #[.string s, .int .i64 T.nx, .bool dir])
    obtain ⟨X, hX⟩ : ∃ X, X = w1.alloc (.cells #[.string s, .int .i64 T.nx, .bool dir] 47) := ⟨_, rfl⟩
    have hXb : ∀ k, k < w1.heap.size → X.drew.heap[k]? = w1.heap[k]? := fun k hk => by rw [hX]; exact Below.heap_alloc _ _ _ hk
    obtain ⟨p1, p2⟩ := hput X.drew (hXb mb hmb)
    have hXn : X.drew.heap[w1.heap.size]? = some (.cells #[.string s, .int .i64 T.nx, .bool dir] 47 (0, 0)) := by rw [hX]; exact heap_alloc_new _ _
    have hXs : X.drew.heap.size = w1.heap.size + 1 := by rw [hX]; simp
    have hTX : Turn [tb, mb] w1 X.drew := by rw [hX]; exact (Turn.of_below ((Below.refl _ _).alloc (Nat.le_refl _) _)).drewN 1
    -- behind the store
    have q1 : (setBlock X.drew mb ob).heap[tb]? = some (.cells #[.map (some mb), .int .i64 T.nx] 44 (0, 0)) := (heap_setBlock_ne _ _ _ _ hne).trans ((hXb tb htb).trans hTA.cells)
    have q2 : (setBlock X.drew mb ob).heap[w1.heap.size]? = some (.cells #[.string s, .int .i64 T.nx, .bool dir] 47 (0, 0)) := (heap_setBlock_ne _ _ _ _ (by omega)).trans hXn
    have q3 := (hTX.setBlock (r := mb) (.inl (by simp)) ob)
    rw [hX] at p1
    have p1 : (Instr.mapUpdate 42 (.map (some mb)) (.string s) (.agg #[.string s, .int .i64 T.nx, .bool dir])).run Tryd.prog (w1.alloc (.cells #[.string s, .int .i64 T.nx, .bool dir] 47)).drew = .ok () (setBlock (w1.alloc (.cells #[.string s, .int .i64 T.nx, .bool dir] 47)).drew mb ob) := p1
    have HP2 := Lib.hid p2
    have HQ1 := Lib.hid q1
    have HQ2 := Lib.hid q2
    have HQ3 := Lib.hid q3
    have HTA := Lib.hid hTA
    clear hput p2 q1 q2 q3 hXb hXn hXs hTX hTA
    have HX := Lib.hid hX
    clear hX
    go_wp2
    go_region
    all_goals
      rw [← HX.out]
      generalize setBlock X.drew mb ob = W at *
      have c1 : W.cell? ⟨tb, 1, none⟩ = some (.int .i64 T.nx) := by unfold World.cell?; rw [HQ1.out]; rfl
      have c2 : W.frozen? ⟨tb, 1, none⟩ = false := by unfold World.frozen?; rw [HQ1.out]; rfl
      have c3 : W.cell? ⟨w1.heap.size, 1, none⟩ = some (.int .i64 T.nx) := by unfold World.cell?; rw [HQ2.out]; rfl
      have c4 : (W.setCell ⟨tb, 1, none⟩ (.int .i64 (T.nx + 1))).cell? ⟨w1.heap.size, 1, none⟩ = some (.int .i64 T.nx) := by
        rw [World.cell?_setCell_other _ _ _ _ (by intro e; have := congrArg Addr.block e; simp at this; omega)]; exact c3
      go_wp2
      go_ret2
      refine ⟨rfl, ⟨L ++ [⟨s, T.nx, dir⟩], ?_, ⟨?_, ?_⟩⟩, ?_⟩
      · exact (hp.append_right _).trans ((List.perm_append_comm).trans (insN_perm ⟨s, T.nx, dir⟩ T.L).symm)
      · exact heap_setCell_at HQ1.out 1 _
      · refine (show MapIs strKey W mb (ents (L ++ [⟨s, T.nx, dir⟩])) from ?_).of_block (Below.heap_setCell _ _ _ _ (by simpa using Ne.symm hne))
        rw [← mput_new (n := ⟨s, T.nx, dir⟩) (by rw [fnd_perm (ha.perm hp.symm) hp]; exact hfn)]
        exact HP2.out
      · exact (Turn.of_below (bs := [tb, mb]) (hB1)).trans (HQ3.out.setCell (p := ⟨tb, 1, none⟩) (.inl (by simp)) _)
  · have hmk : makeS T s dir = (T, 0, canS T.L s) := by unfold makeS; rw [if_neg h0]
    rw [hmk]
    have HT := Lib.hid hT
    generalize canS T.L s = x at *
    have h1 : (x == 0) = false := by rw [beq_eq_false_iff_ne]; exact h0
    clear hT hmk hm hn h0 ha
    go_enter Tryd.func8, Tryd.ntmps8
    go_wp2_with fail
    refine hcan.mono ?_
    rintro e w1 ⟨rfl, hB1⟩
    go_wp2
    go_ret2
    exact ⟨rfl, HT.out.below hB1, .of_below hB1⟩
end Go.Proofs.YtahdmkmefeocmaaDoor
