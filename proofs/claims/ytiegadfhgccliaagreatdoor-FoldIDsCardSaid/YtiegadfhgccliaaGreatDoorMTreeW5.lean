/- Trees in plain Lean: what lies under a path, and where it moves. -/
import Derived.Test.YtiegadfhgccliaaGreatDoorMTreeW
namespace Go.Proofs.YtiegadfhgccliaaGreatDoor
open Go.RowKit Go.Lib
open Go.ChangeMaps (setBlock)

/-- The path that a node would have. -/
def movedRaw (src dst p : ByteArray) : ByteArray := dst ++ p.extract src.size p.size
def deepB (src dst : ByteArray) (L : List Nd) : Bool := (L.filter (preB src)).any fun n => (psplit (movedRaw src dst n.path)).isNone
theorem preB_size {s : ByteArray} {n : Nd} (h : preB s n = true) : s.size < n.path.size := by
  unfold preB hasPrefix at h
  have := (List.isPrefixOf_iff_prefix.1 h).length_le
  rw [List.length_append, ← size_eq, ← size_eq, List.length_singleton] at this
  omega
theorem any_perm {α : Type} {l l' : List α} (h : l.Perm l') (p : α → Bool) : l.any p = l'.any p := by
  rw [Bool.eq_iff_iff, List.any_eq_true, List.any_eq_true]
  exact ⟨fun ⟨x, hx, hp⟩ => ⟨x, h.mem_iff.1 hx, hp⟩, fun ⟨x, hx, hp⟩ => ⟨x, h.mem_iff.2 hx, hp⟩⟩

set_option maxRecDepth 100000 in
set_option maxHeartbeats 4000000 in
theorem tree_deep (src dst : ByteArray) (w : World) (hs : src.size ≤ 100000) (hd : dst.size ≤ 100000) {tb mb : Nat} {T : TS} (hT : TreeP w tb mb T) (hm : MLen w) (hn : T.L.length ≤ 1000000) (hps : ∀ n ∈ T.L, n.path.size ≤ 1000) :
    Calls Tryz.prog 72 #[.pointer (some ⟨tb, 0, none⟩), .string src, .string dst] w fun e w' => e = .returned (.bool (deepB src dst T.L)) ∧ Below w.heap.size w w' := by
  have hund := tree_under src w hs hT hn (fun n h => by have := hps n h; unfold maxLen; omega)
  have HM : Hid (∀ W, Below w.heap.size w W → MLen W) := fun W h => hm.below h
  have HPs := Lib.hid hps
  clear hT hm hps
  go_enter Tryz.func72, Tryz.ntmps72
  go_wp2_with fail
  refine hund.mono ?_
  rintro e w1 ⟨U, v, rfl, hp, hO, hB1⟩
  obtain ⟨a, c, rfl, hc, hS⟩ := SlN.own hO
  have hUl : U.length ≤ 1000000 := by
    have h1 := hp.length_eq
    have h2 := List.length_filter_le (preB src) T.L
    omega
  have HB1 := Lib.hid hB1
  have HP := Lib.hid hp
  clear hB1 hp hO
  go_wp2
  go_loopw [15] (fun i wr => ∃ (k : Nat), k ≤ U.length ∧ i = .int .i64 (k : Int) ∧ Hid (Below w1.heap.size w1 wr) ∧ Hid (∀ j, j < k → (psplit (movedRaw src dst (U.getD j default).path)).isNone = false)) (fun i _ => U.length - (intOf i).toNat)
  case atStart => exact ⟨0, by omega, rfl, Lib.hid (Below.refl _ _), fun j hj => by omega⟩
  case round =>
    obtain ⟨k, hk, rfl, HB, HF⟩ := hrel
    by_cases hlt : k < U.length
    · obtain ⟨b, o, rfl, c0, c1, c2, hbl⟩ := (hS.below HB.out).at_ hlt
      have hki : (k : Int) < (U.length : Int) := by omega
      have hmem : U.getD k default ∈ T.L.filter (preB src) := HP.out.mem_iff.1 (by simp [List.getD, hlt])
      have hpre := preB_size (List.mem_filter.1 hmem).2
      have hpsz := HPs.out _ (List.mem_filter.1 hmem).1
      have HMem := Lib.hid hmem
      generalize hnd : U.getD k default = n at *
      obtain ⟨np, ni, nd⟩ := n
      dsimp only at c0 c1 c2 hpre hpsz
      have HNd := Lib.hid hnd
      have hsz : (np.extract src.size np.size).size ≤ 1000 := by rw [ByteArray.size_extract]; omega
      have hcat : ¬ 9223372036854775807 < dst.size + (np.extract src.size np.size).size := by omega
      have hraw : Hid (movedRaw src dst np = dst ++ np.extract src.size np.size) := rfl
      have hrs : (dst ++ np.extract src.size np.size).size ≤ maxLen := by rw [ByteArray.size_append]; unfold maxLen; omega
      have hle : src.size ≤ np.size := by omega
      clear hmem hnd
      generalize hX : np.extract src.size np.size = X at *
      have HX := Lib.hid hX
      have HSp : Hid (∀ W, Below w1.heap.size w1 W → Calls Tryz.prog 70 #[.string (dst ++ X)] W (SplitAns W (dst ++ X))) := fun W h => path_split _ W hrs (HM.out W (blw HB1.out h))
      clear hrs
      cases hps : psplit (dst ++ X) with
      | none =>
        have HS2 := Lib.hid hps
        have hfin : Hid (deepB src dst T.L = true) := Lib.hid (by
          unfold deepB
          rw [List.any_eq_true]
          exact ⟨_, HMem.out, by show (psplit (movedRaw src dst np)).isNone = true; rw [hraw.out, hps]; rfl⟩)
        clear hps
        go_wp2_with fail
        refine (HSp.out _ (HB.out.alloc HB.out.size _)).mono ?_
        intro e w3 hr
        obtain ⟨rfl, hB3⟩ := splitAns_none HS2.out hr
        clear hr
        go_wp2_with fail
        go_ret
        exact ⟨by rw [hfin.out]; rfl, blw HB1.out (blw (HB.out.alloc HB.out.size _) hB3)⟩
      | some Q =>
        have HS2 := Lib.hid hps
        have hfin : Hid ((psplit (movedRaw src dst np)).isNone = false) := Lib.hid (by rw [hraw.out, hps]; rfl)
        clear hps
        go_wp2_with fail
        refine (HSp.out _ (HB.out.alloc HB.out.size _)).mono ?_
        intro e w3 hr
        obtain ⟨a3, c3, rfl, _, _, hB3⟩ := splitAns_some HS2.out hr
        clear hr
        go_wp2_with fail
        refine ⟨⟨k + 1, by omega, by go_num, Lib.hid (blw (HB.out.alloc HB.out.size _) hB3), ?_⟩, by simp [intOf]; omega⟩
        intro j hj
        by_cases e : j = k
        · subst e; rw [HNd.out]; exact hfin.out
        · exact HF.out j (by omega)
    · obtain rfl : k = U.length := by omega
      have hfin : Hid (deepB src dst T.L = false) := Lib.hid (by
        unfold deepB
        rw [← any_perm HP.out, List.any_eq_false]
        intro n hn
        obtain ⟨j, hj, rfl⟩ := List.getElem_of_mem hn
        have e : U[j] = U.getD j default := by simp [List.getD, hj]
        rw [e, HF.out j hj]
        decide)
      have hlt' : decide ((U.length : Int) < (U.length : Int)) = false := by simp
      clear hlt HF
      go_wp2
      go_ret
      exact ⟨by rw [hfin.out]; rfl, blw HB1.out HB.out⟩
end Go.Proofs.YtiegadfhgccliaaGreatDoor
namespace Go.Proofs.YtiegadfhgccliaaGreatDoor
open Go.Lib

theorem psplit_of_mem {T : TS} (h : TInv T) {n : Nd} (hn : n ∈ T.L) : ∃ Z, psplit n.path = some Z ∧ Z ≠ [] := by
  obtain ⟨Z, h1, h2, _⟩ := h.path n hn
  exact ⟨Z, h1, h2⟩
theorem path_size {T : TS} (h : TInv T) : ∀ n ∈ T.L, n.path.size ≤ 64 := fun n hn => by
  obtain ⟨Z, h1, _⟩ := psplit_of_mem h hn
  have h2 := psplit_ok h1
  rw [← h2.2]
  exact h2.1.short
theorem root_split {s : ByteArray} {P : List ByteArray} (h : psplit s = some P) : decide (s = rootP) = P.isEmpty := by
  rw [Bool.eq_iff_iff, decide_eq_true_eq, List.isEmpty_iff]
  constructor
  · intro e
    have h2 : psplit rootP = some [] := by unfold psplit; rw [if_pos (by rw [toList_data]; decide)]
    rw [e, h2] at h
    exact (Option.some.inj h).symm
  · intro e
    rw [← (psplit_ok h).2, e, pjoin_nil]; rfl
/-- Under: it begins with the path and a slash. -/
theorem pre_under {s p : ByteArray} {X Z : List ByteArray} (hs : psplit s = some X) (hX : X ≠ []) (hp : psplit p = some Z) : hasPrefix p.data.toList (s.data.toList ++ [47]) = punder p s := by
  have h1 := psplit_ok hs
  have h2 := psplit_ok hp
  have := under_prefix hX h1.1.names h2.1.names
  rw [h1.2, h2.2] at this
  rw [this]
  unfold punder
  rw [hs, hp]
theorem preB_under {T : TS} (h : TInv T) {s : ByteArray} {X : List ByteArray} (hs : psplit s = some X) (hX : X ≠ []) {n : Nd} (hn : n ∈ T.L) : preB s n = punder n.path s := by
  obtain ⟨Z, h1, _⟩ := psplit_of_mem h hn
  exact pre_under hs hX h1
theorem under_split {p s : ByteArray} {Z X : List ByteArray} (hp : psplit p = some Z) (hs : psplit s = some X) (h : punder p s = true) : X.length < Z.length ∧ Z.take X.length = X := by
  unfold punder at h
  rw [hp, hs] at h
  simpa using h
/-- Where it moves. -/
theorem movedRaw_eq {src dst p : ByteArray} {X Y Z : List ByteArray} (hs : psplit src = some X) (hX : X ≠ []) (hd : psplit dst = some Y) (hY : Y ≠ []) (hp : psplit p = some Z) (ht : Z.take X.length = X) : movedRaw src dst p = newPath src dst p := by
  apply bytes_ext
  have h1 := (psplit_ok hs).2
  have h2 := (psplit_ok hd).2
  have h3 := (psplit_ok hp).2
  have hZ : Z = X ++ Z.drop X.length := by conv => lhs; rw [← List.take_append_drop X.length Z, ht]
  unfold movedRaw newPath partsN
  rw [hs, hd, hp]
  simp only [Option.getD_some]
  have h4 := pjoin_move (X := X) (Y := Y) (W := Z.drop X.length) hX hY
  rw [← hZ, h1, h2, h3] at h4
  rw [← h4, ByteArray.data_append, Array.toList_append, extract_to_end]
theorem newPath_self {src dst : ByteArray} {X Y : List ByteArray} (hs : psplit src = some X) (hd : psplit dst = some Y) : newPath src dst src = dst := by
  unfold newPath partsN
  rw [hs, hd]
  simp only [Option.getD_some, List.drop_length, List.append_nil]
  exact (psplit_ok hd).2
/-- Has anything in it no place? -/
theorem deep_moves {T : TS} (h : TInv T) {src dst : ByteArray} {X Y : List ByteArray} (hs : psplit src = some X) (hX : X ≠ []) (hd : psplit dst = some Y) (hY : Y ≠ []) :
    deepB src dst T.L = (T.L.filter (movesN src)).any (fun n => (psplit (newPath src dst n.path)).isNone) := by
  unfold deepB
  rw [Bool.eq_iff_iff, List.any_eq_true, List.any_eq_true]
  constructor
  · rintro ⟨n, hn, hx⟩
    obtain ⟨h1, h2⟩ := List.mem_filter.1 hn
    obtain ⟨Z, hz, _⟩ := psplit_of_mem h h1
    rw [preB_under h hs hX h1] at h2
    rw [movedRaw_eq hs hX hd hY hz (under_split hz hs h2).2] at hx
    exact ⟨n, List.mem_filter.2 ⟨h1, by unfold movesN; rw [h2, Bool.or_true]⟩, hx⟩
  · rintro ⟨n, hn, hx⟩
    obtain ⟨h1, h2⟩ := List.mem_filter.1 hn
    obtain ⟨Z, hz, _⟩ := psplit_of_mem h h1
    unfold movesN at h2
    by_cases he : n.path = src
    · rw [he, newPath_self hs hd, hd] at hx; cases hx
    · have h3 : punder n.path src = true := by simpa [he] using h2
      rw [← movedRaw_eq hs hX hd hY hz (under_split hz hs h3).2] at hx
      exact ⟨n, List.mem_filter.2 ⟨h1, by rw [preB_under h hs hX h1]; exact h3⟩, hx⟩
end Go.Proofs.YtiegadfhgccliaaGreatDoor
