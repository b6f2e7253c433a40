/- Trees in plain Lean: what lies under a path, and where it moves. -/
import Derived.Test.YtahdmkmefeocmaaGreatDoorMTreeW5
namespace Go.Proofs.YtahdmkmefeocmaaGreatDoor
open Go.Lib

theorem psplit_of_mem {T : TS} (h : TInv T) {n : Nd} (hn : n ∈ T.L) : ∃ Z, psplit n.path = some Z ∧ Z ≠ [] := by
  obtain ⟨Z, h1, h2, _⟩ := h.path n hn
  exact ⟨Z, h1, h2⟩
theorem path_size {T : TS} (h : TInv T) : ∀ n ∈ T.L, n.path.size ≤ 64 := fun n hn => by
  obtain ⟨Z, h1, _⟩ := psplit_of_mem h hn
  have h2 := psplit_ok h1
  rw [← h2.2]
  exact h2.1.short
theorem root_split {s : ByteArray} {P : List ByteArray} (h : psplit s = some P) : decide (s = rootP) = P.isEmpty := by
  rw [Bool.eq_iff_iff, decide_eq_true_eq, List.isEmpty_iff]
  constructor
  · intro e
    have h2 : psplit rootP = some [] := by unfold psplit; rw [if_pos (by rw [toList_data]; decide)]
    rw [e, h2] at h
    exact (Option.some.inj h).symm
  · intro e
    rw [← (psplit_ok h).2, e, pjoin_nil]; rfl
/-- Under: it begins with the path and a slash. -/
theorem pre_under {s p : ByteArray} {X Z : List ByteArray} (hs : psplit s = some X) (hX : X ≠ []) (hp : psplit p = some Z) : hasPrefix p.data.toList (s.data.toList ++ [47]) = punder p s := by
  have h1 := psplit_ok hs
  have h2 := psplit_ok hp
  have := under_prefix hX h1.1.names h2.1.names
  rw [h1.2, h2.2] at this
  rw [this]
  unfold punder
  rw [hs, hp]
theorem preB_under {T : TS} (h : TInv T) {s : ByteArray} {X : List ByteArray} (hs : psplit s = some X) (hX : X ≠ []) {n : Nd} (hn : n ∈ T.L) : preB s n = punder n.path s := by
  obtain ⟨Z, h1, _⟩ := psplit_of_mem h hn
  exact pre_under hs hX h1
theorem under_split {p s : ByteArray} {Z X : List ByteArray} (hp : psplit p = some Z) (hs : psplit s = some X) (h : punder p s = true) : X.length < Z.length ∧ Z.take X.length = X := by
  unfold punder at h
  rw [hp, hs] at h
  simpa using h
/-- Where it moves. -/
theorem movedRaw_eq {src dst p : ByteArray} {X Y Z : List ByteArray} (hs : psplit src = some X) (hX : X ≠ []) (hd : psplit dst = some Y) (hY : Y ≠ []) (hp : psplit p = some Z) (ht : Z.take X.length = X) : movedRaw src dst p = newPath src dst p := by
  apply bytes_ext
  have h1 := (psplit_ok hs).2
  have h2 := (psplit_ok hd).2
  have h3 := (psplit_ok hp).2
  have hZ : Z = X ++ Z.drop X.length := by conv => lhs; rw [← List.take_append_drop X.length Z, ht]
  unfold movedRaw newPath partsN
  rw [hs, hd, hp]
  simp only [Option.getD_some]
  have h4 := pjoin_move (X := X) (Y := Y) (W := Z.drop X.length) hX hY
  rw [← hZ, h1, h2, h3] at h4
  rw [← h4, ByteArray.data_append, Array.toList_append, extract_to_end]
theorem newPath_self {src dst : ByteArray} {X Y : List ByteArray} (hs : psplit src = some X) (hd : psplit dst = some Y) : newPath src dst src = dst := by
  unfold newPath partsN
  rw [hs, hd]
  simp only [Option.getD_some, List.drop_length, List.append_nil]
  exact (psplit_ok hd).2
/-- Has anything in it no place? -/
theorem deep_moves {T : TS} (h : TInv T) {src dst : ByteArray} {X Y : List ByteArray} (hs : psplit src = some X) (hX : X ≠ []) (hd : psplit dst = some Y) (hY : Y ≠ []) :
    deepB src dst T.L = (T.L.filter (movesN src)).any (fun n => (psplit (newPath src dst n.path)).isNone) := by
  unfold deepB
  rw [Bool.eq_iff_iff, List.any_eq_true, List.any_eq_true]
  constructor
  · rintro ⟨n, hn, hx⟩
    obtain ⟨h1, h2⟩ := List.mem_filter.1 hn
    obtain ⟨Z, hz, _⟩ := psplit_of_mem h h1
    rw [preB_under h hs hX h1] at h2
    rw [movedRaw_eq hs hX hd hY hz (under_split hz hs h2).2] at hx
    exact ⟨n, List.mem_filter.2 ⟨h1, by unfold movesN; rw [h2, Bool.or_true]⟩, hx⟩
  · rintro ⟨n, hn, hx⟩
    obtain ⟨h1, h2⟩ := List.mem_filter.1 hn
    obtain ⟨Z, hz, _⟩ := psplit_of_mem h h1
    unfold movesN at h2
    by_cases he : n.path = src
    · rw [he, newPath_self hs hd, hd] at hx; cases hx
    · have h3 : punder n.path src = true := by simpa [he] using h2
      rw [← movedRaw_eq hs hX hd hY hz (under_split hz hs h3).2] at hx
      exact ⟨n, List.mem_filter.2 ⟨h1, by rw [preB_under h hs hX h1]; exact h3⟩, hx⟩
end Go.Proofs.YtahdmkmefeocmaaGreatDoor
