/- Trees in plain Lean: the names in a directory. -/
import Derived.Test.YtahdmkmefeocmaaGreatDoorMTreeP
import Derived.Lib.IndexAny
namespace Go.Proofs.YtahdmkmefeocmaaGreatDoor
open Go.Lib
set_option linter.unusedVariables false

def aheadB (s : ByteArray) : ByteArray := ⟨(trimSuffix s.data.toList [47]).toArray⟩ ++ ⟨#[47]⟩
def restB (a p : ByteArray) : ByteArray := ⟨(trimPrefix p.data.toList a.data.toList).toArray⟩
def inB (a p : ByteArray) : Bool := hasPrefix p.data.toList a.data.toList && !decide (0 ≤ indexByte (restB a p).data.toList 47)
theorem ahead_of {s : ByteArray} {X : List ByteArray} (hs : psplit s = some X) : (aheadB s).data.toList = joinTail [47] (raws X) ++ [47] := by
  have h1 := psplit_ok hs
  unfold aheadB
  rw [ByteArray.data_append, Array.toList_append]
  congr 1
  by_cases hX : X = []
  · subst hX
    rw [← h1.2, pjoin_nil]
    decide
  · have e : s.data.toList = joinTail [47] (raws X) := by rw [← h1.2, pjoin_tail hX]
    have hno : hasSuffix s.data.toList [47] = false := by
      cases h : hasSuffix s.data.toList [47]
      · rfl
      · exfalso
        unfold hasSuffix at h
        rw [List.isSuffixOf_iff_suffix] at h
        obtain ⟨t, ht⟩ := h
        have hx : X = X.dropLast ++ [X.getLast hX] := (List.dropLast_concat_getLast hX).symm
        have hn := h1.1.names _ (List.getLast_mem hX)
        have hp := nameOk_plain hn
        have hz := (nameOk_size hn).1
        rw [size_eq] at hz
        rw [e, hx, raws_append, joinTail_append] at ht
        have e2 : joinTail [47] (raws [X.getLast hX]) = 47 :: (X.getLast hX).data.toList := by simp [joinTail, raws]
        rw [e2] at ht
        have hl : ((X.getLast hX).data.toList) ≠ [] := by intro e3; rw [e3] at hz; simp at hz
        have h3 := congrArg List.getLast? ht
        rw [List.getLast?_append, List.getLast?_append] at h3
        simp only [List.getLast?_singleton, Option.some_or] at h3
        rw [List.getLast?_cons, List.getLast?_eq_some_getLast hl] at h3
        simp only [Option.getD_some, Option.some_or, Option.some.injEq] at h3
        exact hp (by rw [h3]; exact List.getLast_mem hl)
    show (trimSuffix s.data.toList [47]).toArray.toList = _
    unfold trimSuffix
    rw [hno]
    simp [e]
theorem ahead_prefix {s p : ByteArray} {X Z : List ByteArray} (hs : psplit s = some X) (hp : psplit p = some Z) (hZ : Z ≠ []) :
    hasPrefix p.data.toList (aheadB s).data.toList = (decide (X.length < Z.length) && decide (Z.take X.length = X)) := by
  have h1 := psplit_ok hs
  have h2 := psplit_ok hp
  rw [ahead_of hs]
  by_cases hX : X = []
  · subst hX
    obtain ⟨y, r, rfl⟩ : ∃ y r, Z = y :: r := by
      cases Z with
      | nil => exact absurd rfl hZ
      | cons y r => exact ⟨y, r, rfl⟩
    rw [← h2.2, pjoin_tail hZ]
    simp [hasPrefix, joinTail, raws, List.isPrefixOf]
  · rw [← under_prefix hX h1.1.names h2.1.names, h2.2, pjoin_tail hX]
/-- A path is handed out just if it lies in the directory: its last part. -/
theorem in_of {s p : ByteArray} {X Z : List ByteArray} (hs : psplit s = some X) (hp : psplit p = some Z) (hZ : Z ≠ []) :
    inB (aheadB s) p = decide (pjoin Z.dropLast = s) ∧ (inB (aheadB s) p = true → restB (aheadB s) p = Z.getLastD default ∧ p.data.toList = (aheadB s).data.toList ++ (restB (aheadB s) p).data.toList) := by
  have h1 := psplit_ok hs
  have h2 := psplit_ok hp
  have hd : decide (pjoin Z.dropLast = s) = decide (Z.dropLast = X) := by
    rw [Bool.eq_iff_iff, decide_eq_true_eq, decide_eq_true_eq]
    exact ⟨fun e => pjoin_inj h2.1.dropLast h1.1 (e.trans h1.2.symm), fun e => by rw [e, h1.2]⟩
  have hpre := ahead_prefix hs hp hZ
  rw [hd]
  unfold inB
  cases hb : hasPrefix p.data.toList (aheadB s).data.toList
  · rw [Bool.false_and]
    refine ⟨?_, fun e => by cases e⟩
    rw [hb] at hpre
    symm
    rw [decide_eq_false_iff_not]
    intro e
    have hl : Z.dropLast.length = X.length := by rw [e]
    have hz := List.length_pos_iff.2 hZ
    rw [List.length_dropLast] at hl
    have : (decide (X.length < Z.length) && decide (Z.take X.length = X)) = true := by
      rw [Bool.and_eq_true, decide_eq_true_eq, decide_eq_true_eq]
      refine ⟨by omega, ?_⟩
      rw [← hl, ← List.dropLast_eq_take]; exact e
    rw [← hpre] at this; cases this
  · rw [hb] at hpre
    have h3 := hpre.symm
    rw [Bool.and_eq_true, decide_eq_true_eq, decide_eq_true_eq] at h3
    obtain ⟨h3, h4⟩ := h3
    obtain ⟨z, W, hW⟩ : ∃ z W, Z.drop X.length = z :: W := by
      cases h : Z.drop X.length with
      | nil => have := congrArg List.length h; rw [List.length_drop] at this; simp at this; omega
      | cons z W => exact ⟨z, W, rfl⟩
    have hZe : Z = X ++ z :: W := by rw [← hW, ← h4]; simp [List.length_take]; rw [Nat.min_eq_left (by omega)]; exact (List.take_append_drop _ _).symm
    have hraw : p.data.toList = (aheadB s).data.toList ++ (z.data.toList ++ joinTail [47] (raws W)) := by
      rw [← h2.2, pjoin_tail hZ, hZe, raws_append, joinTail_append, ahead_of hs]
      simp [joinTail, raws]
    have hrest : (restB (aheadB s) p).data.toList = z.data.toList ++ joinTail [47] (raws W) := by
      show (trimPrefix p.data.toList (aheadB s).data.toList).toArray.toList = _
      unfold trimPrefix
      rw [hb, hraw]
      simp
    have hpl : (47 : UInt8) ∉ z.data.toList := nameOk_plain (h2.1.names z (by rw [hZe]; simp))
    rw [Bool.true_and, ← contains_iff_indexByte, hrest]
    cases W with
    | nil =>
      have e1 : z.data.toList ++ joinTail [47] (raws []) = z.data.toList := by simp [joinTail, raws]
      rw [e1]
      have e2 : z.data.toList.contains 47 = false := by simpa using hpl
      have e3 : Z.dropLast = X := by rw [hZe]; simp
      rw [e2, e3]
      refine ⟨by simp, fun _ => ⟨bytes_ext ?_, ?_⟩⟩
      · rw [hrest, e1, hZe]; simp
      · rw [hraw, e1]
    | cons y W =>
      have e2 : (z.data.toList ++ joinTail [47] (raws (y :: W))).contains 47 = true := by simp [joinTail, raws]
      have e3 : Z.dropLast ≠ X := by
        intro e
        have := congrArg List.length e
        rw [List.length_dropLast, hZe] at this
        simp at this
      rw [e2]
      refine ⟨by simp [e3], fun e => by cases e⟩

/-- What the loop gathers, sorted: the names in the directory. -/
theorem append_lt {a b c : List UInt8} (h : a ++ b < a ++ c) : b < c := by
  induction a with
  | nil => exact h
  | cons x a ih =>
    rw [List.cons_append, List.cons_append, List.cons_lt_cons_iff] at h
    rcases h with h | h
    · exact absurd h (by simp)
    · exact ih h.2
def sortB (L : List ByteArray) : List ByteArray := ((L.map (·.data.toList)).mergeSort fun x y => decide (x ≤ y)).map mkB
theorem sort_uniq {L M : List ByteArray} (hp : L.Perm M) (hM : M.Pairwise fun a b => ltB a b = true) : sortB L = M := by
  unfold sortB
  have h1 : ((L.map (·.data.toList)).mergeSort fun x y => decide (x ≤ y)) = raws M := by
    refine List.Perm.eq_of_pairwise (le := fun a b : List UInt8 => a ≤ b) (fun a b _ _ => List.le_antisymm) ?_ ?_ ?_
    · have := List.pairwise_mergeSort (le := fun x y : List UInt8 => decide (x ≤ y)) (fun a b c h1 h2 => by simp at h1 h2 ⊢; exact List.le_trans h1 h2) (fun a b => by simp; exact List.le_total a b) (L.map (·.data.toList))
      exact this.imp fun h => by simpa using h
    · refine List.pairwise_map.2 (hM.imp fun {a b} h => ?_)
      unfold ltB at h
      exact List.le_of_lt (by simpa using h)
    · exact (List.mergeSort_perm _ _).trans (hp.map _)
  rw [h1]
  unfold raws
  rw [List.map_map]
  conv => rhs; rw [← List.map_id M]
  exact List.map_congr_left fun x _ => mkB_of x
/-- The rows that List gathers. -/
def gotB (a : ByteArray) (L : List Nd) : List ByteArray := (L.filter fun n => inB a n.path).map fun n => restB a n.path
theorem list_sorted {T : TS} (h : TInv T) {s : ByteArray} {X : List ByteArray} (hs : psplit s = some X) {N : List ByteArray} {L : List Nd} (hL : L.Perm T.L) (hN : N.Perm (gotB (aheadB s) L)) : sortB N = listS T.L s := by
  have hz : ∀ n ∈ T.L, inB (aheadB s) n.path = decide (pjoin (partsN n.path).dropLast = s) ∧ (inB (aheadB s) n.path = true → restB (aheadB s) n.path = (partsN n.path).getLastD default ∧ n.path.data.toList = (aheadB s).data.toList ++ (restB (aheadB s) n.path).data.toList) := fun n hn => by
    obtain ⟨Z, h1, h2⟩ := psplit_of_mem h hn
    have := in_of hs h1 h2
    unfold partsN
    rw [h1]
    exact this
  have e : listS T.L s = gotB (aheadB s) T.L := by
    unfold listS gotB
    rw [List.filter_congr (q := fun n => inB (aheadB s) n.path) fun n hn => (hz n hn).1.symm]
    refine List.map_congr_left fun n hn => ?_
    obtain ⟨h1, h2⟩ := List.mem_filter.1 hn
    exact ((hz n h1).2 h2).1.symm
  refine sort_uniq (hN.trans ?_) ?_
  · rw [e]
    exact (hL.filter _).map _
  · rw [e]
    unfold gotB
    refine List.pairwise_map.2 ?_
    refine (h.rises.filter fun n => inB (aheadB s) n.path).imp_of_mem fun {a b} ha hb hlt => ?_
    obtain ⟨a1, a2⟩ := List.mem_filter.1 ha
    obtain ⟨b1, b2⟩ := List.mem_filter.1 hb
    unfold ltB at hlt ⊢
    rw [((hz a a1).2 a2).2, ((hz b b1).2 b2).2, decide_eq_true_eq] at hlt
    rw [decide_eq_true_eq]
    exact append_lt hlt
end Go.Proofs.YtahdmkmefeocmaaGreatDoor
