/- Walks of the document's Split, Under. -/
import Derived.Test.YtahdmkmefeocmaaGreatDoorMBase
import Derived.Test.YtahdmkmefeocmaaGreatDoorMName
import Derived.RegionTactic
import Derived.BigRegion
import Derived.OwnWalk
import Derived.Laws.AppendOwn
import Derived.IntWalk
import Derived.Below
namespace Go.Proofs.YtahdmkmefeocmaaGreatDoor
open Go.RowKit Go.Lib

/-- The parts behind the first sign. -/
def refOf : List UInt8 → List (List UInt8)
  | [] => []
  | _ :: q => pieces q
theorem refOf_slash (p : List UInt8) : refOf (p ++ [47]) = refOf p ++ [[]] := by
  cases p with
  | nil => rfl
  | cons c q => exact pieces_snoc_slash q
theorem refOf_sign {c : UInt8} (h : c ≠ 47) (p : List UInt8) (hp : p ≠ []) : refOf (p ++ [c]) = (refOf p).dropLast ++ [(refOf p).getLastD [] ++ [c]] := by
  cases p with
  | nil => exact absurd rfl hp
  | cons d q => exact pieces_snoc_sign h q
def refB (s : ByteArray) (k : Nat) : List ByteArray := (refOf (s.data.toList.take k)).map mkB
theorem refB_zero (s : ByteArray) : refB s 0 = [] := rfl
theorem refB_slash {s : ByteArray} {k : Nat} (hk : k < s.size) (h : s[k] = 47) : refB s (k + 1) = refB s k ++ [⟨#[]⟩] := by
  unfold refB
  rw [take_snoc s k hk, h, refOf_slash, List.map_append]; rfl
theorem refB_sign {s : ByteArray} {k : Nat} (hk : k < s.size) (h : s[k] ≠ 47) (h0 : 0 < k) : ∃ x, (refB s k)[(refB s k).length - 1]? = some x ∧ refB s (k + 1) = (refB s k).set ((refB s k).length - 1) (x ++ mkB [s[k]]) := by
  have hne : s.data.toList.take k ≠ [] := by
    intro e
    have := congrArg List.length e
    rw [List.length_take, ← size_eq, List.length_nil] at this
    omega
  have hr : refOf (s.data.toList.take k) ≠ [] := by
    cases hp : s.data.toList.take k with
    | nil => exact absurd hp hne
    | cons c q => exact pieces_ne q
  unfold refB
  rw [take_snoc s k hk, refOf_sign h _ hne]
  generalize refOf (s.data.toList.take k) = R at hr
  obtain ⟨l, a, rfl⟩ : ∃ l a, R = l ++ [a] := ⟨R.dropLast, R.getLast hr, (List.dropLast_concat_getLast hr).symm⟩
  refine ⟨mkB a, by simp, ?_⟩
  simp
  apply bytes_ext; simp
theorem refB_len (s : ByteArray) : ∀ k, (refB s k).length ≤ k
  | 0 => by simp [refB_zero]
  | k + 1 => by
    have ih := refB_len s k
    by_cases hk : k < s.size
    · by_cases h : s[k] = 47
      · rw [refB_slash hk h]; simp; omega
      · by_cases h0 : 0 < k
        · obtain ⟨x, _, e⟩ := refB_sign hk h h0
          rw [e]; simp; omega
        · have : k = 0 := by omega
          subst this
          have h1 : s.data.toList.take (0 + 1) = [s[0]] := by rw [take_snoc s 0 hk]; simp
          unfold refB
          rw [h1]
          simp [refOf, pieces]
    · have : s.data.toList.take (k + 1) = s.data.toList.take k := by
        rw [List.take_of_length_le (by rw [← size_eq]; omega), List.take_of_length_le (by rw [← size_eq]; omega)]
      unfold refB at *
      rw [this]; omega
theorem refB_all {s : ByteArray} (h : s.data.toList = 47 :: s.data.toList.tail) : refB s s.size = partsOf (s.extract 1 s.size) := by
  unfold refB partsOf
  rw [extract_tail, List.take_of_length_le (by rw [size_eq]; exact Nat.le_refl _)]
  conv => lhs; rw [h]
  rfl
theorem refB_size (s : ByteArray) : ∀ k (x : ByteArray), x ∈ refB s k → x.size ≤ k
  | 0, x, h => by simp [refB_zero] at h
  | k + 1, x, h => by
    have ih := refB_size s k
    by_cases hk : k < s.size
    · by_cases h47 : s[k] = 47
      · rw [refB_slash hk h47] at h
        rcases List.mem_append.1 h with h | h
        · have := ih x h; omega
        · simp at h; subst h; simp [ByteArray.size]
      · by_cases h0 : 0 < k
        · obtain ⟨y, hy, e⟩ := refB_sign hk h47 h0
          rw [e] at h
          rcases List.mem_or_eq_of_mem_set h with h | h
          · have := ih x h; omega
          · subst h
            have := ih y (List.mem_of_getElem? hy)
            have e1 : (mkB [s[k]]).size = 1 := rfl
            rw [ByteArray.size_append, e1]; omega
        · have : k = 0 := by omega
          subst this
          have h1 : s.data.toList.take (0 + 1) = [s[0]] := by rw [take_snoc s 0 hk]; simp
          unfold refB at h
          rw [h1] at h
          simp [refOf, pieces] at h
          subst h; simp [ByteArray.size]
    · have : s.data.toList.take (k + 1) = s.data.toList.take k := by
        rw [List.take_of_length_le (by rw [← size_eq]; omega), List.take_of_length_le (by rw [← size_eq]; omega)]
      unfold refB at h ih
      rw [this] at h
      have := ih x h; omega

theorem info_str : (Tryz.prog.info? 9).map (fun i => (i.zero, i.size, i.bytes)) = some (some (.string ByteArray.empty), 1, 16) := by kernel_rfl
end Go.Proofs.YtahdmkmefeocmaaGreatDoor
