/- Paths in plain Lean: pieces of a text at '/', a path's parts, joined, one under another. -/
import Derived.Lib.SplitLaws
import Derived.Lib.Join
import Derived.Lib.Strings
namespace Go.Proofs.YtahdmkmefeocmaaDoor
open Go.Lib

/-- The pieces between the slashes. -/
def pieces : List UInt8 → List (List UInt8)
  | [] => [[]]
  | c :: t => if c = 47 then [] :: pieces t else (c :: (pieces t).headD []) :: (pieces t).tail

theorem pieces_ne (t : List UInt8) : pieces t ≠ [] := by
  cases t with
  | nil => simp [pieces]
  | cons c t => unfold pieces; split <;> simp
theorem pieces_slash (t : List UInt8) : pieces (47 :: t) = [] :: pieces t := by simp [pieces]
theorem pieces_sign {c : UInt8} (h : c ≠ 47) (t : List UInt8) : pieces (c :: t) = (c :: (pieces t).headD []) :: (pieces t).tail := by simp [pieces, h]

theorem index_one_hit (t : List UInt8) : index (47 :: t) [47] = 0 := by rw [index]; simp [List.isPrefixOf]
theorem index_one_miss {c : UInt8} (h : c ≠ 47) (t : List UInt8) : index (c :: t) [47] = if index t [47] == -1 then -1 else index t [47] + 1 := by
  have hp : ([47] : List UInt8).isPrefixOf (c :: t) = false := by simp [List.isPrefixOf, Ne.symm h]
  rw [index, hp]; simp

theorem splitK_miss {sep : List UInt8} {s : List UInt8} (k : Nat) (h : index s sep = -1) : splitK sep 0 k s = [s] := by
  cases k with
  | zero => rfl
  | succ k => unfold splitK; rw [if_pos (beq_iff_eq.2 h)]
theorem splitK_hit {sep : List UInt8} {s : List UInt8} (k i : Nat) (h : index s sep = i) : splitK sep 0 (k + 1) s = s.take i :: splitK sep 0 k (s.drop (i + sep.length)) := by
  have hm : ¬ (index s sep == -1) = true := fun e => by have := beq_iff_eq.1 e; omega
  have e : (index s sep).toNat = i := by omega
  rw [splitK, if_neg hm, e]; rfl

theorem split_pieces (s : List UInt8) : splitK [47] 0 (count s [47]) s = pieces s := by
  induction s with
  | nil => rw [splitK_miss _ (by simp [index])]; rfl
  | cons c t ih =>
    by_cases h : c = 47
    · subst h
      rw [count_cons_eq, pieces_slash, Nat.add_comm, splitK_hit _ 0 (by simpa using index_one_hit t), List.take_zero]
      simpa using ih
    · rw [count_cons_ne c 47 t h, pieces_sign h]
      by_cases hm : index t [47] = -1
      · have e1 : index (c :: t) [47] = -1 := by rw [index_one_miss h, if_pos (beq_iff_eq.2 hm)]
        rw [splitK_miss _ e1]
        rw [splitK_miss _ hm] at ih
        rw [← ih]; rfl
      · have hge := index_ge t [47]
        obtain ⟨j, hj⟩ : ∃ j : Nat, index t [47] = j := ⟨(index t [47]).toNat, by omega⟩
        have e1 : index (c :: t) [47] = ((j + 1 : Nat) : Int) := by rw [index_one_miss h, if_neg (fun e => hm (beq_iff_eq.1 e)), hj]; omega
        rw [count_hit (by simp) hj, Nat.add_comm] at ih ⊢
        rw [splitK_hit _ _ e1]
        rw [splitK_hit _ _ hj] at ih
        rw [← ih]
        simp

/-- What strings.Split gives, as lists. -/
theorem splitB_pieces (s : ByteArray) : (splitB ⟨#[47]⟩ 0 (countB s ⟨#[47]⟩) s).map (·.data.toList) = pieces s.data.toList := by
  rw [splitB_data]; exact split_pieces _

/-- The pieces of a text one sign longer. -/
theorem pieces_snoc_slash (t : List UInt8) : pieces (t ++ [47]) = pieces t ++ [[]] := by
  induction t with
  | nil => rfl
  | cons c t ih =>
    by_cases h : c = 47
    · subst h; rw [List.cons_append, pieces_slash, pieces_slash, ih]; rfl
    · rw [List.cons_append, pieces_sign h, pieces_sign h, ih]
      have hn := pieces_ne t
      cases hp : pieces t with
      | nil => exact absurd hp hn
      | cons a r => rfl
theorem pieces_snoc_sign {c : UInt8} (h : c ≠ 47) (t : List UInt8) : pieces (t ++ [c]) = (pieces t).dropLast ++ [(pieces t).getLastD [] ++ [c]] := by
  induction t with
  | nil => simp [pieces, h]
  | cons d t ih =>
    have hn := pieces_ne t
    by_cases h' : d = 47
    · subst h'; rw [List.cons_append, pieces_slash, pieces_slash, ih]
      cases hp : pieces t with
      | nil => exact absurd hp hn
      | cons a r => simp [List.dropLast, List.getLastD]
    · rw [List.cons_append, pieces_sign h', pieces_sign h', ih]
      cases hp : pieces t with
      | nil => exact absurd hp hn
      | cons a r =>
        cases r with
        | nil => simp
        | cons b r => simp [List.dropLast, List.getLastD]

/-- Joined again. -/
theorem join_pieces (t : List UInt8) : join (pieces t) [47] = t := by
  induction t with
  | nil => rfl
  | cons c t ih =>
    have hn := pieces_ne t
    cases hp : pieces t with
    | nil => exact absurd hp hn
    | cons a r =>
      rw [hp, join_cons] at ih
      by_cases h : c = 47
      · subst h
        rw [pieces_slash, hp, join_cons]
        simp [joinTail] at ih ⊢
        exact ih
      · rw [pieces_sign h, hp, join_cons]
        simp at ih ⊢
        exact ih
theorem pieces_plain {a : List UInt8} (h : (47 : UInt8) ∉ a) : pieces a = [a] := by
  induction a with
  | nil => rfl
  | cons c t ih =>
    have h1 : c ≠ 47 := fun e => h (by simp [e])
    rw [pieces_sign h1, ih (fun e => h (by simp [e]))]; rfl
theorem pieces_slash_mid {a : List UInt8} (h : (47 : UInt8) ∉ a) (t : List UInt8) : pieces (a ++ 47 :: t) = a :: pieces t := by
  induction a with
  | nil => exact pieces_slash t
  | cons c a ih =>
    have h1 : c ≠ 47 := fun e => h (by simp [e])
    rw [List.cons_append, pieces_sign h1, ih (fun e => h (by simp [e]))]; rfl
theorem pieces_join : ∀ (a : List UInt8) (r : List (List UInt8)), (∀ x ∈ a :: r, (47 : UInt8) ∉ x) → pieces (join (a :: r) [47]) = a :: r
  | a, [], h => by rw [join_one]; exact pieces_plain (h a (by simp))
  | a, b :: r, h => by
    have ih := pieces_join b r (fun x hx => h x (List.mem_cons_of_mem _ hx))
    have e : join (a :: b :: r) [47] = a ++ 47 :: join (b :: r) [47] := by
      rw [join_cons, join_cons]; simp [joinTail]
    rw [e, pieces_slash_mid (h a (by simp)), ih]
end Go.Proofs.YtahdmkmefeocmaaDoor
