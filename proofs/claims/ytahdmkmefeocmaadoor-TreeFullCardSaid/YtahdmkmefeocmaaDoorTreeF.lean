/- TreeFull in plain Lean: nodes at the root, as many as may be. -/
import Derived.Test.YtahdmkmefeocmaaDoorTreeS
namespace Go.Proofs.YtahdmkmefeocmaaDoor
open Go.Lib
set_option linter.unusedVariables false

theorem look_root (F : ByteArray → Option Nd) : lookS F ⟨#[47]⟩ = (0, true, 0) := by
  unfold lookS
  rw [show psplit ⟨#[47]⟩ = some [] by decide +kernel]
  rfl
theorem ahead_one (F : ByteArray → Option Nd) (x : ByteArray) : aheadS F [x] = 0 := by
  unfold aheadS
  rw [show ([x] : List ByteArray).dropLast = [] from rfl, pjoin_nil, look_root]
  rfl
theorem can_one {L : List Nd} {s x : ByteArray} (hs : psplit s = some [x]) : canS L s = if (fnd s L).isSome then 5 else if 64 ≤ L.length then 12 else 0 := by
  unfold canS parentS
  rw [hs, root_split hs]
  show (if aheadS (fnd · L) [x] = 0 then _ else _) = _
  rw [ahead_one, if_pos rfl]
  simp
theorem look_one {L : List Nd} {s x : ByteArray} (hs : psplit s = some [x]) {n : Nd} (hn : fnd s L = some n) : lookS (fnd · L) s = (n.id, n.dir, 0) := by
  unfold lookS
  rw [hs]
  show lookFrom (fnd · L) [] [x] 0 true = _
  unfold lookFrom
  have e : pjoin ([] ++ [x]) = s := by rw [List.nil_append]; exact (psplit_ok hs).2
  simp only [e, hn]
  rfl
theorem under_one {p s x y : ByteArray} (hp : psplit p = some [y]) (hs : psplit s = some [x]) : punder p s = false := by rw [under_parts hp hs]; simp

/-- The names, one behind another. -/
def nm (i : Nat) : ByteArray := ⟨#[47, 110, (97 + i / 10).toUInt8, (48 + i % 10).toUInt8]⟩
def nx1 (i : Nat) : ByteArray := ⟨#[110, (97 + i / 10).toUInt8, (48 + i % 10).toUInt8]⟩
abbrev moreP : ByteArray := ⟨#[47, 109, 111, 114, 101]⟩
theorem nm_split : ∀ i, i < 64 → psplit (nm i) = some [nx1 i] := by decide +kernel
theorem more_split : psplit moreP = some [⟨#[109, 111, 114, 101]⟩] := by decide +kernel
theorem nm_more : ∀ i, i < 64 → nm i ≠ moreP := by decide +kernel
theorem nm_ne : ∀ i, i < 64 → ∀ j, j < i → nm j ≠ nm i := by decide +kernel
/-- The tree behind i makes. -/
def fs (D : Nat → Bool) : Nat → TS
  | 0 => ⟨[], 1⟩
  | i + 1 => (makeS (fs D i) (nm i) (D i)).1
theorem fs_inv (D : Nat → Bool) : ∀ i, TInv (fs D i)
  | 0 => TInv.new
  | i + 1 => (fs_inv D i).make _ _
theorem fs_spec (D : Nat → Bool) : ∀ i, i ≤ 64 → (fs D i).nx = i + 1 ∧ (fs D i).L.length = i ∧ (∀ n, n ∈ (fs D i).L ↔ ∃ j, j < i ∧ n = ⟨nm j, j + 1, D j⟩)
  | 0, _ => by
    refine ⟨rfl, rfl, fun n => ?_⟩
    constructor
    · intro h; cases h
    · rintro ⟨j, h, _⟩; omega
  | i + 1, h => by
    obtain ⟨h1, h2, h3⟩ := fs_spec D i (by omega)
    have hf : fnd (nm i) (fs D i).L = none := by
      cases hq : fnd (nm i) (fs D i).L with
      | none => rfl
      | some n =>
        obtain ⟨h4, h5⟩ := fnd_some hq
        obtain ⟨j, hj, rfl⟩ := (h3 n).1 h4
        exact absurd h5 (nm_ne i (by omega) j hj)
    have h0 : canS (fs D i).L (nm i) = 0 := by
      rw [can_one (nm_split i (by omega)), hf, h2, if_neg (by simp), if_neg (by omega)]
    have e : fs D (i + 1) = ⟨insN ⟨nm i, (fs D i).nx, D i⟩ (fs D i).L, (fs D i).nx + 1⟩ := by
      show (makeS (fs D i) (nm i) (D i)).1 = _
      unfold makeS; rw [if_pos h0]
    have hp := insN_perm ⟨nm i, (fs D i).nx, D i⟩ (fs D i).L
    rw [e]
    refine ⟨by show (fs D i).nx + 1 = _; rw [h1]; push_cast; rfl, ?_, fun n => ?_⟩
    · show (insN _ _).length = _
      rw [hp.length_eq, List.length_cons, h2]
    · show n ∈ insN _ _ ↔ _
      rw [hp.mem_iff, List.mem_cons, h3, h1]
      constructor
      · rintro (rfl | ⟨j, hj, rfl⟩)
        · exact ⟨i, by omega, rfl⟩
        · exact ⟨j, by omega, rfl⟩
      · rintro ⟨j, hj, rfl⟩
        by_cases e : j = i
        · subst e; exact .inl rfl
        · exact .inr ⟨j, by omega, rfl⟩
theorem fs_make (D : Nat → Bool) (i : Nat) (h : i < 64) : (makeS (fs D i) (nm i) (D i)).2 = ((i : Int) + 1, 0) := by
  obtain ⟨h1, h2, h3⟩ := fs_spec D i (by omega)
  have hf : fnd (nm i) (fs D i).L = none := by
    cases hq : fnd (nm i) (fs D i).L with
    | none => rfl
    | some n =>
      obtain ⟨h4, h5⟩ := fnd_some hq
      obtain ⟨j, hj, rfl⟩ := (h3 n).1 h4
      exact absurd h5 (nm_ne i h j hj)
  have h0 : canS (fs D i).L (nm i) = 0 := by
    rw [can_one (nm_split i h), hf, h2, if_neg (by simp), if_neg (by omega)]
  unfold makeS
  rw [if_pos h0, h1]
theorem more_none (D : Nat → Bool) {L : List Nd} (hL : ∀ n ∈ L, n ∈ (fs D 64).L) : fnd moreP L = none := by
  cases hq : fnd moreP L with
  | none => rfl
  | some n =>
    obtain ⟨h4, h5⟩ := fnd_some hq
    obtain ⟨j, hj, rfl⟩ := ((fs_spec D 64 (Nat.le_refl _)).2.2 n).1 (hL n h4)
    exact absurd h5 (nm_more j hj)
/-- One more is refused. -/
theorem fs_full (D : Nat → Bool) : makeS (fs D 64) moreP true = (fs D 64, 0, 12) := by
  have h0 : canS (fs D 64).L moreP = 12 := by
    rw [can_one more_split, more_none D (fun n h => h), (fs_spec D 64 (Nat.le_refl _)).2.1]
    rfl
  unfold makeS
  rw [h0, if_neg (by decide)]
/-- One gone. -/
def fd (D : Nat → Bool) (k : Nat) : TS := (dropS (fs D 64) (nm k) (D k)).1
theorem fd_spec (D : Nat → Bool) (k : Nat) (hk : k < 64) : dropS (fs D 64) (nm k) (D k) = (⟨(fs D 64).L.filter fun n => !decide (n.path = nm k), 65⟩, (k : Int) + 1, 0) := by
  obtain ⟨h1, h2, h3⟩ := fs_spec D 64 (Nat.le_refl _)
  have hm := (h3 ⟨nm k, k + 1, D k⟩).2 ⟨k, hk, rfl⟩
  have hl := look_one (nm_split k hk) (fnd_mem (fs_inv D 64).rises.apart hm)
  have hl : lookS (fnd · (fs D 64).L) (nm k) = ((k : Int) + 1, D k, 0) := hl
  have hu : (fs D 64).L.any (fun n => punder n.path (nm k)) = false := by
    rw [List.any_eq_false]
    intro n hn
    obtain ⟨j, hj, rfl⟩ := (h3 n).1 hn
    show ¬ punder (nm j) (nm k) = true
    rw [under_one (nm_split j hj) (nm_split k hk)]; decide
  have h0 : canDropS (fs D 64).L (nm k) (D k) = 0 := by
    unfold canDropS
    rw [hl]
    dsimp only
    rw [if_pos rfl, hu, root_split (nm_split k hk)]
    cases D k <;> rfl
  unfold dropS
  rw [if_pos h0, hl, h1]
  rfl
theorem fd_len (D : Nat → Bool) (k : Nat) (hk : k < 64) : ((fs D 64).L.filter fun n => !decide (n.path = nm k)).length = 63 := by
  obtain ⟨h1, h2, h3⟩ := fs_spec D 64 (Nat.le_refl _)
  have hm := (h3 ⟨nm k, k + 1, D k⟩).2 ⟨k, hk, rfl⟩
  have ha := (fs_inv D 64).rises.apart
  generalize (fs D 64).L = L at *
  clear h1 h3
  have key : ∀ L : List Nd, Apart L → (⟨nm k, k + 1, D k⟩ : Nd) ∈ L → (L.filter fun n => !decide (n.path = nm k)).length + 1 = L.length := by
    intro L
    induction L with
    | nil => intro _ h; cases h
    | cons a L ih =>
      intro ha hm
      obtain ⟨a1, a2⟩ := List.pairwise_cons.1 ha
      by_cases e : a.path = nm k
      · have hno : (L.filter fun n => !decide (n.path = nm k)) = L := List.filter_eq_self.2 fun x hx => by
          have := a1 x hx
          rw [e] at this
          simpa using fun e2 => this e2.symm
        rw [List.filter_cons, show (!decide (a.path = nm k)) = false by simp [e], hno]
        simp
      · rcases List.mem_cons.1 hm with rfl | hm
        · exact absurd rfl e
        · rw [List.filter_cons, show (!decide (a.path = nm k)) = true by simp [e], if_pos rfl, List.length_cons, ih a2 hm, List.length_cons]
  have := key L ha hm
  omega
theorem fd_inv (D : Nat → Bool) (k : Nat) : TInv (fd D k) := (fs_inv D 64).drop _ _
/-- .. there is room for one. -/
theorem fd_more (D : Nat → Bool) (k : Nat) (hk : k < 64) : (makeS (fd D k) moreP true).2 = (65, 0) ∧ (makeS (fd D k) moreP true).1.L.length = 64 := by
  have e : fd D k = ⟨(fs D 64).L.filter fun n => !decide (n.path = nm k), 65⟩ := by unfold fd; rw [fd_spec D k hk]
  have h0 : canS (fd D k).L moreP = 0 := by
    rw [can_one more_split, e]
    show (if (fnd moreP ((fs D 64).L.filter _)).isSome = true then _ else if 64 ≤ ((fs D 64).L.filter _).length then _ else _) = _
    rw [more_none D (fun n h => (List.mem_filter.1 h).1), fd_len D k hk]
    rfl
  unfold makeS
  rw [if_pos h0]
  refine ⟨by rw [e], ?_⟩
  show (insN _ _).length = 64
  rw [(insN_perm _ _).length_eq, List.length_cons, e]
  show ((fs D 64).L.filter _).length + 1 = 64
  rw [fd_len D k hk]
end Go.Proofs.YtahdmkmefeocmaaDoor
