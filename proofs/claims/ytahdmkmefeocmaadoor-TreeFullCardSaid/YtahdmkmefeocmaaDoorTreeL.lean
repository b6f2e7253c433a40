/- Trees in plain Lean: what each method answers. -/
import Derived.Test.YtahdmkmefeocmaaDoorStrs
namespace Go.Proofs.YtahdmkmefeocmaaDoor
open Go.Lib

structure Nd where
  path : ByteArray
  id : Int
  dir : Bool
instance : Inhabited Nd := ⟨⟨⟨#[]⟩, 0, false⟩⟩

/-- Go's '<' on strings. -/
def ltB (a b : ByteArray) : Bool := decide (a.data.toList < b.data.toList)
theorem ltB_irrefl (a : ByteArray) : ltB a a = false := by unfold ltB; simp [List.lt_irrefl]
theorem ltB_trans {a b c : ByteArray} (h : ltB a b = true) (k : ltB b c = true) : ltB a c = true := by
  unfold ltB at *
  simp only [decide_eq_true_eq] at *
  exact List.lt_trans h k
theorem ltB_tri (a b : ByteArray) : ltB a b = true ∨ a = b ∨ ltB b a = true := by
  unfold ltB
  simp only [decide_eq_true_eq]
  by_cases h : a.data.toList < b.data.toList
  · exact .inl h
  · by_cases h2 : b.data.toList < a.data.toList
    · exact .inr (.inr h2)
    · right; left
      exact bytes_ext (List.le_antisymm (List.not_lt.1 h2) (List.not_lt.1 h))
theorem ltB_asymm {a b : ByteArray} (h : ltB a b = true) : ltB b a = false := by
  cases k : ltB b a
  · rfl
  · have := ltB_trans h k
    rw [ltB_irrefl] at this; cases this

def fnd (s : ByteArray) (L : List Nd) : Option Nd := L.find? fun n => decide (n.path = s)
theorem fnd_some {s : ByteArray} {L : List Nd} {n : Nd} (h : fnd s L = some n) : n ∈ L ∧ n.path = s := by
  unfold fnd at h
  exact ⟨List.mem_of_find?_eq_some h, by simpa using List.find?_some h⟩
theorem fnd_none {s : ByteArray} {L : List Nd} (h : fnd s L = none) : ∀ n ∈ L, n.path ≠ s := by
  unfold fnd at h
  intro n hn
  simpa using List.find?_eq_none.1 h n hn
/-- No path stands twice. -/
def Apart (L : List Nd) : Prop := L.Pairwise fun a b => a.path ≠ b.path
theorem apart_uniq {L : List Nd} (h : Apart L) {a b : Nd} (ha : a ∈ L) (hb : b ∈ L) (e : a.path = b.path) : a = b := by
  induction L with
  | nil => cases ha
  | cons x r ih =>
    obtain ⟨h1, h2⟩ := List.pairwise_cons.1 h
    rcases List.mem_cons.1 ha with rfl | ha'
    · rcases List.mem_cons.1 hb with rfl | hb'
      · rfl
      · exact absurd e (h1 b hb')
    · rcases List.mem_cons.1 hb with rfl | hb'
      · exact absurd e.symm (h1 a ha')
      · exact ih h2 ha' hb'
theorem Apart.perm {L M : List Nd} (h : Apart L) (p : L.Perm M) : Apart M := p.pairwise h fun hab => Ne.symm hab
theorem fnd_mem {L : List Nd} (h : Apart L) {n : Nd} (hn : n ∈ L) : fnd n.path L = some n := by
  cases hf : fnd n.path L with
  | none => exact absurd rfl (fnd_none hf n hn)
  | some m =>
    obtain ⟨h1, h2⟩ := fnd_some hf
    rw [apart_uniq h h1 hn h2]
theorem fnd_perm {L M : List Nd} (h : Apart L) (p : L.Perm M) (s : ByteArray) : fnd s L = fnd s M := by
  cases hf : fnd s L with
  | none =>
    cases hg : fnd s M with
    | none => rfl
    | some m =>
      obtain ⟨h1, h2⟩ := fnd_some hg
      exact absurd h2 (fnd_none hf m (p.mem_iff.2 h1))
  | some n =>
    obtain ⟨h1, h2⟩ := fnd_some hf
    rw [← h2]
    exact (fnd_mem (h.perm p) (p.mem_iff.1 h1)).symm

/-- Part by part from the root on. -/
def lookFrom (F : ByteArray → Option Nd) (pre : List ByteArray) : List ByteArray → Int → Bool → Int × Bool × Int
  | [], id, dir => (id, dir, 0)
  | p :: r, _, dir => if dir = false then (0, false, 7) else match F (pjoin (pre ++ [p])) with
    | none => (0, false, 4)
    | some n => lookFrom F (pre ++ [p]) r n.id n.dir
/-- Look. -/
def lookS (F : ByteArray → Option Nd) (s : ByteArray) : Int × Bool × Int := match psplit s with
  | none => (0, false, 3)
  | some P => lookFrom F [] P 0 true
/-- Why there is no directory ahead of the path of these parts. -/
def aheadS (F : ByteArray → Option Nd) (P : List ByteArray) : Int :=
  if P.isEmpty then 0 else
    if (lookS F (pjoin P.dropLast)).2.2 = 0 then (if (lookS F (pjoin P.dropLast)).2.1 then 0 else 7) else (lookS F (pjoin P.dropLast)).2.2
def parentS (F : ByteArray → Option Nd) (s : ByteArray) : Int := match psplit s with
  | none => 3
  | some P => aheadS F P

def rootP : ByteArray := ⟨#[47]⟩
def canS (L : List Nd) (s : ByteArray) : Int :=
  if parentS (fnd · L) s = 0 then (if (fnd s L).isSome || decide (s = rootP) then 5 else if 64 ≤ L.length then 12 else 0) else parentS (fnd · L) s

/-- A tree's nodes, by path; the next number. -/
structure TS where
  L : List Nd
  nx : Int
/-- A node put in its place. -/
def insN (n : Nd) : List Nd → List Nd
  | [] => [n]
  | m :: r => if ltB m.path n.path then m :: insN n r else n :: m :: r
def makeS (T : TS) (s : ByteArray) (dir : Bool) : TS × Int × Int :=
  if canS T.L s = 0 then (⟨insN ⟨s, T.nx, dir⟩ T.L, T.nx + 1⟩, T.nx, 0) else (T, 0, canS T.L s)

def partsN (s : ByteArray) : List ByteArray := (psplit s).getD []
/-- Does a node move with 'from'? -/
def movesN (src : ByteArray) (n : Nd) : Bool := decide (n.path = src) || punder n.path src
/-- Its path behind the move. -/
def newPath (src dst : ByteArray) (p : ByteArray) : ByteArray := pjoin (partsN dst ++ (partsN p).drop (partsN src).length)
def moveN (src dst : ByteArray) (n : Nd) : Nd := ⟨newPath src dst n.path, n.id, n.dir⟩
/-- Is there a node in a move's way? -/
def thereS (L : List Nd) (dst : ByteArray) (dir : Bool) : Bool := match fnd dst L with
  | some m => m.dir || dir
  | none => false
def canRenS (L : List Nd) (src dst : ByteArray) : Int := match psplit src, psplit dst with
  | some X, some Y =>
    if (lookS (fnd · L) src).2.2 = 0 then
      if X.isEmpty then 8
      else if punder dst src then 10
      else if aheadS (fnd · L) Y = 0 then
        if src = dst then 0
        else if Y.isEmpty || thereS L dst (lookS (fnd · L) src).2.1 then 5
        else if (L.filter (movesN src)).any (fun n => (psplit (newPath src dst n.path)).isNone) then 3
        else 0
      else aheadS (fnd · L) Y
    else (lookS (fnd · L) src).2.2
  | _, _ => 3
def goneS (L : List Nd) (dst : ByteArray) : Int := match fnd dst L with
  | some m => m.id
  | none => -1
def restS (L : List Nd) (src dst : ByteArray) : List Nd := L.filter fun n => !(movesN src n) && !(decide (n.path = dst))
def renS (T : TS) (src dst : ByteArray) : TS × Int × Int :=
  if canRenS T.L src dst = 0 then
    if src = dst then (T, -1, 0)
    else (⟨((T.L.filter (movesN src)).map (moveN src dst)).foldl (fun R n => insN n R) (restS T.L src dst), T.nx⟩, goneS T.L dst, 0)
  else (T, 0, canRenS T.L src dst)
def canDropS (L : List Nd) (s : ByteArray) (dir : Bool) : Int :=
  if (lookS (fnd · L) s).2.2 = 0 then
    if (lookS (fnd · L) s).2.1 && !dir then 6
    else if !(lookS (fnd · L) s).2.1 && dir then 7
    else if decide (s = rootP) || L.any (fun n => punder n.path s) then 8
    else 0
  else (lookS (fnd · L) s).2.2
def dropS (T : TS) (s : ByteArray) (dir : Bool) : TS × Int × Int :=
  if canDropS T.L s dir = 0 then (⟨T.L.filter fun n => !(decide (n.path = s)), T.nx⟩, (lookS (fnd · T.L) s).1, 0) else (T, 0, canDropS T.L s dir)
/-- The names in a directory. -/
def listS (L : List Nd) (s : ByteArray) : List ByteArray := (L.filter fun n => decide (pjoin (partsN n.path).dropLast = s)).map fun n => (partsN n.path).getLastD default
def canListS (L : List Nd) (s : ByteArray) : Int := if (lookS (fnd · L) s).2.2 = 0 then (if (lookS (fnd · L) s).2.1 then 0 else 7) else (lookS (fnd · L) s).2.2

/-! ### Order -/
def Rises (L : List Nd) : Prop := L.Pairwise fun a b => ltB a.path b.path = true
theorem Rises.apart {L : List Nd} (h : Rises L) : Apart L := h.imp fun {a b} hab e => by rw [e, ltB_irrefl] at hab; cases hab
theorem insN_perm (n : Nd) (L : List Nd) : (insN n L).Perm (n :: L) := by
  induction L with
  | nil => exact .refl _
  | cons m r ih =>
    unfold insN
    split
    · exact (ih.cons m).trans (.swap n m r)
    · exact .refl _
theorem insN_rises {n : Nd} {L : List Nd} (h : Rises L) (hn : ∀ m ∈ L, m.path ≠ n.path) : Rises (insN n L) := by
  induction L with
  | nil => exact List.pairwise_singleton _ _
  | cons m r ih =>
    obtain ⟨h1, h2⟩ := List.pairwise_cons.1 h
    unfold insN
    split
    · rename_i hlt
      refine List.pairwise_cons.2 ⟨fun x hx => ?_, ih h2 fun x hx => hn x (List.mem_cons_of_mem _ hx)⟩
      rcases List.mem_cons.1 ((insN_perm n r).mem_iff.1 hx) with rfl | hx'
      · exact hlt
      · exact h1 x hx'
    · rename_i hlt
      have hgt : ltB n.path m.path = true := by
        rcases ltB_tri m.path n.path with h3 | h3 | h3
        · exact absurd h3 hlt
        · exact absurd h3 (hn m (by simp))
        · exact h3
      refine List.pairwise_cons.2 ⟨fun x hx => ?_, h⟩
      rcases List.mem_cons.1 hx with rfl | hx'
      · exact hgt
      · exact ltB_trans hgt (h1 x hx')
theorem insAll_perm (M L : List Nd) : (M.foldl (fun R n => insN n R) L).Perm (L ++ M) := by
  induction M generalizing L with
  | nil => simp
  | cons n M ih =>
    rw [List.foldl_cons]
    refine (ih _).trans ?_
    refine ((insN_perm n L).append_right M).trans ?_
    exact (List.perm_middle (l₁ := L) (a := n) (l₂ := M)).symm
theorem insAll_rises {M L : List Nd} (h : Rises L) (ha : Apart (L ++ M)) : Rises (M.foldl (fun R n => insN n R) L) := by
  induction M generalizing L with
  | nil => exact h
  | cons n M ih =>
    rw [List.foldl_cons]
    have hp : (L ++ n :: M).Perm (insN n L ++ M) := (List.perm_middle (l₁ := L) (a := n) (l₂ := M)).trans ((insN_perm n L).append_right M).symm
    refine ih (insN_rises h fun m hm => ?_) (ha.perm hp)
    have := (List.pairwise_append.1 ha).2.2 m hm n (by simp)
    exact this
/-- Two rows with the same nodes, both rising, are one. -/
theorem rises_uniq {L M : List Nd} (hL : Rises L) (hM : Rises M) (p : L.Perm M) : L = M :=
  List.Perm.eq_of_pairwise (le := fun a b : Nd => ltB a.path b.path = true) (fun a b _ _ h1 h2 => by rw [ltB_asymm h1] at h2; cases h2) (show L.Pairwise _ from hL) (show M.Pairwise _ from hM) p
theorem Rises.filter {L : List Nd} (h : Rises L) (p : Nd → Bool) : Rises (L.filter p) := List.Pairwise.filter p h
end Go.Proofs.YtahdmkmefeocmaaDoor
