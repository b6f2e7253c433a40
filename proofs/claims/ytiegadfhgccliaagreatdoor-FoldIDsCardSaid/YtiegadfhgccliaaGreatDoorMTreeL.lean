/- Trees in plain Lean: what always holds of a tree; paths under paths. -/
import Derived.Test.YtiegadfhgccliaaGreatDoorMBase
namespace Go.Proofs.YtiegadfhgccliaaGreatDoor
open Go.Lib

structure Nd where
  path : ByteArray
  id : Int
  dir : Bool
instance : Inhabited Nd := ⟨⟨⟨#[]⟩, 0, false⟩⟩

/-- Go's '<' on strings. -/
def ltB (a b : ByteArray) : Bool := decide (a.data.toList < b.data.toList)
theorem ltB_irrefl (a : ByteArray) : ltB a a = false := by unfold ltB; simp [List.lt_irrefl]
theorem ltB_trans {a b c : ByteArray} (h : ltB a b = true) (k : ltB b c = true) : ltB a c = true := by
  unfold ltB at *
  simp only [decide_eq_true_eq] at *
  exact List.lt_trans h k
theorem ltB_tri (a b : ByteArray) : ltB a b = true ∨ a = b ∨ ltB b a = true := by
  unfold ltB
  simp only [decide_eq_true_eq]
  by_cases h : a.data.toList < b.data.toList
  · exact .inl h
  · by_cases h2 : b.data.toList < a.data.toList
    · exact .inr (.inr h2)
    · right; left
      exact bytes_ext (List.le_antisymm (List.not_lt.1 h2) (List.not_lt.1 h))
def fnd (s : ByteArray) (L : List Nd) : Option Nd := L.find? fun n => decide (n.path = s)
theorem fnd_some {s : ByteArray} {L : List Nd} {n : Nd} (h : fnd s L = some n) : n ∈ L ∧ n.path = s := by
  unfold fnd at h
  exact ⟨List.mem_of_find?_eq_some h, by simpa using List.find?_some h⟩
theorem fnd_none {s : ByteArray} {L : List Nd} (h : fnd s L = none) : ∀ n ∈ L, n.path ≠ s := by
  unfold fnd at h
  intro n hn
  simpa using List.find?_eq_none.1 h n hn
/-- No path stands twice. -/
def Apart (L : List Nd) : Prop := L.Pairwise fun a b => a.path ≠ b.path
theorem apart_uniq {L : List Nd} (h : Apart L) {a b : Nd} (ha : a ∈ L) (hb : b ∈ L) (e : a.path = b.path) : a = b := by
  induction L with
  | nil => cases ha
  | cons x r ih =>
    obtain ⟨h1, h2⟩ := List.pairwise_cons.1 h
    rcases List.mem_cons.1 ha with rfl | ha'
    · rcases List.mem_cons.1 hb with rfl | hb'
      · rfl
      · exact absurd e (h1 b hb')
    · rcases List.mem_cons.1 hb with rfl | hb'
      · exact absurd e.symm (h1 a ha')
      · exact ih h2 ha' hb'
theorem Apart.perm {L M : List Nd} (h : Apart L) (p : L.Perm M) : Apart M := p.pairwise h fun hab => Ne.symm hab
theorem fnd_mem {L : List Nd} (h : Apart L) {n : Nd} (hn : n ∈ L) : fnd n.path L = some n := by
  cases hf : fnd n.path L with
  | none => exact absurd rfl (fnd_none hf n hn)
  | some m =>
    obtain ⟨h1, h2⟩ := fnd_some hf
    rw [apart_uniq h h1 hn h2]
theorem fnd_perm {L M : List Nd} (h : Apart L) (p : L.Perm M) (s : ByteArray) : fnd s L = fnd s M := by
  cases hf : fnd s L with
  | none =>
    cases hg : fnd s M with
    | none => rfl
    | some m =>
      obtain ⟨h1, h2⟩ := fnd_some hg
      exact absurd h2 (fnd_none hf m (p.mem_iff.2 h1))
  | some n =>
    obtain ⟨h1, h2⟩ := fnd_some hf
    rw [← h2]
    exact (fnd_mem (h.perm p) (p.mem_iff.1 h1)).symm

/-- Part by part from the root on. -/
def lookFrom (F : ByteArray → Option Nd) (pre : List ByteArray) : List ByteArray → Int → Bool → Int × Bool × Int
  | [], id, dir => (id, dir, 0)
  | p :: r, _, dir => if dir = false then (0, false, 7) else match F (pjoin (pre ++ [p])) with
    | none => (0, false, 4)
    | some n => lookFrom F (pre ++ [p]) r n.id n.dir
/-- Look. -/
def lookS (F : ByteArray → Option Nd) (s : ByteArray) : Int × Bool × Int := match psplit s with
  | none => (0, false, 3)
  | some P => lookFrom F [] P 0 true
/-- Why there is no directory ahead of the path of these parts. -/
def aheadS (F : ByteArray → Option Nd) (P : List ByteArray) : Int :=
  if P.isEmpty then 0 else
    if (lookS F (pjoin P.dropLast)).2.2 = 0 then (if (lookS F (pjoin P.dropLast)).2.1 then 0 else 7) else (lookS F (pjoin P.dropLast)).2.2
def parentS (F : ByteArray → Option Nd) (s : ByteArray) : Int := match psplit s with
  | none => 3
  | some P => aheadS F P

def rootP : ByteArray := ⟨#[47]⟩
def canS (L : List Nd) (s : ByteArray) : Int :=
  if parentS (fnd · L) s = 0 then (if (fnd s L).isSome || decide (s = rootP) then 5 else if 64 ≤ L.length then 12 else 0) else parentS (fnd · L) s

/-- A tree's nodes, by path; the next number. -/
structure TS where
  L : List Nd
  nx : Int
/-- A node put in its place. -/
def insN (n : Nd) : List Nd → List Nd
  | [] => [n]
  | m :: r => if ltB m.path n.path then m :: insN n r else n :: m :: r
def makeS (T : TS) (s : ByteArray) (dir : Bool) : TS × Int × Int :=
  if canS T.L s = 0 then (⟨insN ⟨s, T.nx, dir⟩ T.L, T.nx + 1⟩, T.nx, 0) else (T, 0, canS T.L s)

def partsN (s : ByteArray) : List ByteArray := (psplit s).getD []
/-- Does a node move with 'from'? -/
def movesN (src : ByteArray) (n : Nd) : Bool := decide (n.path = src) || punder n.path src
/-- Its path behind the move. -/
def newPath (src dst : ByteArray) (p : ByteArray) : ByteArray := pjoin (partsN dst ++ (partsN p).drop (partsN src).length)
def moveN (src dst : ByteArray) (n : Nd) : Nd := ⟨newPath src dst n.path, n.id, n.dir⟩
/-- Is there a node in a move's way? -/
def thereS (L : List Nd) (dst : ByteArray) (dir : Bool) : Bool := match fnd dst L with
  | some m => m.dir || dir
  | none => false
def canRenS (L : List Nd) (src dst : ByteArray) : Int := match psplit src, psplit dst with
  | some X, some Y =>
    if (lookS (fnd · L) src).2.2 = 0 then
      if X.isEmpty then 8
      else if punder dst src then 10
      else if aheadS (fnd · L) Y = 0 then
        if src = dst then 0
        else if Y.isEmpty || thereS L dst (lookS (fnd · L) src).2.1 then 5
        else if (L.filter (movesN src)).any (fun n => (psplit (newPath src dst n.path)).isNone) then 3
        else 0
      else aheadS (fnd · L) Y
    else (lookS (fnd · L) src).2.2
  | _, _ => 3
def goneS (L : List Nd) (dst : ByteArray) : Int := match fnd dst L with
  | some m => m.id
  | none => -1
def restS (L : List Nd) (src dst : ByteArray) : List Nd := L.filter fun n => !(movesN src n) && !(decide (n.path = dst))
def renS (T : TS) (src dst : ByteArray) : TS × Int × Int :=
  if canRenS T.L src dst = 0 then
    if src = dst then (T, -1, 0)
    else (⟨((T.L.filter (movesN src)).map (moveN src dst)).foldl (fun R n => insN n R) (restS T.L src dst), T.nx⟩, goneS T.L dst, 0)
  else (T, 0, canRenS T.L src dst)
def canDropS (L : List Nd) (s : ByteArray) (dir : Bool) : Int :=
  if (lookS (fnd · L) s).2.2 = 0 then
    if (lookS (fnd · L) s).2.1 && !dir then 6
    else if !(lookS (fnd · L) s).2.1 && dir then 7
    else if decide (s = rootP) || L.any (fun n => punder n.path s) then 8
    else 0
  else (lookS (fnd · L) s).2.2
def dropS (T : TS) (s : ByteArray) (dir : Bool) : TS × Int × Int :=
  if canDropS T.L s dir = 0 then (⟨T.L.filter fun n => !(decide (n.path = s)), T.nx⟩, (lookS (fnd · T.L) s).1, 0) else (T, 0, canDropS T.L s dir)
/-- The names in a directory. -/
def listS (L : List Nd) (s : ByteArray) : List ByteArray := (L.filter fun n => decide (pjoin (partsN n.path).dropLast = s)).map fun n => (partsN n.path).getLastD default
def canListS (L : List Nd) (s : ByteArray) : Int := if (lookS (fnd · L) s).2.2 = 0 then (if (lookS (fnd · L) s).2.1 then 0 else 7) else (lookS (fnd · L) s).2.2

/-! ### Order -/
def Rises (L : List Nd) : Prop := L.Pairwise fun a b => ltB a.path b.path = true
theorem Rises.apart {L : List Nd} (h : Rises L) : Apart L := h.imp fun {a b} hab e => by rw [e, ltB_irrefl] at hab; cases hab
theorem insN_perm (n : Nd) (L : List Nd) : (insN n L).Perm (n :: L) := by
  induction L with
  | nil => exact .refl _
  | cons m r ih =>
    unfold insN
    split
    · exact (ih.cons m).trans (.swap n m r)
    · exact .refl _
theorem insN_rises {n : Nd} {L : List Nd} (h : Rises L) (hn : ∀ m ∈ L, m.path ≠ n.path) : Rises (insN n L) := by
  induction L with
  | nil => exact List.pairwise_singleton _ _
  | cons m r ih =>
    obtain ⟨h1, h2⟩ := List.pairwise_cons.1 h
    unfold insN
    split
    · rename_i hlt
      refine List.pairwise_cons.2 ⟨fun x hx => ?_, ih h2 fun x hx => hn x (List.mem_cons_of_mem _ hx)⟩
      rcases List.mem_cons.1 ((insN_perm n r).mem_iff.1 hx) with rfl | hx'
      · exact hlt
      · exact h1 x hx'
    · rename_i hlt
      have hgt : ltB n.path m.path = true := by
        rcases ltB_tri m.path n.path with h3 | h3 | h3
        · exact absurd h3 hlt
        · exact absurd h3 (hn m (by simp))
        · exact h3
      refine List.pairwise_cons.2 ⟨fun x hx => ?_, h⟩
      rcases List.mem_cons.1 hx with rfl | hx'
      · exact hgt
      · exact ltB_trans hgt (h1 x hx')
theorem insAll_perm (M L : List Nd) : (M.foldl (fun R n => insN n R) L).Perm (L ++ M) := by
  induction M generalizing L with
  | nil => simp
  | cons n M ih =>
    rw [List.foldl_cons]
    refine (ih _).trans ?_
    refine ((insN_perm n L).append_right M).trans ?_
    exact (List.perm_middle (l₁ := L) (a := n) (l₂ := M)).symm
theorem insAll_rises {M L : List Nd} (h : Rises L) (ha : Apart (L ++ M)) : Rises (M.foldl (fun R n => insN n R) L) := by
  induction M generalizing L with
  | nil => exact h
  | cons n M ih =>
    rw [List.foldl_cons]
    have hp : (L ++ n :: M).Perm (insN n L ++ M) := (List.perm_middle (l₁ := L) (a := n) (l₂ := M)).trans ((insN_perm n L).append_right M).symm
    refine ih (insN_rises h fun m hm => ?_) (ha.perm hp)
    have := (List.pairwise_append.1 ha).2.2 m hm n (by simp)
    exact this
theorem Rises.filter {L : List Nd} (h : Rises L) (p : Nd → Bool) : Rises (L.filter p) := List.Pairwise.filter p h
end Go.Proofs.YtiegadfhgccliaaGreatDoor
namespace Go.Proofs.YtiegadfhgccliaaGreatDoor
open Go.Lib

theorem pieces_mid (a t : List UInt8) : pieces (a ++ 47 :: t) = pieces a ++ pieces t := by
  induction a with
  | nil => exact pieces_slash t
  | cons c a ih =>
    have hn := pieces_ne a
    by_cases h : c = 47
    · subst h; rw [List.cons_append, pieces_slash, pieces_slash, ih]; rfl
    · rw [List.cons_append, pieces_sign h, pieces_sign h, ih]
      cases hp : pieces a with
      | nil => exact absurd hp hn
      | cons x r => rfl
abbrev raws (L : List ByteArray) : List (List UInt8) := L.map (·.data.toList)
theorem raws_inj : ∀ {L M : List ByteArray}, raws L = raws M → L = M
  | [], [], _ => rfl
  | [], _ :: _, h => by cases h
  | _ :: _, [], h => by cases h
  | a :: L, b :: M, h => by
    have h1 := (List.cons.inj h).1
    have h2 := raws_inj (List.cons.inj h).2
    rw [bytes_ext h1, h2]
theorem raws_append (a b : List ByteArray) : raws (a ++ b) = raws a ++ raws b := List.map_append
theorem joinTail_append (a b : List (List UInt8)) : joinTail [47] (a ++ b) = joinTail [47] a ++ joinTail [47] b := by
  unfold joinTail; rw [List.map_append, List.flatten_append]
theorem pjoin_raw (L : List ByteArray) : (pjoin L).data.toList = 47 :: join (raws L) [47] := by unfold pjoin; rw [mkB_toList]
theorem pjoin_tail {L : List ByteArray} (h : L ≠ []) : (pjoin L).data.toList = joinTail [47] (raws L) := by
  cases L with
  | nil => exact absurd rfl h
  | cons a r => rw [pjoin_raw, raws, List.map_cons, join_cons]; rfl
theorem pieces_raws {L : List ByteArray} (hne : L ≠ []) (hn : ∀ x ∈ L, nameOk x = true) : pieces (join (raws L) [47]) = raws L := by
  have := partsOf_join hne hn
  unfold partsOf at this
  rw [mkB_toList] at this
  have h2 := congrArg raws this
  rw [raws, List.map_map] at h2
  have h3 : (pieces (join (raws L) [47])).map ((fun x : ByteArray => x.data.toList) ∘ mkB) = pieces (join (raws L) [47]) := by
    conv => rhs; rw [← List.map_id (pieces (join (raws L) [47]))]
    exact List.map_congr_left fun x _ => mkB_toList x
  rw [h3] at h2
  exact h2

/-- One path lies under another just if it begins with it and a slash. -/
theorem under_prefix {X Z : List ByteArray} (hX : X ≠ []) (nX : ∀ x ∈ X, nameOk x = true) (nZ : ∀ x ∈ Z, nameOk x = true) :
    hasPrefix (pjoin Z).data.toList ((pjoin X).data.toList ++ [47]) = (decide (X.length < Z.length) && decide (Z.take X.length = X)) := by
  rw [Bool.eq_iff_iff]
  unfold hasPrefix
  rw [List.isPrefixOf_iff_prefix]
  simp only [Bool.and_eq_true, decide_eq_true_eq]
  constructor
  · rintro ⟨t, ht⟩
    have hZ : Z ≠ [] := by
      rintro rfl
      have := congrArg List.length ht
      rw [pjoin_nil, pjoin_raw] at this
      simp at this
    rw [pjoin_raw, pjoin_raw] at ht
    have h1 : join (raws X) [47] ++ 47 :: t = join (raws Z) [47] := by simpa using ht
    have h2 := congrArg pieces h1
    rw [pieces_mid, pieces_raws hX nX, pieces_raws hZ nZ] at h2
    have hp := pieces_ne t
    have hl := congrArg List.length h2
    rw [List.length_append] at hl
    simp only [raws, List.length_map] at hl
    have hpl : 0 < (pieces t).length := by
      cases h : pieces t with
      | nil => exact absurd h hp
      | cons _ _ => simp
    refine ⟨by omega, raws_inj ?_⟩
    rw [raws, List.map_take, ← raws, ← h2]
    exact List.take_left' (by simp [raws])
  · rintro ⟨hl, ht⟩
    have hZe : Z = X ++ Z.drop X.length := by rw [← ht]; simp [List.length_take]; rw [Nat.min_eq_left (by omega)]; exact (List.take_append_drop _ _).symm
    have hD : Z.drop X.length ≠ [] := by
      intro e
      have := congrArg List.length e
      rw [List.length_drop] at this; simp at this; omega
    obtain ⟨y, r, hr⟩ : ∃ y r, Z.drop X.length = y :: r := by
      cases h : Z.drop X.length with
      | nil => exact absurd h hD
      | cons y r => exact ⟨y, r, rfl⟩
    have hZ : Z ≠ [] := by intro e; rw [e] at hl; simp at hl
    rw [pjoin_tail hZ, pjoin_tail hX, hZe, raws_append, joinTail_append, hr]
    refine ⟨y.data.toList ++ joinTail [47] (raws r), ?_⟩
    have : joinTail [47] (List.map (fun x : ByteArray => x.data.toList) (y :: r)) = 47 :: (y.data.toList ++ joinTail [47] (raws r)) := rfl
    rw [this]; simp

/-- The rest of a path, put behind another one. -/
theorem pjoin_move {X Y W : List ByteArray} (hX : X ≠ []) (hY : Y ≠ []) : (pjoin Y).data.toList ++ (pjoin (X ++ W)).data.toList.drop (pjoin X).size = (pjoin (Y ++ W)).data.toList := by
  rw [pjoin_tail hY, pjoin_tail (by simp [hX]), pjoin_tail (by simp [hY]), size_eq, pjoin_tail hX, raws_append, joinTail_append, List.drop_left' rfl, raws_append, joinTail_append]

theorem PathOk.take {L : List ByteArray} (h : PathOk L) (k : Nat) : PathOk (L.take k) := by
  refine ⟨by have := h.few; rw [List.length_take]; omega, fun x hx => h.names x (List.mem_of_mem_take hx), ?_⟩
  have hs := h.short
  rw [size_eq] at hs ⊢
  by_cases h0 : L.take k = []
  · rw [h0, pjoin_nil]; decide
  · have hL : L ≠ [] := by rintro rfl; simp at h0
    rw [pjoin_tail h0]
    rw [pjoin_tail hL] at hs
    have e : raws L = raws (L.take k) ++ raws (L.drop k) := by rw [raws, raws, raws, ← List.map_append, List.take_append_drop]
    rw [e, joinTail_append, List.length_append] at hs
    omega
theorem PathOk.dropLast {L : List ByteArray} (h : PathOk L) : PathOk L.dropLast := by rw [List.dropLast_eq_take]; exact h.take _
theorem split_join {s : ByteArray} {P : List ByteArray} (h : psplit s = some P) : pjoin P = s := (psplit_ok h).2

theorem lookFrom_ok {F : ByteArray → Option Nd} : ∀ {r pre : List ByteArray} {id : Int} {dir : Bool} {i : Int} {d : Bool}, lookFrom F pre r id dir = (i, d, 0) →
    r = [] ∧ i = id ∧ d = dir ∨ r ≠ [] ∧ ∃ n, F (pjoin (pre ++ r)) = some n ∧ i = n.id ∧ d = n.dir
  | [], pre, id, dir, i, d, h => by
    unfold lookFrom at h
    obtain ⟨h1, h2⟩ := Prod.mk.inj h
    exact .inl ⟨rfl, h1.symm, (Prod.mk.inj h2).1.symm⟩
  | p :: r, pre, id, dir, i, d, h => by
    right
    refine ⟨by simp, ?_⟩
    unfold lookFrom at h
    split at h
    · have := (Prod.mk.inj (Prod.mk.inj h).2).2; cases this
    · split at h
      · have := (Prod.mk.inj (Prod.mk.inj h).2).2; cases this
      · rename_i n hn
        rcases lookFrom_ok h with ⟨rfl, h1, h2⟩ | ⟨_, m, h1, h2, h3⟩
        · exact ⟨n, hn, h1, h2⟩
        · exact ⟨m, by rw [List.append_assoc] at h1; exact h1, h2, h3⟩
theorem lookFrom_all {F : ByteArray → Option Nd} {n : Nd} : ∀ {r pre : List ByteArray} {id : Int}, r ≠ [] →
    (∀ j, j < r.length → ∃ m, F (pjoin (pre ++ r.take (j + 1))) = some m ∧ (j + 1 < r.length → m.dir = true) ∧ (j + 1 = r.length → m = n)) → lookFrom F pre r id true = (n.id, n.dir, 0)
  | [], _, _, h, _ => absurd rfl h
  | p :: r, pre, id, _, H => by
    obtain ⟨m, h1, h2, h3⟩ := H 0 (by simp)
    have h1' : F (pjoin (pre ++ [p])) = some m := by simpa using h1
    unfold lookFrom
    rw [if_neg (by decide)]
    simp only [h1']
    by_cases hr : r = []
    · subst hr
      have := h3 (by simp)
      subst this
      rfl
    · have hd : m.dir = true := h2 (by
        have : 0 < r.length := List.length_pos_iff.2 hr
        simp; omega)
      rw [hd]
      refine lookFrom_all hr fun j hj => ?_
      obtain ⟨m', g1, g2, g3⟩ := H (j + 1) (by simp; omega)
      refine ⟨m', ?_, fun h => g2 (by simp; omega), fun h => g3 (by simp; omega)⟩
      rw [List.take_succ_cons] at g1
      rw [List.append_assoc]
      exact g1
/-- Found, it is there. -/
theorem lookS_ok {F : ByteArray → Option Nd} {s : ByteArray} {i : Int} {d : Bool} (h : lookS F s = (i, d, 0)) : ∃ P, psplit s = some P ∧ (P = [] ∧ i = 0 ∧ d = true ∨ P ≠ [] ∧ ∃ n, F s = some n ∧ i = n.id ∧ d = n.dir) := by
  unfold lookS at h
  split at h
  · have := (Prod.mk.inj (Prod.mk.inj h).2).2; cases this
  · rename_i P hP
    refine ⟨P, hP, ?_⟩
    rcases lookFrom_ok h with ⟨h1, h2, h3⟩ | ⟨h1, n, h2, h3, h4⟩
    · exact .inl ⟨h1, h2, h3⟩
    · rw [List.nil_append, split_join hP] at h2
      exact .inr ⟨h1, n, h2, h3, h4⟩

/-- What always holds of a tree. -/
structure TInv (T : TS) : Prop where
  rises : Rises T.L
  path : ∀ n ∈ T.L, ∃ P, psplit n.path = some P ∧ P ≠ [] ∧ (P.dropLast = [] ∨ ∃ m ∈ T.L, m.path = pjoin P.dropLast ∧ m.dir = true)
  ids : ∀ n ∈ T.L, 1 ≤ n.id ∧ n.id < T.nx
  uniq : ∀ a ∈ T.L, ∀ b ∈ T.L, a.id = b.id → a = b
  nx1 : 1 ≤ T.nx
  few : T.L.length ≤ 64

theorem TInv.new : TInv ⟨[], 1⟩ := ⟨List.Pairwise.nil, by simp, by simp, by simp, by decide, by simp⟩
theorem TInv.anc {T : TS} (h : TInv T) : ∀ (k : Nat) (n : Nd) (P : List ByteArray), n ∈ T.L → psplit n.path = some P → P.length = k → ∀ j, 0 < j → j < P.length → ∃ m ∈ T.L, m.path = pjoin (P.take j) ∧ m.dir = true
  | 0, _, _, _, _, hk, _, _, hj => by omega
  | k + 1, n, P, hn, hP, hk, j, h0, hj => by
    obtain ⟨P', hP', hne, hpar⟩ := h.path n hn
    rw [hP] at hP'
    cases hP'
    have hdl : P.dropLast.length = k := by rw [List.length_dropLast]; omega
    rcases hpar with he | ⟨m, hm, hmp, hmd⟩
    · rw [he] at hdl; simp at hdl; omega
    · have hps : psplit m.path = some P.dropLast := by rw [hmp]; exact psplit_pjoin (psplit_ok hP).1.dropLast
      by_cases hjk : j = k
      · refine ⟨m, hm, ?_, hmd⟩
        rw [hmp, List.dropLast_eq_take, hk, hjk]; rfl
      · obtain ⟨m', g1, g2, g3⟩ := TInv.anc h k m P.dropLast hm hps hdl j h0 (by omega)
        refine ⟨m', g1, ?_, g3⟩
        rw [g2, List.dropLast_eq_take, List.take_take, Nat.min_eq_left (by omega)]
/-- What is there, is found. -/
theorem TInv.look {T : TS} (h : TInv T) {n : Nd} (hn : n ∈ T.L) : lookS (fnd · T.L) n.path = (n.id, n.dir, 0) := by
  obtain ⟨P, hP, hne, _⟩ := h.path n hn
  unfold lookS
  rw [hP]
  refine lookFrom_all hne fun j hj => ?_
  by_cases hl : j + 1 < P.length
  · obtain ⟨m, h1, h2, h3⟩ := h.anc P.length n P hn hP rfl (j + 1) (by omega) hl
    refine ⟨m, ?_, fun _ => h3, fun e => by omega⟩
    rw [List.nil_append, ← h2]
    exact fnd_mem h.rises.apart h1
  · have e : j + 1 = P.length := by omega
    refine ⟨n, ?_, fun e2 => by omega, fun _ => rfl⟩
    rw [List.nil_append, e, List.take_length, split_join hP]
    exact fnd_mem h.rises.apart hn
end Go.Proofs.YtiegadfhgccliaaGreatDoor
