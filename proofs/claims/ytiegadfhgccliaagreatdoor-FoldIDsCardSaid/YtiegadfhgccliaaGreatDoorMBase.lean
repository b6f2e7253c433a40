/- append of any row, empty or nil ones too, onto a row of the call's own, in a region that draws its order. -/
import Derived.Lib.SplitLaws
import Derived.Lib.Join
import Derived.Lib.Strings
import Derived.Test.YtiegadfhgccliaaGreatDoorMName
import Derived.WalkKit
import Derived.Lib.Hide
import Derived.Test.YtiegadfhgccliaaGreatDoorRows
import Derived.WalkSpells
import Derived.WalkLawsBesides
import Derived.RegionTactic
import Derived.BigRegion
import Derived.OwnWalk
import Derived.Laws.AppendOwn
import Derived.IntWalk
import Derived.Below
namespace Go.Proofs.YtiegadfhgccliaaGreatDoor
open Go.Lib

/-- The pieces between the slashes. -/
def pieces : List UInt8 → List (List UInt8)
  | [] => [[]]
  | c :: t => if c = 47 then [] :: pieces t else (c :: (pieces t).headD []) :: (pieces t).tail

theorem pieces_ne (t : List UInt8) : pieces t ≠ [] := by
  cases t with
  | nil => simp [pieces]
  | cons c t => unfold pieces; split <;> simp
theorem pieces_slash (t : List UInt8) : pieces (47 :: t) = [] :: pieces t := by simp [pieces]
theorem pieces_sign {c : UInt8} (h : c ≠ 47) (t : List UInt8) : pieces (c :: t) = (c :: (pieces t).headD []) :: (pieces t).tail := by simp [pieces, h]

theorem index_one_hit (t : List UInt8) : index (47 :: t) [47] = 0 := by rw [index]; simp [List.isPrefixOf]
theorem index_one_miss {c : UInt8} (h : c ≠ 47) (t : List UInt8) : index (c :: t) [47] = if index t [47] == -1 then -1 else index t [47] + 1 := by
  have hp : ([47] : List UInt8).isPrefixOf (c :: t) = false := by simp [List.isPrefixOf, Ne.symm h]
  rw [index, hp]; simp

theorem splitK_miss {sep : List UInt8} {s : List UInt8} (k : Nat) (h : index s sep = -1) : splitK sep 0 k s = [s] := by
  cases k with
  | zero => rfl
  | succ k => unfold splitK; rw [if_pos (beq_iff_eq.2 h)]
theorem splitK_hit {sep : List UInt8} {s : List UInt8} (k i : Nat) (h : index s sep = i) : splitK sep 0 (k + 1) s = s.take i :: splitK sep 0 k (s.drop (i + sep.length)) := by
  have hm : ¬ (index s sep == -1) = true := fun e => by have := beq_iff_eq.1 e; omega
  have e : (index s sep).toNat = i := by omega
  rw [splitK, if_neg hm, e]; rfl

theorem split_pieces (s : List UInt8) : splitK [47] 0 (count s [47]) s = pieces s := by
  induction s with
  | nil => rw [splitK_miss _ (by simp [index])]; rfl
  | cons c t ih =>
    by_cases h : c = 47
    · subst h
      rw [count_cons_eq, pieces_slash, Nat.add_comm, splitK_hit _ 0 (by simpa using index_one_hit t), List.take_zero]
      simpa using ih
    · rw [count_cons_ne c 47 t h, pieces_sign h]
      by_cases hm : index t [47] = -1
      · have e1 : index (c :: t) [47] = -1 := by rw [index_one_miss h, if_pos (beq_iff_eq.2 hm)]
        rw [splitK_miss _ e1]
        rw [splitK_miss _ hm] at ih
        rw [← ih]; rfl
      · have hge := index_ge t [47]
        obtain ⟨j, hj⟩ : ∃ j : Nat, index t [47] = j := ⟨(index t [47]).toNat, by omega⟩
        have e1 : index (c :: t) [47] = ((j + 1 : Nat) : Int) := by rw [index_one_miss h, if_neg (fun e => hm (beq_iff_eq.1 e)), hj]; omega
        rw [count_hit (by simp) hj, Nat.add_comm] at ih ⊢
        rw [splitK_hit _ _ e1]
        rw [splitK_hit _ _ hj] at ih
        rw [← ih]
        simp

/-- What strings.Split gives, as lists. -/
theorem splitB_pieces (s : ByteArray) : (splitB ⟨#[47]⟩ 0 (countB s ⟨#[47]⟩) s).map (·.data.toList) = pieces s.data.toList := by
  rw [splitB_data]; exact split_pieces _

/-- Joined again. -/
theorem join_pieces (t : List UInt8) : join (pieces t) [47] = t := by
  induction t with
  | nil => rfl
  | cons c t ih =>
    have hn := pieces_ne t
    cases hp : pieces t with
    | nil => exact absurd hp hn
    | cons a r =>
      rw [hp, join_cons] at ih
      by_cases h : c = 47
      · subst h
        rw [pieces_slash, hp, join_cons]
        simp [joinTail] at ih ⊢
        exact ih
      · rw [pieces_sign h, hp, join_cons]
        simp at ih ⊢
        exact ih
theorem pieces_plain {a : List UInt8} (h : (47 : UInt8) ∉ a) : pieces a = [a] := by
  induction a with
  | nil => rfl
  | cons c t ih =>
    have h1 : c ≠ 47 := fun e => h (by simp [e])
    rw [pieces_sign h1, ih (fun e => h (by simp [e]))]; rfl
theorem pieces_slash_mid {a : List UInt8} (h : (47 : UInt8) ∉ a) (t : List UInt8) : pieces (a ++ 47 :: t) = a :: pieces t := by
  induction a with
  | nil => exact pieces_slash t
  | cons c a ih =>
    have h1 : c ≠ 47 := fun e => h (by simp [e])
    rw [List.cons_append, pieces_sign h1, ih (fun e => h (by simp [e]))]; rfl
theorem pieces_join : ∀ (a : List UInt8) (r : List (List UInt8)), (∀ x ∈ a :: r, (47 : UInt8) ∉ x) → pieces (join (a :: r) [47]) = a :: r
  | a, [], h => by rw [join_one]; exact pieces_plain (h a (by simp))
  | a, b :: r, h => by
    have ih := pieces_join b r (fun x hx => h x (List.mem_cons_of_mem _ hx))
    have e : join (a :: b :: r) [47] = a ++ 47 :: join (b :: r) [47] := by
      rw [join_cons, join_cons]; simp [joinTail]
    rw [e, pieces_slash_mid (h a (by simp)), ih]
end Go.Proofs.YtiegadfhgccliaaGreatDoor
namespace Go.Proofs.YtiegadfhgccliaaGreatDoor
open Go.RowKit Go.Lib

/-- A row of strings from a place on. -/
structure RdS (w : World) (b o : Nat) (L : List ByteArray) : Prop where
  at_ : ∀ k, k < L.length → w.cell? ⟨b, o + k, none⟩ = some (.string (L.getD k default))
  lt : b < w.heap.size
/-- A slice's address reads as strings (nil and empty ones too). -/
def SlS (w : World) (a : Option Addr) (L : List ByteArray) : Prop := L = [] ∨ ∃ b o, a = some ⟨b, o, none⟩ ∧ RdS w b o L
theorem RdS.below {w w' : World} {b o : Nat} {L : List ByteArray} (h : RdS w b o L) (hb : Below w.heap.size w w') : RdS w' b o L :=
  ⟨fun k hk => (hb.cell (p := ⟨b, o + k, none⟩) h.lt).trans (h.at_ k hk), Nat.lt_of_lt_of_le h.lt hb.size⟩
theorem SlS.below {w w' : World} {a : Option Addr} {L : List ByteArray} (h : SlS w a L) (hb : Below w.heap.size w w') : SlS w' a L := by
  rcases h with h | ⟨b, o, e, hr⟩
  · exact .inl h
  · exact .inr ⟨b, o, e, hr.below hb⟩
theorem SlS.nil (w : World) (a : Option Addr) : SlS w a [] := .inl rfl
theorem SlS.row {w : World} {a : Option Addr} {L : List ByteArray} (h : SlS w a L) (hne : L ≠ []) : ∃ b o, a = some ⟨b, o, none⟩ ∧ RdS w b o L := h.resolve_left hne
theorem SlS.at_ {w : World} {a : Option Addr} {L : List ByteArray} (h : SlS w a L) {k : Nat} (hk : k < L.length) : ∃ b o, a = some ⟨b, o, none⟩ ∧ w.cell? ⟨b, o + k, none⟩ = some (.string (L.getD k default)) ∧ b < w.heap.size := by
  obtain ⟨b, o, e, hr⟩ := h.row (by intro e; subst e; simp at hk)
  exact ⟨b, o, e, hr.at_ k hk, hr.lt⟩
/-- The first ones. -/
theorem SlS.take {w : World} {a : Option Addr} {L : List ByteArray} (h : SlS w a L) (n : Nat) : SlS w a (L.take n) := by
  rcases h with h | ⟨b, o, e, hr⟩
  · exact .inl (by rw [h]; simp)
  · refine .inr ⟨b, o, e, ⟨fun k hk => ?_, hr.lt⟩⟩
    have hk' : k < L.length := by rw [List.length_take] at hk; omega
    have hn : k < n := by rw [List.length_take] at hk; omega
    rw [hr.at_ k hk']
    simp [List.getD, hn]
/-- A row of the call's own. -/
theorem SlS.own {w : World} {base : Nat} {e : TypeId} {v : Value} {L : List ByteArray} (h : w.ownsRow base e 1 v L.length (L.map Value.string)) : ∃ a c, v = .slice a L.length c ∧ L.length ≤ c ∧ SlS w a L := by
  obtain ⟨_, ⟨rfl, hn⟩ | ⟨g, cap, cur, rfl, _, hg, hc, _, _, hx⟩⟩ := h
  · have : L = [] := by cases L; rfl; simp at hn
    subst this
    exact ⟨none, 0, rfl, Nat.le_refl _, .inl rfl⟩
  · refine ⟨_, _, rfl, hc, .inr ⟨g, 0, rfl, ⟨fun k hk => ?_, (Array.getElem?_eq_some_iff.1 hg).1⟩⟩⟩
    have hk1 : (L.map Value.string)[k]? = some (.string (L.getD k default)) := by
      rw [List.getElem?_map]
      simp [List.getD, List.getElem?_eq_getElem hk]
    rw [← hx, List.getElem?_take] at hk1
    split at hk1
    · unfold World.cell?
      rw [hg]
      simpa using hk1
    · cases hk1

abbrev mkB (l : List UInt8) : ByteArray := ⟨l.toArray⟩
theorem mkB_toList (l : List UInt8) : (mkB l).data.toList = l := by simp
theorem mkB_list (l : List UInt8) : (mkB l).toList = l := by rw [toList_data]
theorem mkB_of (s : ByteArray) : mkB s.data.toList = s := mk_data s
theorem mkB_size (l : List UInt8) : (mkB l).size = l.length := by simp [ByteArray.size]
theorem bytes_ext {a b : ByteArray} (h : a.data.toList = b.data.toList) : a = b := by rw [← mk_data a, ← mk_data b, h]
theorem beq_bytes (a b : ByteArray) : (a.toList == b.toList) = decide (a = b) := by
  rw [toList_data, toList_data]
  by_cases h : a = b
  · subst h; simp
  · rw [decide_eq_false h, beq_eq_false_iff_ne]
    exact fun e => h (bytes_ext e)

/-- The pieces of a text as strings. -/
def partsOf (s : ByteArray) : List ByteArray := (pieces s.data.toList).map mkB
theorem splitB_parts (s : ByteArray) : splitB ⟨#[47]⟩ 0 (countB s ⟨#[47]⟩) s = partsOf s := by
  unfold partsOf
  rw [← splitB_pieces, List.map_map]
  conv => lhs; rw [← List.map_id (splitB ⟨#[47]⟩ 0 (countB s ⟨#[47]⟩) s)]
  exact List.map_congr_left fun x _ => (mk_data x).symm
theorem parts_count (s : ByteArray) : countB s ⟨#[47]⟩ + 1 = (partsOf s).length := by
  rw [← splitB_parts, splitB_all _ (by decide) _ _ _ rfl]
/-- A path's parts; none: it is no path. -/
def psplit (s : ByteArray) : Option (List ByteArray) :=
  if s.toList == [47] then some []
  else if decide (64 < s.size) || !(hasPrefix s.data.toList [47]) then none
  else if decide (8 < (partsOf (s.extract 1 s.size)).length) || (partsOf (s.extract 1 s.size)).any (fun x => !nameOk x) then none
  else some (partsOf (s.extract 1 s.size))

theorem hasPrefix_one (s : List UInt8) : hasPrefix s [47] = true ↔ s = 47 :: s.tail := by
  cases s with
  | nil => simp [hasPrefix, List.isPrefixOf]
  | cons c t =>
    unfold hasPrefix
    constructor
    · intro h
      have : 47 = c := by simpa [List.isPrefixOf] using h
      rw [← this]; rfl
    · intro h
      have : c = 47 := (List.cons.inj h).1
      rw [this]; simp [List.isPrefixOf]

/-- The path of parts. -/
def pjoin (L : List ByteArray) : ByteArray := mkB (47 :: join (L.map (·.data.toList)) [47])

theorem nameByte_47 : nameByte 47 = false := by decide
theorem nameOk_plain {s : ByteArray} (h : nameOk s = true) : (47 : UInt8) ∉ s.data.toList := by
  intro hm
  have h1 : s.data.toList.all nameByte = true := by
    unfold nameOk at h
    simp only [Bool.and_eq_true] at h
    exact h.2
  have := List.all_eq_true.1 h1 47 hm
  rw [nameByte_47] at this
  cases this

/-- What a path's parts are. -/
structure PathOk (L : List ByteArray) : Prop where
  few : L.length ≤ 8
  names : ∀ x ∈ L, nameOk x = true
  short : (pjoin L).size ≤ 64

theorem partsOf_join {L : List ByteArray} (hne : L ≠ []) (hn : ∀ x ∈ L, nameOk x = true) : partsOf (mkB (join (L.map (·.data.toList)) [47])) = L := by
  unfold partsOf
  rw [mkB_toList]
  have hj : pieces (join (L.map (·.data.toList)) [47]) = L.map (·.data.toList) := by
    have hm : ∀ x ∈ L.map (fun s : ByteArray => s.data.toList), (47 : UInt8) ∉ x := by
      intro x hx
      obtain ⟨y, hy, rfl⟩ := List.mem_map.1 hx
      exact nameOk_plain (hn y hy)
    cases L with
    | nil => exact absurd rfl hne
    | cons a r => exact pieces_join _ _ hm
  rw [hj, List.map_map]
  conv => rhs; rw [← List.map_id L]
  exact List.map_congr_left fun x _ => mk_data x
theorem join_partsOf (s : ByteArray) : join ((partsOf s).map (·.data.toList)) [47] = s.data.toList := by
  unfold partsOf
  rw [List.map_map]
  have : (pieces s.data.toList).map ((fun x : ByteArray => x.data.toList) ∘ mkB) = pieces s.data.toList := by
    conv => rhs; rw [← List.map_id (pieces s.data.toList)]
    exact List.map_congr_left fun x _ => mkB_toList x
  rw [this, join_pieces]
theorem pjoin_nil : pjoin [] = ⟨#[47]⟩ := by decide
theorem extract_tail (s : ByteArray) : (s.extract 1 s.size).data.toList = s.data.toList.tail := by
  rw [extract_to_end]; simp

theorem psplit_ok {s : ByteArray} {L : List ByteArray} (h : psplit s = some L) : PathOk L ∧ pjoin L = s := by
  unfold psplit at h
  split at h
  · rename_i h0
    obtain rfl := Option.some.inj h
    have h1 : s = ⟨#[47]⟩ := by
      have := beq_iff_eq.1 h0
      rw [toList_data] at this
      exact bytes_ext this
    rw [pjoin_nil, h1]
    exact ⟨⟨by simp, by simp, by rw [pjoin_nil]; decide⟩, rfl⟩
  · rename_i h0
    split at h
    · cases h
    · rename_i h1
      split at h
      · cases h
      · rename_i h2
        obtain rfl := Option.some.inj h
        simp only [Bool.or_eq_true, decide_eq_true_eq, Bool.not_eq_true', not_or, Bool.not_eq_false, List.any_eq_true, not_exists, not_and] at h1 h2
        have e : pjoin (partsOf (s.extract 1 s.size)) = s := by
          unfold pjoin
          rw [join_partsOf, extract_tail, ← (hasPrefix_one _).1 h1.2]
        exact ⟨⟨by omega, h2.2, by rw [e]; omega⟩, e⟩

theorem pjoin_ne {L : List ByteArray} (hn : ∀ x ∈ L, nameOk x = true) (hne : L ≠ []) : ((pjoin L).toList == [47]) = false := by
  rw [beq_eq_false_iff_ne]
  intro e
  unfold pjoin at e
  rw [mkB_list] at e
  have e1 : join (L.map (·.data.toList)) [47] = [] := (List.cons.inj e).2
  have := partsOf_join hne hn
  rw [e1] at this
  have h0 : partsOf (mkB []) = [mkB []] := rfl
  rw [h0] at this
  have h1 := hn (mkB []) (by rw [← this]; simp)
  exact absurd h1 (by decide)

theorem psplit_pjoin {L : List ByteArray} (h : PathOk L) : psplit (pjoin L) = some L := by
  by_cases hne : L = []
  · subst hne; rw [pjoin_nil]; unfold psplit; rw [if_pos (by rw [toList_data]; decide)]
  · unfold psplit
    rw [pjoin_ne h.names hne]
    have hp : hasPrefix (pjoin L).data.toList [47] = true := by rw [hasPrefix_one]; simp [pjoin]
    have he : partsOf ((pjoin L).extract 1 (pjoin L).size) = L := by
      have : (pjoin L).extract 1 (pjoin L).size = mkB (join (L.map (·.data.toList)) [47]) := by
        apply bytes_ext; rw [extract_tail, mkB_toList]; simp [pjoin]
      rw [this, partsOf_join hne h.names]
    rw [he, hp]
    have h1 : decide (64 < (pjoin L).size) = false := by have := h.short; simp; omega
    have h2 : decide (8 < L.length) = false := by have := h.few; simp; omega
    have h3 : L.any (fun x => !nameOk x) = false := by
      rw [List.any_eq_false]
      intro x hx
      simp [h.names x hx]
    rw [h1, h2, h3]
    rfl

/-- Parts that are names, and no path all the same: too many, or too long. -/
theorem psplit_big {L : List ByteArray} (hn : ∀ x ∈ L, nameOk x = true) (h : 8 < L.length ∨ 64 < (pjoin L).size) : psplit (pjoin L) = none := by
  cases hs : psplit (pjoin L) with
  | none => rfl
  | some M =>
    obtain ⟨hM, e⟩ := psplit_ok hs
    exfalso
    have hne : L ≠ [] := by
      rintro rfl
      rcases h with h | h
      · simp at h
      · rw [pjoin_nil] at h; exact absurd h (by decide)
    have hneM : M ≠ [] := by
      rintro rfl
      have := pjoin_ne hn hne
      rw [← e, pjoin_nil, toList_data] at this
      exact absurd this (by decide)
    have e2 : join (M.map (·.data.toList)) [47] = join (L.map (·.data.toList)) [47] := by
      have := congrArg (fun x : ByteArray => x.data.toList) e
      simpa [pjoin] using this
    have e3 := partsOf_join hneM hM.names
    rw [e2, partsOf_join hne hn] at e3
    subst e3
    rcases h with h | h
    · have := hM.few; omega
    · have := hM.short; omega
/-- One path under another. -/
def punder (a b : ByteArray) : Bool :=
  match psplit a, psplit b with
  | some x, some y => decide (y.length < x.length) && (decide (x.take y.length = y))
  | _, _ => false
end Go.Proofs.YtiegadfhgccliaaGreatDoor
namespace Go.Proofs.YtiegadfhgccliaaGreatDoor
open Go.RowKit Go.Lib

theorem blw {a b c : World} (h : Below a.heap.size a b) (k : Below b.heap.size b c) : Below a.heap.size a c := h.trans (k.mono h.size)
theorem bal {a b : World} (h : Below a.heap.size a b) (o : Obj) : Below a.heap.size a (b.alloc o) := h.alloc h.size o
theorem grown_below {B : Nat} {w W w1 : World} {v : Value} {e : TypeId} {size n : Nat} {xs : List Value} (hB : Below B w W) (hBW : B ≤ W.heap.size) (hown : W.ownsRow B e size v n xs) (hg : W.grownBy w1 v.ownBlock) : Below B w w1 :=
  hB.grown hg hBW fun k hk => (hown.lt k hk).1
theorem own_heap {w w' : World} {base : Nat} {e : TypeId} {size : Nat} {v : Value} {n : Nat} {xs : List Value} (h : w.ownsRow base e size v n xs) (hh : w'.heap = w.heap) : w'.ownsRow base e size v n xs := by
  refine ⟨h.1, ?_⟩
  rw [hh]
  exact h.2
theorem one_new (w : World) (v : Value) (t : TypeId) : ∀ j u, [v][j]? = some u → (w.alloc (.cells #[v] t)).cell? ((⟨w.heap.size, 0, none⟩ : Addr).add j) = some u := by
  intro j u hu
  cases j with
  | zero =>
    simp at hu; subst hu
    have : ((⟨w.heap.size, 0, none⟩ : Addr).add 0) = ⟨w.heap.size, 0, none⟩ := rfl
    rw [this]
    unfold World.cell?
    rw [heap_alloc_new]; rfl
  | succ j => simp at hu
/-! A block of three cells, written over. -/
theorem heap_setCell_at {W : World} {B : Nat} {cs : Array Value} {T : TypeId} {f : Nat × Nat} (h : W.heap[B]? = some (.cells cs T f)) (k : Nat) (x : Value) : (W.setCell ⟨B, k, none⟩ x).heap[B]? = some (.cells (cs.setIfInBounds k x) T f) := by
  unfold World.setCell
  simp only [Array.getElem?_modify, h]
  simp
theorem b3_cells {W : World} {B : Nat} {a b c : Value} {T : TypeId} (h : W.heap[B]? = some (.cells #[a, b, c] T (0, 0))) : W.cell? ⟨B, 0, none⟩ = some a ∧ W.cell? ⟨B, 1, none⟩ = some b ∧ W.cell? ⟨B, 2, none⟩ = some c ∧ ∀ k, W.frozen? ⟨B, k, none⟩ = false := by
  refine ⟨?_, ?_, ?_, fun k => ?_⟩
  · unfold World.cell?; rw [h]; rfl
  · unfold World.cell?; rw [h]; rfl
  · unfold World.cell?; rw [h]; rfl
  · unfold World.frozen?; rw [h]; simp
theorem b3_facts {W : World} {B : Nat} {a b c : Value} {T : TypeId} (h : W.heap[B]? = some (.cells #[a, b, c] T (0, 0))) (x y : Value) :
    (W.cell? ⟨B, 0, none⟩ = some a ∧ W.frozen? ⟨B, 0, none⟩ = false) ∧ ((W.setCell ⟨B, 0, none⟩ x).cell? ⟨B, 1, none⟩ = some b ∧ (W.setCell ⟨B, 0, none⟩ x).frozen? ⟨B, 1, none⟩ = false) ∧
    (((W.setCell ⟨B, 0, none⟩ x).setCell ⟨B, 1, none⟩ y).cell? ⟨B, 2, none⟩ = some c ∧ ((W.setCell ⟨B, 0, none⟩ x).setCell ⟨B, 1, none⟩ y).frozen? ⟨B, 2, none⟩ = false) := by
  have h1 := heap_setCell_at h 0 x
  have h2 := heap_setCell_at h1 1 y
  have g0 := b3_cells h
  have g1 := b3_cells (a := x) (b := b) (c := c) h1
  have g2 := b3_cells (a := x) (b := y) (c := c) h2
  exact ⟨⟨g0.1, g0.2.2.2 0⟩, ⟨g1.2.1, g1.2.2.2 1⟩, ⟨g2.2.2.1, g2.2.2.2 2⟩⟩
theorem b3_end {W : World} {B : Nat} {a b c : Value} {T : TypeId} (h : W.heap[B]? = some (.cells #[a, b, c] T (0, 0))) (x y z : Value) : (((W.setCell ⟨B, 0, none⟩ x).setCell ⟨B, 1, none⟩ y).setCell ⟨B, 2, none⟩ z).heap[B]? = some (.cells #[x, y, z] T (0, 0)) := by
  have h1 := heap_setCell_at h 0 x
  have h2 := heap_setCell_at h1 1 y
  exact heap_setCell_at h2 2 z
theorem b3_keep {W : World} {B t o : Nat} (hn : t ≠ B) {v : Value} (h : W.cell? ⟨t, o, none⟩ = some v) (x y z : Value) : (((W.setCell ⟨B, 0, none⟩ x).setCell ⟨B, 1, none⟩ y).setCell ⟨B, 2, none⟩ z).cell? ⟨t, o, none⟩ = some v := by
  have e : ∀ k, (⟨B, k, none⟩ : Addr) ≠ ⟨t, o, none⟩ := fun k e => hn (by have := congrArg Addr.block e; exact this.symm)
  rw [World.cell?_setCell_other _ _ _ _ (e 2), World.cell?_setCell_other _ _ _ _ (e 1), World.cell?_setCell_other _ _ _ _ (e 0)]
  exact h
theorem b3_below {W : World} {B n : Nat} (hB : n ≤ B) {a : World} (h : Below n a W) (x y z : Value) : Below n a (((W.setCell ⟨B, 0, none⟩ x).setCell ⟨B, 1, none⟩ y).setCell ⟨B, 2, none⟩ z) :=
  ((h.setCell (p := ⟨B, 0, none⟩) hB _).setCell (p := ⟨B, 1, none⟩) hB _).setCell (p := ⟨B, 2, none⟩) hB _
end Go.Proofs.YtiegadfhgccliaaGreatDoor
namespace Go.Proofs.YtiegadfhgccliaaGreatDoor
open Go.RowKit Go.Lib

end Go.Proofs.YtiegadfhgccliaaGreatDoor
