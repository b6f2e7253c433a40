/- Rows of strings in memory; a path's parts in plain Lean. -/
import Derived.Test.YtahdmkmefeocmaaDoorName
import Derived.Test.YtahdmkmefeocmaaDoorPathL
import Derived.WalkKit
import Derived.Lib.Hide
namespace Go.Proofs.YtahdmkmefeocmaaDoor
open Go.RowKit Go.Lib

/-- A row of strings from a place on. -/
structure RdS (w : World) (b o : Nat) (L : List ByteArray) : Prop where
  at_ : ∀ k, k < L.length → w.cell? ⟨b, o + k, none⟩ = some (.string (L.getD k default))
  lt : b < w.heap.size
/-- A slice's address reads as strings (nil and empty ones too). -/
def SlS (w : World) (a : Option Addr) (L : List ByteArray) : Prop := L = [] ∨ ∃ b o, a = some ⟨b, o, none⟩ ∧ RdS w b o L
theorem RdS.below {w w' : World} {b o : Nat} {L : List ByteArray} (h : RdS w b o L) (hb : Below w.heap.size w w') : RdS w' b o L :=
  ⟨fun k hk => (hb.cell (p := ⟨b, o + k, none⟩) h.lt).trans (h.at_ k hk), Nat.lt_of_lt_of_le h.lt hb.size⟩
theorem RdS.belowB {B : Nat} {w w' : World} {b o : Nat} {L : List ByteArray} (h : RdS w b o L) (hb : Below B w w') (hl : b < B) : RdS w' b o L :=
  ⟨fun k hk => (hb.cell (p := ⟨b, o + k, none⟩) hl).trans (h.at_ k hk), Nat.lt_of_lt_of_le h.lt hb.size⟩
theorem SlS.below {w w' : World} {a : Option Addr} {L : List ByteArray} (h : SlS w a L) (hb : Below w.heap.size w w') : SlS w' a L := by
  rcases h with h | ⟨b, o, e, hr⟩
  · exact .inl h
  · exact .inr ⟨b, o, e, hr.below hb⟩
theorem SlS.nil (w : World) (a : Option Addr) : SlS w a [] := .inl rfl
theorem SlS.row {w : World} {a : Option Addr} {L : List ByteArray} (h : SlS w a L) (hne : L ≠ []) : ∃ b o, a = some ⟨b, o, none⟩ ∧ RdS w b o L := h.resolve_left hne
theorem SlS.at_ {w : World} {a : Option Addr} {L : List ByteArray} (h : SlS w a L) {k : Nat} (hk : k < L.length) : ∃ b o, a = some ⟨b, o, none⟩ ∧ w.cell? ⟨b, o + k, none⟩ = some (.string (L.getD k default)) ∧ b < w.heap.size := by
  obtain ⟨b, o, e, hr⟩ := h.row (by intro e; subst e; simp at hk)
  exact ⟨b, o, e, hr.at_ k hk, hr.lt⟩
/-- The first ones. -/
theorem SlS.take {w : World} {a : Option Addr} {L : List ByteArray} (h : SlS w a L) (n : Nat) : SlS w a (L.take n) := by
  rcases h with h | ⟨b, o, e, hr⟩
  · exact .inl (by rw [h]; simp)
  · refine .inr ⟨b, o, e, ⟨fun k hk => ?_, hr.lt⟩⟩
    have hk' : k < L.length := by rw [List.length_take] at hk; omega
    have hn : k < n := by rw [List.length_take] at hk; omega
    rw [hr.at_ k hk']
    simp [List.getD, hn]
/-- A row of the call's own. -/
theorem SlS.own {w : World} {base : Nat} {e : TypeId} {v : Value} {L : List ByteArray} (h : w.ownsRow base e 1 v L.length (L.map Value.string)) : ∃ a c, v = .slice a L.length c ∧ L.length ≤ c ∧ SlS w a L := by
  obtain ⟨_, ⟨rfl, hn⟩ | ⟨g, cap, cur, rfl, _, hg, hc, _, _, hx⟩⟩ := h
  · have : L = [] := by cases L; rfl; simp at hn
    subst this
    exact ⟨none, 0, rfl, Nat.le_refl _, .inl rfl⟩
  · refine ⟨_, _, rfl, hc, .inr ⟨g, 0, rfl, ⟨fun k hk => ?_, (Array.getElem?_eq_some_iff.1 hg).1⟩⟩⟩
    have hk1 : (L.map Value.string)[k]? = some (.string (L.getD k default)) := by
      rw [List.getElem?_map]
      simp [List.getD, List.getElem?_eq_getElem hk]
    rw [← hx, List.getElem?_take] at hk1
    split at hk1
    · unfold World.cell?
      rw [hg]
      simpa using hk1
    · cases hk1

theorem getD_mem {L : List ByteArray} {k : Nat} (hk : k < L.length) : L.getD k default ∈ L := by simp [List.getD, hk]
abbrev mkB (l : List UInt8) : ByteArray := ⟨l.toArray⟩
theorem mkB_toList (l : List UInt8) : (mkB l).data.toList = l := by simp
theorem mkB_list (l : List UInt8) : (mkB l).toList = l := by rw [toList_data]
theorem mkB_of (s : ByteArray) : mkB s.data.toList = s := mk_data s
theorem mkB_size (l : List UInt8) : (mkB l).size = l.length := by simp [ByteArray.size]
theorem bytes_ext {a b : ByteArray} (h : a.data.toList = b.data.toList) : a = b := by rw [← mk_data a, ← mk_data b, h]
theorem beq_bytes (a b : ByteArray) : (a.toList == b.toList) = decide (a = b) := by
  rw [toList_data, toList_data]
  by_cases h : a = b
  · subst h; simp
  · rw [decide_eq_false h, beq_eq_false_iff_ne]
    exact fun e => h (bytes_ext e)

/-- The pieces of a text as strings. -/
def partsOf (s : ByteArray) : List ByteArray := (pieces s.data.toList).map mkB
theorem splitB_parts (s : ByteArray) : splitB ⟨#[47]⟩ 0 (countB s ⟨#[47]⟩) s = partsOf s := by
  unfold partsOf
  rw [← splitB_pieces, List.map_map]
  conv => lhs; rw [← List.map_id (splitB ⟨#[47]⟩ 0 (countB s ⟨#[47]⟩) s)]
  exact List.map_congr_left fun x _ => (mk_data x).symm
theorem parts_count (s : ByteArray) : countB s ⟨#[47]⟩ + 1 = (partsOf s).length := by
  rw [← splitB_parts, splitB_all _ (by decide) _ _ _ rfl]
theorem parts_pos (s : ByteArray) : 0 < (partsOf s).length := by
  have := parts_count s
  omega

/-- A path's parts; none: it is no path. -/
def psplit (s : ByteArray) : Option (List ByteArray) :=
  if s.toList == [47] then some []
  else if decide (64 < s.size) || !(hasPrefix s.data.toList [47]) then none
  else if decide (8 < (partsOf (s.extract 1 s.size)).length) || (partsOf (s.extract 1 s.size)).any (fun x => !nameOk x) then none
  else some (partsOf (s.extract 1 s.size))

theorem hasPrefix_one (s : List UInt8) : hasPrefix s [47] = true ↔ s = 47 :: s.tail := by
  cases s with
  | nil => simp [hasPrefix, List.isPrefixOf]
  | cons c t =>
    unfold hasPrefix
    constructor
    · intro h
      have : 47 = c := by simpa [List.isPrefixOf] using h
      rw [← this]; rfl
    · intro h
      have : c = 47 := (List.cons.inj h).1
      rw [this]; simp [List.isPrefixOf]

/-- The path of parts. -/
def pjoin (L : List ByteArray) : ByteArray := mkB (47 :: join (L.map (·.data.toList)) [47])

theorem nameOk_size {s : ByteArray} (h : nameOk s = true) : 1 ≤ s.size ∧ s.size ≤ 16 := by
  unfold nameOk at h
  simp at h
  omega
theorem nameByte_47 : nameByte 47 = false := by decide
theorem nameOk_plain {s : ByteArray} (h : nameOk s = true) : (47 : UInt8) ∉ s.data.toList := by
  intro hm
  have h1 : s.data.toList.all nameByte = true := by
    unfold nameOk at h
    simp only [Bool.and_eq_true] at h
    exact h.2
  have := List.all_eq_true.1 h1 47 hm
  rw [nameByte_47] at this
  cases this

/-- What a path's parts are. -/
structure PathOk (L : List ByteArray) : Prop where
  few : L.length ≤ 8
  names : ∀ x ∈ L, nameOk x = true
  short : (pjoin L).size ≤ 64

theorem partsOf_join {L : List ByteArray} (hne : L ≠ []) (hn : ∀ x ∈ L, nameOk x = true) : partsOf (mkB (join (L.map (·.data.toList)) [47])) = L := by
  unfold partsOf
  rw [mkB_toList]
  have hj : pieces (join (L.map (·.data.toList)) [47]) = L.map (·.data.toList) := by
    have hm : ∀ x ∈ L.map (fun s : ByteArray => s.data.toList), (47 : UInt8) ∉ x := by
      intro x hx
      obtain ⟨y, hy, rfl⟩ := List.mem_map.1 hx
      exact nameOk_plain (hn y hy)
    cases L with
    | nil => exact absurd rfl hne
    | cons a r => exact pieces_join _ _ hm
  rw [hj, List.map_map]
  conv => rhs; rw [← List.map_id L]
  exact List.map_congr_left fun x _ => mk_data x
theorem join_partsOf (s : ByteArray) : join ((partsOf s).map (·.data.toList)) [47] = s.data.toList := by
  unfold partsOf
  rw [List.map_map]
  have : (pieces s.data.toList).map ((fun x : ByteArray => x.data.toList) ∘ mkB) = pieces s.data.toList := by
    conv => rhs; rw [← List.map_id (pieces s.data.toList)]
    exact List.map_congr_left fun x _ => mkB_toList x
  rw [this, join_pieces]
theorem pjoin_nil : pjoin [] = ⟨#[47]⟩ := by decide
theorem extract_tail (s : ByteArray) : (s.extract 1 s.size).data.toList = s.data.toList.tail := by
  rw [extract_to_end]; simp

theorem psplit_ok {s : ByteArray} {L : List ByteArray} (h : psplit s = some L) : PathOk L ∧ pjoin L = s := by
  unfold psplit at h
  split at h
  · rename_i h0
    obtain rfl := Option.some.inj h
    have h1 : s = ⟨#[47]⟩ := by
      have := beq_iff_eq.1 h0
      rw [toList_data] at this
      exact bytes_ext this
    rw [pjoin_nil, h1]
    exact ⟨⟨by simp, by simp, by rw [pjoin_nil]; decide⟩, rfl⟩
  · rename_i h0
    split at h
    · cases h
    · rename_i h1
      split at h
      · cases h
      · rename_i h2
        obtain rfl := Option.some.inj h
        simp only [Bool.or_eq_true, decide_eq_true_eq, Bool.not_eq_true', not_or, Bool.not_eq_false, List.any_eq_true, not_exists, not_and] at h1 h2
        have e : pjoin (partsOf (s.extract 1 s.size)) = s := by
          unfold pjoin
          rw [join_partsOf, extract_tail, ← (hasPrefix_one _).1 h1.2]
        exact ⟨⟨by omega, h2.2, by rw [e]; omega⟩, e⟩

theorem pjoin_ne {L : List ByteArray} (hn : ∀ x ∈ L, nameOk x = true) (hne : L ≠ []) : ((pjoin L).toList == [47]) = false := by
  rw [beq_eq_false_iff_ne]
  intro e
  unfold pjoin at e
  rw [mkB_list] at e
  have e1 : join (L.map (·.data.toList)) [47] = [] := (List.cons.inj e).2
  have := partsOf_join hne hn
  rw [e1] at this
  have h0 : partsOf (mkB []) = [mkB []] := rfl
  rw [h0] at this
  have h1 := hn (mkB []) (by rw [← this]; simp)
  exact absurd h1 (by decide)

theorem psplit_pjoin {L : List ByteArray} (h : PathOk L) : psplit (pjoin L) = some L := by
  by_cases hne : L = []
  · subst hne; rw [pjoin_nil]; unfold psplit; rw [if_pos (by rw [toList_data]; decide)]
  · unfold psplit
    rw [pjoin_ne h.names hne]
    have hp : hasPrefix (pjoin L).data.toList [47] = true := by rw [hasPrefix_one]; simp [pjoin]
    have he : partsOf ((pjoin L).extract 1 (pjoin L).size) = L := by
      have : (pjoin L).extract 1 (pjoin L).size = mkB (join (L.map (·.data.toList)) [47]) := by
        apply bytes_ext; rw [extract_tail, mkB_toList]; simp [pjoin]
      rw [this, partsOf_join hne h.names]
    rw [he, hp]
    have h1 : decide (64 < (pjoin L).size) = false := by have := h.short; simp; omega
    have h2 : decide (8 < L.length) = false := by have := h.few; simp; omega
    have h3 : L.any (fun x => !nameOk x) = false := by
      rw [List.any_eq_false]
      intro x hx
      simp [h.names x hx]
    rw [h1, h2, h3]
    rfl

/-- Parts that are names, and no path all the same: too many, or too long. -/
theorem psplit_big {L : List ByteArray} (hn : ∀ x ∈ L, nameOk x = true) (h : 8 < L.length ∨ 64 < (pjoin L).size) : psplit (pjoin L) = none := by
  cases hs : psplit (pjoin L) with
  | none => rfl
  | some M =>
    obtain ⟨hM, e⟩ := psplit_ok hs
    exfalso
    have hne : L ≠ [] := by
      rintro rfl
      rcases h with h | h
      · simp at h
      · rw [pjoin_nil] at h; exact absurd h (by decide)
    have hneM : M ≠ [] := by
      rintro rfl
      have := pjoin_ne hn hne
      rw [← e, pjoin_nil, toList_data] at this
      exact absurd this (by decide)
    have e2 : join (M.map (·.data.toList)) [47] = join (L.map (·.data.toList)) [47] := by
      have := congrArg (fun x : ByteArray => x.data.toList) e
      simpa [pjoin] using this
    have e3 := partsOf_join hneM hM.names
    rw [e2, partsOf_join hne hn] at e3
    subst e3
    rcases h with h | h
    · have := hM.few; omega
    · have := hM.short; omega
theorem pjoin_inj {L M : List ByteArray} (hL : PathOk L) (hM : PathOk M) (h : pjoin L = pjoin M) : L = M := by
  have h1 := psplit_pjoin hL
  rw [h, psplit_pjoin hM] at h1
  exact (Option.some.inj h1).symm

/-- One path under another. -/
def punder (a b : ByteArray) : Bool :=
  match psplit a, psplit b with
  | some x, some y => decide (y.length < x.length) && (decide (x.take y.length = y))
  | _, _ => false
end Go.Proofs.YtahdmkmefeocmaaDoor
