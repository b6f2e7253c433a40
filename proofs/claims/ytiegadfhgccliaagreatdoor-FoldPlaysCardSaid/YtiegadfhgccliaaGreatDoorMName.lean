/- Trees in plain Lean: what each method answers. -/
import Derived.Test.YtiegadfhgccliaaGreatDoorRows
import Derived.WalkKit
import Derived.WalkSpells
import Derived.WalkLawsBesides
import Derived.Deep.QuietTactic
import Derived.BigQuiet
import Derived.Lib.Hide
import Derived.Lib.SplitLaws
import Derived.Lib.Join
import Derived.Lib.Strings
namespace Go.Proofs.YtiegadfhgccliaaGreatDoor
open Go.RowKit

def nameByte (c : UInt8) : Bool := decide (33 ≤ c.toNat) && decide (c.toNat ≤ 126) && decide (c.toNat ≠ 47)
def nameOk (s : ByteArray) : Bool := decide (1 ≤ s.size) && decide (s.size ≤ 16) && !(s.toList == [46]) && !(s.toList == [46, 46]) && s.data.toList.all nameByte

theorem nameByte_cases (c : UInt8) : (nameByte c = true ∧ decide ((c.toNat : Int) < 33) = false ∧ decide ((126 : Int) < (c.toNat : Int)) = false ∧ ((c.toNat : Int) == 47) = false) ∨
    (nameByte c = false ∧ decide ((c.toNat : Int) < 33) = true) ∨
    (nameByte c = false ∧ decide ((c.toNat : Int) < 33) = false ∧ decide ((126 : Int) < (c.toNat : Int)) = true) ∨
    (nameByte c = false ∧ decide ((c.toNat : Int) < 33) = false ∧ decide ((126 : Int) < (c.toNat : Int)) = false ∧ ((c.toNat : Int) == 47) = true) := by
  unfold nameByte
  by_cases a : c.toNat < 33
  · right; left; simp; omega
  · by_cases b : 126 < c.toNat
    · right; right; left; simp; omega
    · by_cases d : c.toNat = 47
      · right; right; right; simp [d]
      · left
        have : ((c.toNat : Int) == 47) = false := by rw [beq_eq_false_iff_ne]; omega
        refine ⟨?_, ?_, ?_, this⟩ <;> simp <;> omega
theorem two_drewN (w : World) (n m : Nat) : (w.drewN n).drewN m = w.drewN (n + m) := by simp
theorem take_snoc (s : ByteArray) (k : Nat) (h : k < s.size) : s.data.toList.take (k + 1) = s.data.toList.take k ++ [s[k]] := by
  rw [List.take_succ_eq_append_getElem (by simpa using h)]; rfl
theorem all_bad (s : ByteArray) (k : Nat) (h : k < s.size) (p : UInt8 → Bool) (hp : p s[k] = false) : s.data.toList.all p = false := by
  rw [List.all_eq_false]
  refine ⟨s[k], ?_, by simp [hp]⟩
  have : s[k] = s.data.toList[k]'(by simpa using h) := rfl
  rw [this]
  exact List.getElem_mem _

set_option maxHeartbeats 1000000 in
theorem name_any (s : ByteArray) (hs : s.size ≤ maxLen) (w : World) :
    Calls Tryz.prog 45 #[.string s] w fun e w' => e = .returned (.bool (nameOk s)) ∧ ∃ n, w' = w.drewN n := by
  unfold maxLen at hs
  by_cases h1 : 1 ≤ s.size
  · have d1 : decide ((s.size : Int) < 1) = false := by simp; omega
    by_cases h2 : s.size ≤ 16
    · have d2 : decide ((16 : Int) < (s.size : Int)) = false := by simp; omega
      cases d3 : (s.toList == [46])
      · cases d4 : (s.toList == [46, 46])
        · have hfin : nameOk s = s.data.toList.all nameByte := by unfold nameOk; rw [d3, d4]; simp [h1, h2]
          go_enter Tryz.func45, Tryz.ntmps45
          go_wp2
          go_loopw [22] (fun i wr => ∃ k : Nat, k ≤ s.size ∧ i = .int .i64 k ∧ (s.data.toList.take k).all nameByte = true ∧ ∃ n, wr = w.drewN n) (fun i _ => s.size - (intOf i).toNat)
          case atStart => exact ⟨0, by omega, rfl, rfl, 0, rfl⟩
          case round =>
            obtain ⟨k, hk, rfl, hall, n, rfl⟩ := hrel
            by_cases hlt : k < s.size
            · have hts := take_snoc s k hlt
              have hb := all_bad s k hlt nameByte
              have HA : Hid (nameByte s[k] = true → (s.data.toList.take (k + 1)).all nameByte = true) := by intro h; rw [hts, List.all_append, hall]; simp [h]
              have HB : Hid (nameByte s[k] = false → nameOk s = false) := fun h => by rw [hfin]; exact hb h
              clear hts hb hall hfin
              have h47 : (((⟨#[47]⟩ : ByteArray)[0]'(by decide)).toNat : Int) = 47 := by decide
              rcases nameByte_cases s[k] with ⟨c0, c1, c2, c3⟩ | ⟨c0, c1⟩ | ⟨c0, c1, c2⟩ | ⟨c0, c1, c2, c3⟩
              · have c4 : ((s[k].toNat : Int) == (((⟨#[47]⟩ : ByteArray)[0]'(by decide)).toNat : Int)) = false := by rw [h47]; exact c3
                clear h47
                go_wp2
                go_quiet (fail)
                go_wp2
                exact ⟨⟨k + 1, by omega, by go_num, HA.out c0, _, rfl⟩, by simp [intOf]; omega⟩
              · clear h47
                go_wp2
                go_quiet (fail)
                go_wp2
                go_ret
                exact ⟨by rw [HB.out c0]; rfl, _, two_drewN _ _ _⟩
              · clear h47
                go_wp2
                go_quiet (fail)
                go_wp2
                go_ret
                exact ⟨by rw [HB.out c0]; rfl, _, two_drewN _ _ _⟩
              · have c4 : ((s[k].toNat : Int) == (((⟨#[47]⟩ : ByteArray)[0]'(by decide)).toNat : Int)) = true := by rw [h47]; exact c3
                clear h47
                go_wp2
                go_quiet (fail)
                go_wp2
                go_ret
                exact ⟨by rw [HB.out c0]; rfl, _, two_drewN _ _ _⟩
            · have hk2 : nameOk s = true := by rw [hfin, ← hall, List.take_of_length_le (by simp; omega)]
              clear hfin hall
              go_wp2
              go_ret
              exact ⟨by rw [hk2]; rfl, _, rfl⟩
        · go_enter Tryz.func45, Tryz.ntmps45
          go_wp2
          all_goals (go_ret; exact ⟨by simp [nameOk, d4], 0, rfl⟩)
      · go_enter Tryz.func45, Tryz.ntmps45
        go_wp2
        all_goals (go_ret; exact ⟨by simp [nameOk, d3], 0, rfl⟩)
    · have d2 : decide ((16 : Int) < (s.size : Int)) = true := by simp; omega
      go_enter Tryz.func45, Tryz.ntmps45
      go_wp2
      all_goals (go_ret; exact ⟨by simp [nameOk, h2], 0, rfl⟩)
  · have d1 : decide ((s.size : Int) < 1) = true := by simp; omega
    go_enter Tryz.func45, Tryz.ntmps45
    go_wp2
    all_goals (go_ret; exact ⟨by simp [nameOk, h1], 0, rfl⟩)

end Go.Proofs.YtiegadfhgccliaaGreatDoor
namespace Go.Proofs.YtiegadfhgccliaaGreatDoor
open Go.Lib

/-- The pieces between the slashes. -/
def pieces : List UInt8 → List (List UInt8)
  | [] => [[]]
  | c :: t => if c = 47 then [] :: pieces t else (c :: (pieces t).headD []) :: (pieces t).tail

theorem pieces_ne (t : List UInt8) : pieces t ≠ [] := by
  cases t with
  | nil => simp [pieces]
  | cons c t => unfold pieces; split <;> simp
theorem pieces_slash (t : List UInt8) : pieces (47 :: t) = [] :: pieces t := by simp [pieces]
theorem pieces_sign {c : UInt8} (h : c ≠ 47) (t : List UInt8) : pieces (c :: t) = (c :: (pieces t).headD []) :: (pieces t).tail := by simp [pieces, h]

theorem index_one_hit (t : List UInt8) : index (47 :: t) [47] = 0 := by rw [index]; simp [List.isPrefixOf]
theorem index_one_miss {c : UInt8} (h : c ≠ 47) (t : List UInt8) : index (c :: t) [47] = if index t [47] == -1 then -1 else index t [47] + 1 := by
  have hp : ([47] : List UInt8).isPrefixOf (c :: t) = false := by simp [List.isPrefixOf, Ne.symm h]
  rw [index, hp]; simp

theorem splitK_miss {sep : List UInt8} {s : List UInt8} (k : Nat) (h : index s sep = -1) : splitK sep 0 k s = [s] := by
  cases k with
  | zero => rfl
  | succ k => unfold splitK; rw [if_pos (beq_iff_eq.2 h)]
theorem splitK_hit {sep : List UInt8} {s : List UInt8} (k i : Nat) (h : index s sep = i) : splitK sep 0 (k + 1) s = s.take i :: splitK sep 0 k (s.drop (i + sep.length)) := by
  have hm : ¬ (index s sep == -1) = true := fun e => by have := beq_iff_eq.1 e; omega
  have e : (index s sep).toNat = i := by omega
  rw [splitK, if_neg hm, e]; rfl

theorem split_pieces (s : List UInt8) : splitK [47] 0 (count s [47]) s = pieces s := by
  induction s with
  | nil => rw [splitK_miss _ (by simp [index])]; rfl
  | cons c t ih =>
    by_cases h : c = 47
    · subst h
      rw [count_cons_eq, pieces_slash, Nat.add_comm, splitK_hit _ 0 (by simpa using index_one_hit t), List.take_zero]
      simpa using ih
    · rw [count_cons_ne c 47 t h, pieces_sign h]
      by_cases hm : index t [47] = -1
      · have e1 : index (c :: t) [47] = -1 := by rw [index_one_miss h, if_pos (beq_iff_eq.2 hm)]
        rw [splitK_miss _ e1]
        rw [splitK_miss _ hm] at ih
        rw [← ih]; rfl
      · have hge := index_ge t [47]
        obtain ⟨j, hj⟩ : ∃ j : Nat, index t [47] = j := ⟨(index t [47]).toNat, by omega⟩
        have e1 : index (c :: t) [47] = ((j + 1 : Nat) : Int) := by rw [index_one_miss h, if_neg (fun e => hm (beq_iff_eq.1 e)), hj]; omega
        rw [count_hit (by simp) hj, Nat.add_comm] at ih ⊢
        rw [splitK_hit _ _ e1]
        rw [splitK_hit _ _ hj] at ih
        rw [← ih]
        simp

/-- What strings.Split gives, as lists. -/
theorem splitB_pieces (s : ByteArray) : (splitB ⟨#[47]⟩ 0 (countB s ⟨#[47]⟩) s).map (·.data.toList) = pieces s.data.toList := by
  rw [splitB_data]; exact split_pieces _

/-- The pieces of a text one sign longer. -/
theorem pieces_snoc_slash (t : List UInt8) : pieces (t ++ [47]) = pieces t ++ [[]] := by
  induction t with
  | nil => rfl
  | cons c t ih =>
    by_cases h : c = 47
    · subst h; rw [List.cons_append, pieces_slash, pieces_slash, ih]; rfl
    · rw [List.cons_append, pieces_sign h, pieces_sign h, ih]
      have hn := pieces_ne t
      cases hp : pieces t with
      | nil => exact absurd hp hn
      | cons a r => rfl
theorem pieces_snoc_sign {c : UInt8} (h : c ≠ 47) (t : List UInt8) : pieces (t ++ [c]) = (pieces t).dropLast ++ [(pieces t).getLastD [] ++ [c]] := by
  induction t with
  | nil => simp [pieces, h]
  | cons d t ih =>
    have hn := pieces_ne t
    by_cases h' : d = 47
    · subst h'; rw [List.cons_append, pieces_slash, pieces_slash, ih]
      cases hp : pieces t with
      | nil => exact absurd hp hn
      | cons a r => simp [List.dropLast, List.getLastD]
    · rw [List.cons_append, pieces_sign h', pieces_sign h', ih]
      cases hp : pieces t with
      | nil => exact absurd hp hn
      | cons a r =>
        cases r with
        | nil => simp
        | cons b r => simp [List.dropLast, List.getLastD]

/-- Joined again. -/
theorem join_pieces (t : List UInt8) : join (pieces t) [47] = t := by
  induction t with
  | nil => rfl
  | cons c t ih =>
    have hn := pieces_ne t
    cases hp : pieces t with
    | nil => exact absurd hp hn
    | cons a r =>
      rw [hp, join_cons] at ih
      by_cases h : c = 47
      · subst h
        rw [pieces_slash, hp, join_cons]
        simp [joinTail] at ih ⊢
        exact ih
      · rw [pieces_sign h, hp, join_cons]
        simp at ih ⊢
        exact ih
theorem pieces_plain {a : List UInt8} (h : (47 : UInt8) ∉ a) : pieces a = [a] := by
  induction a with
  | nil => rfl
  | cons c t ih =>
    have h1 : c ≠ 47 := fun e => h (by simp [e])
    rw [pieces_sign h1, ih (fun e => h (by simp [e]))]; rfl
theorem pieces_slash_mid {a : List UInt8} (h : (47 : UInt8) ∉ a) (t : List UInt8) : pieces (a ++ 47 :: t) = a :: pieces t := by
  induction a with
  | nil => exact pieces_slash t
  | cons c a ih =>
    have h1 : c ≠ 47 := fun e => h (by simp [e])
    rw [List.cons_append, pieces_sign h1, ih (fun e => h (by simp [e]))]; rfl
theorem pieces_join : ∀ (a : List UInt8) (r : List (List UInt8)), (∀ x ∈ a :: r, (47 : UInt8) ∉ x) → pieces (join (a :: r) [47]) = a :: r
  | a, [], h => by rw [join_one]; exact pieces_plain (h a (by simp))
  | a, b :: r, h => by
    have ih := pieces_join b r (fun x hx => h x (List.mem_cons_of_mem _ hx))
    have e : join (a :: b :: r) [47] = a ++ 47 :: join (b :: r) [47] := by
      rw [join_cons, join_cons]; simp [joinTail]
    rw [e, pieces_slash_mid (h a (by simp)), ih]
end Go.Proofs.YtiegadfhgccliaaGreatDoor
namespace Go.Proofs.YtiegadfhgccliaaGreatDoor
open Go.RowKit Go.Lib

/-- A row of strings from a place on. -/
structure RdS (w : World) (b o : Nat) (L : List ByteArray) : Prop where
  at_ : ∀ k, k < L.length → w.cell? ⟨b, o + k, none⟩ = some (.string (L.getD k default))
  lt : b < w.heap.size
/-- A slice's address reads as strings (nil and empty ones too). -/
def SlS (w : World) (a : Option Addr) (L : List ByteArray) : Prop := L = [] ∨ ∃ b o, a = some ⟨b, o, none⟩ ∧ RdS w b o L
theorem RdS.below {w w' : World} {b o : Nat} {L : List ByteArray} (h : RdS w b o L) (hb : Below w.heap.size w w') : RdS w' b o L :=
  ⟨fun k hk => (hb.cell (p := ⟨b, o + k, none⟩) h.lt).trans (h.at_ k hk), Nat.lt_of_lt_of_le h.lt hb.size⟩
theorem SlS.below {w w' : World} {a : Option Addr} {L : List ByteArray} (h : SlS w a L) (hb : Below w.heap.size w w') : SlS w' a L := by
  rcases h with h | ⟨b, o, e, hr⟩
  · exact .inl h
  · exact .inr ⟨b, o, e, hr.below hb⟩
theorem SlS.nil (w : World) (a : Option Addr) : SlS w a [] := .inl rfl
theorem SlS.row {w : World} {a : Option Addr} {L : List ByteArray} (h : SlS w a L) (hne : L ≠ []) : ∃ b o, a = some ⟨b, o, none⟩ ∧ RdS w b o L := h.resolve_left hne
theorem SlS.at_ {w : World} {a : Option Addr} {L : List ByteArray} (h : SlS w a L) {k : Nat} (hk : k < L.length) : ∃ b o, a = some ⟨b, o, none⟩ ∧ w.cell? ⟨b, o + k, none⟩ = some (.string (L.getD k default)) ∧ b < w.heap.size := by
  obtain ⟨b, o, e, hr⟩ := h.row (by intro e; subst e; simp at hk)
  exact ⟨b, o, e, hr.at_ k hk, hr.lt⟩
/-- The first ones. -/
theorem SlS.take {w : World} {a : Option Addr} {L : List ByteArray} (h : SlS w a L) (n : Nat) : SlS w a (L.take n) := by
  rcases h with h | ⟨b, o, e, hr⟩
  · exact .inl (by rw [h]; simp)
  · refine .inr ⟨b, o, e, ⟨fun k hk => ?_, hr.lt⟩⟩
    have hk' : k < L.length := by rw [List.length_take] at hk; omega
    have hn : k < n := by rw [List.length_take] at hk; omega
    rw [hr.at_ k hk']
    simp [List.getD, hn]
/-- A row of the call's own. -/
theorem SlS.own {w : World} {base : Nat} {e : TypeId} {v : Value} {L : List ByteArray} (h : w.ownsRow base e 1 v L.length (L.map Value.string)) : ∃ a c, v = .slice a L.length c ∧ L.length ≤ c ∧ SlS w a L := by
  obtain ⟨_, ⟨rfl, hn⟩ | ⟨g, cap, cur, rfl, _, hg, hc, _, _, hx⟩⟩ := h
  · have : L = [] := by cases L; rfl; simp at hn
    subst this
    exact ⟨none, 0, rfl, Nat.le_refl _, .inl rfl⟩
  · refine ⟨_, _, rfl, hc, .inr ⟨g, 0, rfl, ⟨fun k hk => ?_, (Array.getElem?_eq_some_iff.1 hg).1⟩⟩⟩
    have hk1 : (L.map Value.string)[k]? = some (.string (L.getD k default)) := by
      rw [List.getElem?_map]
      simp [List.getD, List.getElem?_eq_getElem hk]
    rw [← hx, List.getElem?_take] at hk1
    split at hk1
    · unfold World.cell?
      rw [hg]
      simpa using hk1
    · cases hk1

abbrev mkB (l : List UInt8) : ByteArray := ⟨l.toArray⟩
theorem mkB_toList (l : List UInt8) : (mkB l).data.toList = l := by simp
theorem mkB_list (l : List UInt8) : (mkB l).toList = l := by rw [toList_data]
theorem mkB_of (s : ByteArray) : mkB s.data.toList = s := mk_data s
theorem mkB_size (l : List UInt8) : (mkB l).size = l.length := by simp [ByteArray.size]
theorem bytes_ext {a b : ByteArray} (h : a.data.toList = b.data.toList) : a = b := by rw [← mk_data a, ← mk_data b, h]
theorem beq_bytes (a b : ByteArray) : (a.toList == b.toList) = decide (a = b) := by
  rw [toList_data, toList_data]
  by_cases h : a = b
  · subst h; simp
  · rw [decide_eq_false h, beq_eq_false_iff_ne]
    exact fun e => h (bytes_ext e)

/-- The pieces of a text as strings. -/
def partsOf (s : ByteArray) : List ByteArray := (pieces s.data.toList).map mkB
theorem splitB_parts (s : ByteArray) : splitB ⟨#[47]⟩ 0 (countB s ⟨#[47]⟩) s = partsOf s := by
  unfold partsOf
  rw [← splitB_pieces, List.map_map]
  conv => lhs; rw [← List.map_id (splitB ⟨#[47]⟩ 0 (countB s ⟨#[47]⟩) s)]
  exact List.map_congr_left fun x _ => (mk_data x).symm
theorem parts_count (s : ByteArray) : countB s ⟨#[47]⟩ + 1 = (partsOf s).length := by
  rw [← splitB_parts, splitB_all _ (by decide) _ _ _ rfl]
/-- A path's parts; none: it is no path. -/
def psplit (s : ByteArray) : Option (List ByteArray) :=
  if s.toList == [47] then some []
  else if decide (64 < s.size) || !(hasPrefix s.data.toList [47]) then none
  else if decide (8 < (partsOf (s.extract 1 s.size)).length) || (partsOf (s.extract 1 s.size)).any (fun x => !nameOk x) then none
  else some (partsOf (s.extract 1 s.size))

theorem hasPrefix_one (s : List UInt8) : hasPrefix s [47] = true ↔ s = 47 :: s.tail := by
  cases s with
  | nil => simp [hasPrefix, List.isPrefixOf]
  | cons c t =>
    unfold hasPrefix
    constructor
    · intro h
      have : 47 = c := by simpa [List.isPrefixOf] using h
      rw [← this]; rfl
    · intro h
      have : c = 47 := (List.cons.inj h).1
      rw [this]; simp [List.isPrefixOf]

/-- The path of parts. -/
def pjoin (L : List ByteArray) : ByteArray := mkB (47 :: join (L.map (·.data.toList)) [47])

theorem nameByte_47 : nameByte 47 = false := by decide
theorem nameOk_plain {s : ByteArray} (h : nameOk s = true) : (47 : UInt8) ∉ s.data.toList := by
  intro hm
  have h1 : s.data.toList.all nameByte = true := by
    unfold nameOk at h
    simp only [Bool.and_eq_true] at h
    exact h.2
  have := List.all_eq_true.1 h1 47 hm
  rw [nameByte_47] at this
  cases this

/-- What a path's parts are. -/
structure PathOk (L : List ByteArray) : Prop where
  few : L.length ≤ 8
  names : ∀ x ∈ L, nameOk x = true
  short : (pjoin L).size ≤ 64

theorem partsOf_join {L : List ByteArray} (hne : L ≠ []) (hn : ∀ x ∈ L, nameOk x = true) : partsOf (mkB (join (L.map (·.data.toList)) [47])) = L := by
  unfold partsOf
  rw [mkB_toList]
  have hj : pieces (join (L.map (·.data.toList)) [47]) = L.map (·.data.toList) := by
    have hm : ∀ x ∈ L.map (fun s : ByteArray => s.data.toList), (47 : UInt8) ∉ x := by
      intro x hx
      obtain ⟨y, hy, rfl⟩ := List.mem_map.1 hx
      exact nameOk_plain (hn y hy)
    cases L with
    | nil => exact absurd rfl hne
    | cons a r => exact pieces_join _ _ hm
  rw [hj, List.map_map]
  conv => rhs; rw [← List.map_id L]
  exact List.map_congr_left fun x _ => mk_data x
theorem join_partsOf (s : ByteArray) : join ((partsOf s).map (·.data.toList)) [47] = s.data.toList := by
  unfold partsOf
  rw [List.map_map]
  have : (pieces s.data.toList).map ((fun x : ByteArray => x.data.toList) ∘ mkB) = pieces s.data.toList := by
    conv => rhs; rw [← List.map_id (pieces s.data.toList)]
    exact List.map_congr_left fun x _ => mkB_toList x
  rw [this, join_pieces]
theorem pjoin_nil : pjoin [] = ⟨#[47]⟩ := by decide
theorem extract_tail (s : ByteArray) : (s.extract 1 s.size).data.toList = s.data.toList.tail := by
  rw [extract_to_end]; simp

theorem psplit_ok {s : ByteArray} {L : List ByteArray} (h : psplit s = some L) : PathOk L ∧ pjoin L = s := by
  unfold psplit at h
  split at h
  · rename_i h0
    obtain rfl := Option.some.inj h
    have h1 : s = ⟨#[47]⟩ := by
      have := beq_iff_eq.1 h0
      rw [toList_data] at this
      exact bytes_ext this
    rw [pjoin_nil, h1]
    exact ⟨⟨by simp, by simp, by rw [pjoin_nil]; decide⟩, rfl⟩
  · rename_i h0
    split at h
    · cases h
    · rename_i h1
      split at h
      · cases h
      · rename_i h2
        obtain rfl := Option.some.inj h
        simp only [Bool.or_eq_true, decide_eq_true_eq, Bool.not_eq_true', not_or, Bool.not_eq_false, List.any_eq_true, not_exists, not_and] at h1 h2
        have e : pjoin (partsOf (s.extract 1 s.size)) = s := by
          unfold pjoin
          rw [join_partsOf, extract_tail, ← (hasPrefix_one _).1 h1.2]
        exact ⟨⟨by omega, h2.2, by rw [e]; omega⟩, e⟩

theorem pjoin_ne {L : List ByteArray} (hn : ∀ x ∈ L, nameOk x = true) (hne : L ≠ []) : ((pjoin L).toList == [47]) = false := by
  rw [beq_eq_false_iff_ne]
  intro e
  unfold pjoin at e
  rw [mkB_list] at e
  have e1 : join (L.map (·.data.toList)) [47] = [] := (List.cons.inj e).2
  have := partsOf_join hne hn
  rw [e1] at this
  have h0 : partsOf (mkB []) = [mkB []] := rfl
  rw [h0] at this
  have h1 := hn (mkB []) (by rw [← this]; simp)
  exact absurd h1 (by decide)

theorem psplit_pjoin {L : List ByteArray} (h : PathOk L) : psplit (pjoin L) = some L := by
  by_cases hne : L = []
  · subst hne; rw [pjoin_nil]; unfold psplit; rw [if_pos (by rw [toList_data]; decide)]
  · unfold psplit
    rw [pjoin_ne h.names hne]
    have hp : hasPrefix (pjoin L).data.toList [47] = true := by rw [hasPrefix_one]; simp [pjoin]
    have he : partsOf ((pjoin L).extract 1 (pjoin L).size) = L := by
      have : (pjoin L).extract 1 (pjoin L).size = mkB (join (L.map (·.data.toList)) [47]) := by
        apply bytes_ext; rw [extract_tail, mkB_toList]; simp [pjoin]
      rw [this, partsOf_join hne h.names]
    rw [he, hp]
    have h1 : decide (64 < (pjoin L).size) = false := by have := h.short; simp; omega
    have h2 : decide (8 < L.length) = false := by have := h.few; simp; omega
    have h3 : L.any (fun x => !nameOk x) = false := by
      rw [List.any_eq_false]
      intro x hx
      simp [h.names x hx]
    rw [h1, h2, h3]
    rfl

/-- Parts that are names, and no path all the same: too many, or too long. -/
theorem psplit_big {L : List ByteArray} (hn : ∀ x ∈ L, nameOk x = true) (h : 8 < L.length ∨ 64 < (pjoin L).size) : psplit (pjoin L) = none := by
  cases hs : psplit (pjoin L) with
  | none => rfl
  | some M =>
    obtain ⟨hM, e⟩ := psplit_ok hs
    exfalso
    have hne : L ≠ [] := by
      rintro rfl
      rcases h with h | h
      · simp at h
      · rw [pjoin_nil] at h; exact absurd h (by decide)
    have hneM : M ≠ [] := by
      rintro rfl
      have := pjoin_ne hn hne
      rw [← e, pjoin_nil, toList_data] at this
      exact absurd this (by decide)
    have e2 : join (M.map (·.data.toList)) [47] = join (L.map (·.data.toList)) [47] := by
      have := congrArg (fun x : ByteArray => x.data.toList) e
      simpa [pjoin] using this
    have e3 := partsOf_join hneM hM.names
    rw [e2, partsOf_join hne hn] at e3
    subst e3
    rcases h with h | h
    · have := hM.few; omega
    · have := hM.short; omega
/-- One path under another. -/
def punder (a b : ByteArray) : Bool :=
  match psplit a, psplit b with
  | some x, some y => decide (y.length < x.length) && (decide (x.take y.length = y))
  | _, _ => false
end Go.Proofs.YtiegadfhgccliaaGreatDoor
namespace Go.Proofs.YtiegadfhgccliaaGreatDoor
open Go.Lib

structure Nd where
  path : ByteArray
  id : Int
  dir : Bool
instance : Inhabited Nd := ⟨⟨⟨#[]⟩, 0, false⟩⟩

/-- Go's '<' on strings. -/
def ltB (a b : ByteArray) : Bool := decide (a.data.toList < b.data.toList)
theorem ltB_irrefl (a : ByteArray) : ltB a a = false := by unfold ltB; simp [List.lt_irrefl]
theorem ltB_trans {a b c : ByteArray} (h : ltB a b = true) (k : ltB b c = true) : ltB a c = true := by
  unfold ltB at *
  simp only [decide_eq_true_eq] at *
  exact List.lt_trans h k
theorem ltB_tri (a b : ByteArray) : ltB a b = true ∨ a = b ∨ ltB b a = true := by
  unfold ltB
  simp only [decide_eq_true_eq]
  by_cases h : a.data.toList < b.data.toList
  · exact .inl h
  · by_cases h2 : b.data.toList < a.data.toList
    · exact .inr (.inr h2)
    · right; left
      exact bytes_ext (List.le_antisymm (List.not_lt.1 h2) (List.not_lt.1 h))
def fnd (s : ByteArray) (L : List Nd) : Option Nd := L.find? fun n => decide (n.path = s)
theorem fnd_some {s : ByteArray} {L : List Nd} {n : Nd} (h : fnd s L = some n) : n ∈ L ∧ n.path = s := by
  unfold fnd at h
  exact ⟨List.mem_of_find?_eq_some h, by simpa using List.find?_some h⟩
theorem fnd_none {s : ByteArray} {L : List Nd} (h : fnd s L = none) : ∀ n ∈ L, n.path ≠ s := by
  unfold fnd at h
  intro n hn
  simpa using List.find?_eq_none.1 h n hn
/-- No path stands twice. -/
def Apart (L : List Nd) : Prop := L.Pairwise fun a b => a.path ≠ b.path
theorem apart_uniq {L : List Nd} (h : Apart L) {a b : Nd} (ha : a ∈ L) (hb : b ∈ L) (e : a.path = b.path) : a = b := by
  induction L with
  | nil => cases ha
  | cons x r ih =>
    obtain ⟨h1, h2⟩ := List.pairwise_cons.1 h
    rcases List.mem_cons.1 ha with rfl | ha'
    · rcases List.mem_cons.1 hb with rfl | hb'
      · rfl
      · exact absurd e (h1 b hb')
    · rcases List.mem_cons.1 hb with rfl | hb'
      · exact absurd e.symm (h1 a ha')
      · exact ih h2 ha' hb'
theorem Apart.perm {L M : List Nd} (h : Apart L) (p : L.Perm M) : Apart M := p.pairwise h fun hab => Ne.symm hab
theorem fnd_mem {L : List Nd} (h : Apart L) {n : Nd} (hn : n ∈ L) : fnd n.path L = some n := by
  cases hf : fnd n.path L with
  | none => exact absurd rfl (fnd_none hf n hn)
  | some m =>
    obtain ⟨h1, h2⟩ := fnd_some hf
    rw [apart_uniq h h1 hn h2]
theorem fnd_perm {L M : List Nd} (h : Apart L) (p : L.Perm M) (s : ByteArray) : fnd s L = fnd s M := by
  cases hf : fnd s L with
  | none =>
    cases hg : fnd s M with
    | none => rfl
    | some m =>
      obtain ⟨h1, h2⟩ := fnd_some hg
      exact absurd h2 (fnd_none hf m (p.mem_iff.2 h1))
  | some n =>
    obtain ⟨h1, h2⟩ := fnd_some hf
    rw [← h2]
    exact (fnd_mem (h.perm p) (p.mem_iff.1 h1)).symm

/-- Part by part from the root on. -/
def lookFrom (F : ByteArray → Option Nd) (pre : List ByteArray) : List ByteArray → Int → Bool → Int × Bool × Int
  | [], id, dir => (id, dir, 0)
  | p :: r, _, dir => if dir = false then (0, false, 7) else match F (pjoin (pre ++ [p])) with
    | none => (0, false, 4)
    | some n => lookFrom F (pre ++ [p]) r n.id n.dir
/-- Look. -/
def lookS (F : ByteArray → Option Nd) (s : ByteArray) : Int × Bool × Int := match psplit s with
  | none => (0, false, 3)
  | some P => lookFrom F [] P 0 true
/-- Why there is no directory ahead of the path of these parts. -/
def aheadS (F : ByteArray → Option Nd) (P : List ByteArray) : Int :=
  if P.isEmpty then 0 else
    if (lookS F (pjoin P.dropLast)).2.2 = 0 then (if (lookS F (pjoin P.dropLast)).2.1 then 0 else 7) else (lookS F (pjoin P.dropLast)).2.2
def parentS (F : ByteArray → Option Nd) (s : ByteArray) : Int := match psplit s with
  | none => 3
  | some P => aheadS F P

def rootP : ByteArray := ⟨#[47]⟩
def canS (L : List Nd) (s : ByteArray) : Int :=
  if parentS (fnd · L) s = 0 then (if (fnd s L).isSome || decide (s = rootP) then 5 else if 64 ≤ L.length then 12 else 0) else parentS (fnd · L) s

/-- A tree's nodes, by path; the next number. -/
structure TS where
  L : List Nd
  nx : Int
/-- A node put in its place. -/
def insN (n : Nd) : List Nd → List Nd
  | [] => [n]
  | m :: r => if ltB m.path n.path then m :: insN n r else n :: m :: r
def makeS (T : TS) (s : ByteArray) (dir : Bool) : TS × Int × Int :=
  if canS T.L s = 0 then (⟨insN ⟨s, T.nx, dir⟩ T.L, T.nx + 1⟩, T.nx, 0) else (T, 0, canS T.L s)

def partsN (s : ByteArray) : List ByteArray := (psplit s).getD []
/-- Does a node move with 'from'? -/
def movesN (src : ByteArray) (n : Nd) : Bool := decide (n.path = src) || punder n.path src
/-- Its path behind the move. -/
def newPath (src dst : ByteArray) (p : ByteArray) : ByteArray := pjoin (partsN dst ++ (partsN p).drop (partsN src).length)
def moveN (src dst : ByteArray) (n : Nd) : Nd := ⟨newPath src dst n.path, n.id, n.dir⟩
/-- Is there a node in a move's way? -/
def thereS (L : List Nd) (dst : ByteArray) (dir : Bool) : Bool := match fnd dst L with
  | some m => m.dir || dir
  | none => false
def canRenS (L : List Nd) (src dst : ByteArray) : Int := match psplit src, psplit dst with
  | some X, some Y =>
    if (lookS (fnd · L) src).2.2 = 0 then
      if X.isEmpty then 8
      else if punder dst src then 10
      else if aheadS (fnd · L) Y = 0 then
        if src = dst then 0
        else if Y.isEmpty || thereS L dst (lookS (fnd · L) src).2.1 then 5
        else if (L.filter (movesN src)).any (fun n => (psplit (newPath src dst n.path)).isNone) then 3
        else 0
      else aheadS (fnd · L) Y
    else (lookS (fnd · L) src).2.2
  | _, _ => 3
def goneS (L : List Nd) (dst : ByteArray) : Int := match fnd dst L with
  | some m => m.id
  | none => -1
def restS (L : List Nd) (src dst : ByteArray) : List Nd := L.filter fun n => !(movesN src n) && !(decide (n.path = dst))
def renS (T : TS) (src dst : ByteArray) : TS × Int × Int :=
  if canRenS T.L src dst = 0 then
    if src = dst then (T, -1, 0)
    else (⟨((T.L.filter (movesN src)).map (moveN src dst)).foldl (fun R n => insN n R) (restS T.L src dst), T.nx⟩, goneS T.L dst, 0)
  else (T, 0, canRenS T.L src dst)
def canDropS (L : List Nd) (s : ByteArray) (dir : Bool) : Int :=
  if (lookS (fnd · L) s).2.2 = 0 then
    if (lookS (fnd · L) s).2.1 && !dir then 6
    else if !(lookS (fnd · L) s).2.1 && dir then 7
    else if decide (s = rootP) || L.any (fun n => punder n.path s) then 8
    else 0
  else (lookS (fnd · L) s).2.2
def dropS (T : TS) (s : ByteArray) (dir : Bool) : TS × Int × Int :=
  if canDropS T.L s dir = 0 then (⟨T.L.filter fun n => !(decide (n.path = s)), T.nx⟩, (lookS (fnd · T.L) s).1, 0) else (T, 0, canDropS T.L s dir)
/-- The names in a directory. -/
def listS (L : List Nd) (s : ByteArray) : List ByteArray := (L.filter fun n => decide (pjoin (partsN n.path).dropLast = s)).map fun n => (partsN n.path).getLastD default
def canListS (L : List Nd) (s : ByteArray) : Int := if (lookS (fnd · L) s).2.2 = 0 then (if (lookS (fnd · L) s).2.1 then 0 else 7) else (lookS (fnd · L) s).2.2

/-! ### Order -/
def Rises (L : List Nd) : Prop := L.Pairwise fun a b => ltB a.path b.path = true
theorem Rises.apart {L : List Nd} (h : Rises L) : Apart L := h.imp fun {a b} hab e => by rw [e, ltB_irrefl] at hab; cases hab
theorem insN_perm (n : Nd) (L : List Nd) : (insN n L).Perm (n :: L) := by
  induction L with
  | nil => exact .refl _
  | cons m r ih =>
    unfold insN
    split
    · exact (ih.cons m).trans (.swap n m r)
    · exact .refl _
theorem insN_rises {n : Nd} {L : List Nd} (h : Rises L) (hn : ∀ m ∈ L, m.path ≠ n.path) : Rises (insN n L) := by
  induction L with
  | nil => exact List.pairwise_singleton _ _
  | cons m r ih =>
    obtain ⟨h1, h2⟩ := List.pairwise_cons.1 h
    unfold insN
    split
    · rename_i hlt
      refine List.pairwise_cons.2 ⟨fun x hx => ?_, ih h2 fun x hx => hn x (List.mem_cons_of_mem _ hx)⟩
      rcases List.mem_cons.1 ((insN_perm n r).mem_iff.1 hx) with rfl | hx'
      · exact hlt
      · exact h1 x hx'
    · rename_i hlt
      have hgt : ltB n.path m.path = true := by
        rcases ltB_tri m.path n.path with h3 | h3 | h3
        · exact absurd h3 hlt
        · exact absurd h3 (hn m (by simp))
        · exact h3
      refine List.pairwise_cons.2 ⟨fun x hx => ?_, h⟩
      rcases List.mem_cons.1 hx with rfl | hx'
      · exact hgt
      · exact ltB_trans hgt (h1 x hx')
theorem insAll_perm (M L : List Nd) : (M.foldl (fun R n => insN n R) L).Perm (L ++ M) := by
  induction M generalizing L with
  | nil => simp
  | cons n M ih =>
    rw [List.foldl_cons]
    refine (ih _).trans ?_
    refine ((insN_perm n L).append_right M).trans ?_
    exact (List.perm_middle (l₁ := L) (a := n) (l₂ := M)).symm
theorem insAll_rises {M L : List Nd} (h : Rises L) (ha : Apart (L ++ M)) : Rises (M.foldl (fun R n => insN n R) L) := by
  induction M generalizing L with
  | nil => exact h
  | cons n M ih =>
    rw [List.foldl_cons]
    have hp : (L ++ n :: M).Perm (insN n L ++ M) := (List.perm_middle (l₁ := L) (a := n) (l₂ := M)).trans ((insN_perm n L).append_right M).symm
    refine ih (insN_rises h fun m hm => ?_) (ha.perm hp)
    have := (List.pairwise_append.1 ha).2.2 m hm n (by simp)
    exact this
theorem Rises.filter {L : List Nd} (h : Rises L) (p : Nd → Bool) : Rises (L.filter p) := List.Pairwise.filter p h
end Go.Proofs.YtiegadfhgccliaaGreatDoor
