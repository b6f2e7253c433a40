/- Maps as association lists: ranged over, in whatever order; the laws at the operations. No program in sight. -/
import Derived.Test.YtiegadfhgccliaaGreatDoorMName
import Derived.WalkKit
import Derived.ProofKit
import Derived.Maps.RangeWalk
import Derived.Laws.AppendOwn
namespace Go.Proofs.YtiegadfhgccliaaGreatDoor
open Go.Lib

theorem pieces_mid (a t : List UInt8) : pieces (a ++ 47 :: t) = pieces a ++ pieces t := by
  induction a with
  | nil => exact pieces_slash t
  | cons c a ih =>
    have hn := pieces_ne a
    by_cases h : c = 47
    · subst h; rw [List.cons_append, pieces_slash, pieces_slash, ih]; rfl
    · rw [List.cons_append, pieces_sign h, pieces_sign h, ih]
      cases hp : pieces a with
      | nil => exact absurd hp hn
      | cons x r => rfl
abbrev raws (L : List ByteArray) : List (List UInt8) := L.map (·.data.toList)
theorem raws_inj : ∀ {L M : List ByteArray}, raws L = raws M → L = M
  | [], [], _ => rfl
  | [], _ :: _, h => by cases h
  | _ :: _, [], h => by cases h
  | a :: L, b :: M, h => by
    have h1 := (List.cons.inj h).1
    have h2 := raws_inj (List.cons.inj h).2
    rw [bytes_ext h1, h2]
theorem raws_append (a b : List ByteArray) : raws (a ++ b) = raws a ++ raws b := List.map_append
theorem joinTail_append (a b : List (List UInt8)) : joinTail [47] (a ++ b) = joinTail [47] a ++ joinTail [47] b := by
  unfold joinTail; rw [List.map_append, List.flatten_append]
theorem pjoin_raw (L : List ByteArray) : (pjoin L).data.toList = 47 :: join (raws L) [47] := by unfold pjoin; rw [mkB_toList]
theorem pjoin_tail {L : List ByteArray} (h : L ≠ []) : (pjoin L).data.toList = joinTail [47] (raws L) := by
  cases L with
  | nil => exact absurd rfl h
  | cons a r => rw [pjoin_raw, raws, List.map_cons, join_cons]; rfl
theorem pieces_raws {L : List ByteArray} (hne : L ≠ []) (hn : ∀ x ∈ L, nameOk x = true) : pieces (join (raws L) [47]) = raws L := by
  have := partsOf_join hne hn
  unfold partsOf at this
  rw [mkB_toList] at this
  have h2 := congrArg raws this
  rw [raws, List.map_map] at h2
  have h3 : (pieces (join (raws L) [47])).map ((fun x : ByteArray => x.data.toList) ∘ mkB) = pieces (join (raws L) [47]) := by
    conv => rhs; rw [← List.map_id (pieces (join (raws L) [47]))]
    exact List.map_congr_left fun x _ => mkB_toList x
  rw [h3] at h2
  exact h2

/-- One path lies under another just if it begins with it and a slash. -/
theorem under_prefix {X Z : List ByteArray} (hX : X ≠ []) (nX : ∀ x ∈ X, nameOk x = true) (nZ : ∀ x ∈ Z, nameOk x = true) :
    hasPrefix (pjoin Z).data.toList ((pjoin X).data.toList ++ [47]) = (decide (X.length < Z.length) && decide (Z.take X.length = X)) := by
  rw [Bool.eq_iff_iff]
  unfold hasPrefix
  rw [List.isPrefixOf_iff_prefix]
  simp only [Bool.and_eq_true, decide_eq_true_eq]
  constructor
  · rintro ⟨t, ht⟩
    have hZ : Z ≠ [] := by
      rintro rfl
      have := congrArg List.length ht
      rw [pjoin_nil, pjoin_raw] at this
      simp at this
    rw [pjoin_raw, pjoin_raw] at ht
    have h1 : join (raws X) [47] ++ 47 :: t = join (raws Z) [47] := by simpa using ht
    have h2 := congrArg pieces h1
    rw [pieces_mid, pieces_raws hX nX, pieces_raws hZ nZ] at h2
    have hp := pieces_ne t
    have hl := congrArg List.length h2
    rw [List.length_append] at hl
    simp only [raws, List.length_map] at hl
    have hpl : 0 < (pieces t).length := by
      cases h : pieces t with
      | nil => exact absurd h hp
      | cons _ _ => simp
    refine ⟨by omega, raws_inj ?_⟩
    rw [raws, List.map_take, ← raws, ← h2]
    exact List.take_left' (by simp [raws])
  · rintro ⟨hl, ht⟩
    have hZe : Z = X ++ Z.drop X.length := by rw [← ht]; simp [List.length_take]; rw [Nat.min_eq_left (by omega)]; exact (List.take_append_drop _ _).symm
    have hD : Z.drop X.length ≠ [] := by
      intro e
      have := congrArg List.length e
      rw [List.length_drop] at this; simp at this; omega
    obtain ⟨y, r, hr⟩ : ∃ y r, Z.drop X.length = y :: r := by
      cases h : Z.drop X.length with
      | nil => exact absurd h hD
      | cons y r => exact ⟨y, r, rfl⟩
    have hZ : Z ≠ [] := by intro e; rw [e] at hl; simp at hl
    rw [pjoin_tail hZ, pjoin_tail hX, hZe, raws_append, joinTail_append, hr]
    refine ⟨y.data.toList ++ joinTail [47] (raws r), ?_⟩
    have : joinTail [47] (List.map (fun x : ByteArray => x.data.toList) (y :: r)) = 47 :: (y.data.toList ++ joinTail [47] (raws r)) := rfl
    rw [this]; simp

/-- The rest of a path, put behind another one. -/
theorem pjoin_move {X Y W : List ByteArray} (hX : X ≠ []) (hY : Y ≠ []) : (pjoin Y).data.toList ++ (pjoin (X ++ W)).data.toList.drop (pjoin X).size = (pjoin (Y ++ W)).data.toList := by
  rw [pjoin_tail hY, pjoin_tail (by simp [hX]), pjoin_tail (by simp [hY]), size_eq, pjoin_tail hX, raws_append, joinTail_append, List.drop_left' rfl, raws_append, joinTail_append]

theorem PathOk.take {L : List ByteArray} (h : PathOk L) (k : Nat) : PathOk (L.take k) := by
  refine ⟨by have := h.few; rw [List.length_take]; omega, fun x hx => h.names x (List.mem_of_mem_take hx), ?_⟩
  have hs := h.short
  rw [size_eq] at hs ⊢
  by_cases h0 : L.take k = []
  · rw [h0, pjoin_nil]; decide
  · have hL : L ≠ [] := by rintro rfl; simp at h0
    rw [pjoin_tail h0]
    rw [pjoin_tail hL] at hs
    have e : raws L = raws (L.take k) ++ raws (L.drop k) := by rw [raws, raws, raws, ← List.map_append, List.take_append_drop]
    rw [e, joinTail_append, List.length_append] at hs
    omega
theorem PathOk.dropLast {L : List ByteArray} (h : PathOk L) : PathOk L.dropLast := by rw [List.dropLast_eq_take]; exact h.take _
theorem split_join {s : ByteArray} {P : List ByteArray} (h : psplit s = some P) : pjoin P = s := (psplit_ok h).2

theorem lookFrom_ok {F : ByteArray → Option Nd} : ∀ {r pre : List ByteArray} {id : Int} {dir : Bool} {i : Int} {d : Bool}, lookFrom F pre r id dir = (i, d, 0) →
    r = [] ∧ i = id ∧ d = dir ∨ r ≠ [] ∧ ∃ n, F (pjoin (pre ++ r)) = some n ∧ i = n.id ∧ d = n.dir
  | [], pre, id, dir, i, d, h => by
    unfold lookFrom at h
    obtain ⟨h1, h2⟩ := Prod.mk.inj h
    exact .inl ⟨rfl, h1.symm, (Prod.mk.inj h2).1.symm⟩
  | p :: r, pre, id, dir, i, d, h => by
    right
    refine ⟨by simp, ?_⟩
    unfold lookFrom at h
    split at h
    · have := (Prod.mk.inj (Prod.mk.inj h).2).2; cases this
    · split at h
      · have := (Prod.mk.inj (Prod.mk.inj h).2).2; cases this
      · rename_i n hn
        rcases lookFrom_ok h with ⟨rfl, h1, h2⟩ | ⟨_, m, h1, h2, h3⟩
        · exact ⟨n, hn, h1, h2⟩
        · exact ⟨m, by rw [List.append_assoc] at h1; exact h1, h2, h3⟩
theorem lookFrom_all {F : ByteArray → Option Nd} {n : Nd} : ∀ {r pre : List ByteArray} {id : Int}, r ≠ [] →
    (∀ j, j < r.length → ∃ m, F (pjoin (pre ++ r.take (j + 1))) = some m ∧ (j + 1 < r.length → m.dir = true) ∧ (j + 1 = r.length → m = n)) → lookFrom F pre r id true = (n.id, n.dir, 0)
  | [], _, _, h, _ => absurd rfl h
  | p :: r, pre, id, _, H => by
    obtain ⟨m, h1, h2, h3⟩ := H 0 (by simp)
    have h1' : F (pjoin (pre ++ [p])) = some m := by simpa using h1
    unfold lookFrom
    rw [if_neg (by decide)]
    simp only [h1']
    by_cases hr : r = []
    · subst hr
      have := h3 (by simp)
      subst this
      rfl
    · have hd : m.dir = true := h2 (by
        have : 0 < r.length := List.length_pos_iff.2 hr
        simp; omega)
      rw [hd]
      refine lookFrom_all hr fun j hj => ?_
      obtain ⟨m', g1, g2, g3⟩ := H (j + 1) (by simp; omega)
      refine ⟨m', ?_, fun h => g2 (by simp; omega), fun h => g3 (by simp; omega)⟩
      rw [List.take_succ_cons] at g1
      rw [List.append_assoc]
      exact g1
/-- Found, it is there. -/
theorem lookS_ok {F : ByteArray → Option Nd} {s : ByteArray} {i : Int} {d : Bool} (h : lookS F s = (i, d, 0)) : ∃ P, psplit s = some P ∧ (P = [] ∧ i = 0 ∧ d = true ∨ P ≠ [] ∧ ∃ n, F s = some n ∧ i = n.id ∧ d = n.dir) := by
  unfold lookS at h
  split at h
  · have := (Prod.mk.inj (Prod.mk.inj h).2).2; cases this
  · rename_i P hP
    refine ⟨P, hP, ?_⟩
    rcases lookFrom_ok h with ⟨h1, h2, h3⟩ | ⟨h1, n, h2, h3, h4⟩
    · exact .inl ⟨h1, h2, h3⟩
    · rw [List.nil_append, split_join hP] at h2
      exact .inr ⟨h1, n, h2, h3, h4⟩

/-- What always holds of a tree. -/
structure TInv (T : TS) : Prop where
  rises : Rises T.L
  path : ∀ n ∈ T.L, ∃ P, psplit n.path = some P ∧ P ≠ [] ∧ (P.dropLast = [] ∨ ∃ m ∈ T.L, m.path = pjoin P.dropLast ∧ m.dir = true)
  ids : ∀ n ∈ T.L, 1 ≤ n.id ∧ n.id < T.nx
  uniq : ∀ a ∈ T.L, ∀ b ∈ T.L, a.id = b.id → a = b
  nx1 : 1 ≤ T.nx
  few : T.L.length ≤ 64

theorem TInv.new : TInv ⟨[], 1⟩ := ⟨List.Pairwise.nil, by simp, by simp, by simp, by decide, by simp⟩
theorem TInv.anc {T : TS} (h : TInv T) : ∀ (k : Nat) (n : Nd) (P : List ByteArray), n ∈ T.L → psplit n.path = some P → P.length = k → ∀ j, 0 < j → j < P.length → ∃ m ∈ T.L, m.path = pjoin (P.take j) ∧ m.dir = true
  | 0, _, _, _, _, hk, _, _, hj => by omega
  | k + 1, n, P, hn, hP, hk, j, h0, hj => by
    obtain ⟨P', hP', hne, hpar⟩ := h.path n hn
    rw [hP] at hP'
    cases hP'
    have hdl : P.dropLast.length = k := by rw [List.length_dropLast]; omega
    rcases hpar with he | ⟨m, hm, hmp, hmd⟩
    · rw [he] at hdl; simp at hdl; omega
    · have hps : psplit m.path = some P.dropLast := by rw [hmp]; exact psplit_pjoin (psplit_ok hP).1.dropLast
      by_cases hjk : j = k
      · refine ⟨m, hm, ?_, hmd⟩
        rw [hmp, List.dropLast_eq_take, hk, hjk]; rfl
      · obtain ⟨m', g1, g2, g3⟩ := TInv.anc h k m P.dropLast hm hps hdl j h0 (by omega)
        refine ⟨m', g1, ?_, g3⟩
        rw [g2, List.dropLast_eq_take, List.take_take, Nat.min_eq_left (by omega)]
/-- What is there, is found. -/
theorem TInv.look {T : TS} (h : TInv T) {n : Nd} (hn : n ∈ T.L) : lookS (fnd · T.L) n.path = (n.id, n.dir, 0) := by
  obtain ⟨P, hP, hne, _⟩ := h.path n hn
  unfold lookS
  rw [hP]
  refine lookFrom_all hne fun j hj => ?_
  by_cases hl : j + 1 < P.length
  · obtain ⟨m, h1, h2, h3⟩ := h.anc P.length n P hn hP rfl (j + 1) (by omega) hl
    refine ⟨m, ?_, fun _ => h3, fun e => by omega⟩
    rw [List.nil_append, ← h2]
    exact fnd_mem h.rises.apart h1
  · have e : j + 1 = P.length := by omega
    refine ⟨n, ?_, fun e2 => by omega, fun _ => rfl⟩
    rw [List.nil_append, e, List.take_length, split_join hP]
    exact fnd_mem h.rises.apart hn
end Go.Proofs.YtiegadfhgccliaaGreatDoor
namespace Go.Proofs.YtiegadfhgccliaaGreatDoor
open Go.ChangeMaps (setBlock map_eraseIdx)
open Go.MapKept (IsKey Stamped findNow_spec stamped_push stamped_modify stamped_erase run_findKey run_keyThatStays)

/-- How a key's type lies in a map. -/
structure KeyOf (κ : Type) where
  d : TypeDesc
  enc : κ → Value
  isKey : ∀ a, IsKey d (enc a)
  inj : ∀ a b, enc a = enc b → a = b
def strKey : KeyOf ByteArray := ⟨.string, Value.string, fun _ => trivial, fun a b h => by cases h; rfl⟩
def intKey : KeyOf Int := ⟨.int .i64, Value.int .i64, fun _ => rfl, fun a b h => by cases h; rfl⟩

variable {κ : Type}

def look [DecidableEq κ] (k : κ) (M : List (κ × Value)) : Option Value := (M.find? fun p => decide (p.1 = k)).map (·.2)
def mput [DecidableEq κ] (k : κ) (v : Value) (M : List (κ × Value)) : List (κ × Value) := if M.any (fun p => decide (p.1 = k)) then M.map (fun p => if p.1 = k then (k, v) else p) else M ++ [(k, v)]
def mdel [DecidableEq κ] (k : κ) (M : List (κ × Value)) : List (κ × Value) := M.filter fun p => decide (p.1 ≠ k)

/-- Block mb is a map that holds just M, in the order in which its keys came. -/
def MapIs (K : KeyOf κ) (w : World) (mb : Nat) (M : List (κ × Value)) : Prop :=
  ∃ es clock, w.heap[mb]? = some (.map es clock) ∧ Stamped es clock ∧ es.toList.map (fun e => (e.key, e.val)) = M.map fun p => (K.enc p.1, p.2)

theorem MapIs.lt {K : KeyOf κ} {w : World} {mb : Nat} {M : List (κ × Value)} (h : MapIs K w mb M) : mb < w.heap.size := by
  obtain ⟨es, clock, hb, _⟩ := h
  exact (Array.getElem?_eq_some_iff.1 hb).1
theorem MapIs.of_block {K : KeyOf κ} {w w' : World} {mb : Nat} {M : List (κ × Value)} (h : MapIs K w mb M) (e : w'.heap[mb]? = w.heap[mb]?) : MapIs K w' mb M := by
  obtain ⟨es, clock, hb, r⟩ := h
  exact ⟨es, clock, e.trans hb, r⟩
theorem MapIs.below {K : KeyOf κ} {w w' : World} {mb B : Nat} {M : List (κ × Value)} (h : MapIs K w mb M) (hb : RowKit.Below B w w') (hl : mb < B) : MapIs K w' mb M := h.of_block (hb.block mb hl)
theorem MapIs.new (K : KeyOf κ) (w : World) : MapIs K (w.alloc (.map #[] 0)) w.heap.size [] :=
  ⟨#[], 0, (MapKept.heap_alloc w _).1, ⟨by simp, by simp, by simp⟩, rfl⟩

theorem keys_nodup {K : KeyOf κ} {es : Array MapEntry} {clock : Nat} {M : List (κ × Value)} (hs : Stamped es clock) (hM : es.toList.map (fun e => (e.key, e.val)) = M.map fun p => (K.enc p.1, p.2)) : (M.map (·.1)).Nodup := by
  have h := hs.2.2
  have e1 : es.toList.map (·.key) = (es.toList.map (fun e => (e.key, e.val))).map (·.1) := by rw [List.map_map]; rfl
  rw [e1, hM, List.map_map] at h
  have e2 : (M.map ((fun x => x.1) ∘ fun p => (K.enc p.1, p.2))) = (M.map (·.1)).map K.enc := by rw [List.map_map]; rfl
  rw [e2] at h
  exact List.Pairwise.of_map _ (fun a b hab e => hab (by rw [e])) h
theorem MapIs.nodup {K : KeyOf κ} {w : World} {mb : Nat} {M : List (κ × Value)} (h : MapIs K w mb M) : (M.map (·.1)).Nodup := by
  obtain ⟨es, clock, _, hs, hM⟩ := h
  exact keys_nodup hs hM

theorem es_keys {K : KeyOf κ} {es : Array MapEntry} {M : List (κ × Value)} (hM : es.toList.map (fun e => (e.key, e.val)) = M.map fun p => (K.enc p.1, p.2)) :
    ∀ x ∈ es.toList, ∃ p ∈ M, x.key = K.enc p.1 ∧ x.val = p.2 := by
  intro x hx
  have : (x.key, x.val) ∈ M.map fun p => (K.enc p.1, p.2) := by rw [← hM]; exact List.mem_map.2 ⟨x, hx, rfl⟩
  obtain ⟨p, hp, e⟩ := List.mem_map.1 this
  exact ⟨p, hp, (Prod.mk.inj e).1.symm, (Prod.mk.inj e).2.symm⟩

/-- Which entry, if any. -/
theorem find_entry (K : KeyOf κ) {es : Array MapEntry} {M : List (κ × Value)} (hM : es.toList.map (fun e => (e.key, e.val)) = M.map fun p => (K.enc p.1, p.2)) (k : κ) :
    (Instr.findNow K.d (K.enc k) es.toList 0 = some none ∧ (∀ p ∈ M, p.1 ≠ k) ∧ ∀ x ∈ es.toList, x.key ≠ K.enc k) ∨
    ∃ j e v, Instr.findNow K.d (K.enc k) es.toList 0 = some (some (j, v)) ∧ es.toList[j]? = some e ∧ e.key = K.enc k ∧ e.val = v ∧ M[j]? = some (k, v) := by
  have hk : ∀ x ∈ es.toList, IsKey K.d x.key := fun x hx => by
    obtain ⟨p, _, e, _⟩ := es_keys hM x hx
    rw [e]; exact K.isKey _
  rcases findNow_spec (K.isKey k) es.toList 0 hk with ⟨h1, h2⟩ | ⟨j, e, h1, h2, h3⟩
  · left
    refine ⟨h1, ?_, h2⟩
    intro p hp e
    have : (K.enc p.1, p.2) ∈ es.toList.map (fun e => (e.key, e.val)) := by rw [hM]; exact List.mem_map.2 ⟨p, hp, rfl⟩
    obtain ⟨x, hx, ex⟩ := List.mem_map.1 this
    exact h2 x hx (by rw [(Prod.mk.inj ex).1, e])
  · right
    refine ⟨j, e, e.val, by simpa using h1, h2, h3, rfl, ?_⟩
    have : (es.toList.map (fun e => (e.key, e.val)))[j]? = some (e.key, e.val) := by rw [List.getElem?_map, h2]; rfl
    rw [hM, List.getElem?_map] at this
    cases hm : M[j]? with
    | none => rw [hm] at this; cases this
    | some p =>
      rw [hm] at this
      simp only [Option.map_some, Option.some.injEq, Prod.mk.injEq] at this
      have e1 : p.1 = k := K.inj _ _ (this.1.trans h3)
      rw [← e1, ← this.2]

theorem look_none [DecidableEq κ] {k : κ} {M : List (κ × Value)} (h : ∀ p ∈ M, p.1 ≠ k) : look k M = none := by
  unfold look
  rw [List.find?_eq_none.2 (by intro p hp; simp [h p hp])]; rfl
theorem look_some [DecidableEq κ] {k : κ} {v : Value} {M : List (κ × Value)} {j : Nat} (hn : (M.map (·.1)).Nodup) (h : M[j]? = some (k, v)) : look k M = some v := by
  induction M generalizing j with
  | nil => cases h
  | cons p M ih =>
    cases j with
    | zero =>
      simp at h; subst h
      simp [look]
    | succ j =>
      simp at h
      have hmem : (k, v) ∈ M := List.mem_of_getElem? h
      have hne : p.1 ≠ k := by
        intro e
        simp only [List.map_cons, List.nodup_cons] at hn
        exact hn.1 (List.mem_map.2 ⟨(k, v), hmem, e.symm⟩)
      have := ih (by simp only [List.map_cons, List.nodup_cons] at hn; exact hn.2) h
      unfold look at this ⊢
      rw [List.find?_cons]
      simp [hne]
      simpa using this

theorem erase_filter [DecidableEq κ] {k : κ} {v : Value} : ∀ {M : List (κ × Value)} {j : Nat}, (M.map (·.1)).Nodup → M[j]? = some (k, v) → M.eraseIdx j = mdel k M
  | [], _, _, h => by cases h
  | p :: M, 0, hn, h => by
    simp at h; subst h
    simp only [List.map_cons, List.nodup_cons] at hn
    simp only [List.eraseIdx_cons_zero, mdel, List.filter_cons]
    have : decide ((k, v).1 ≠ k) = false := by simp
    rw [this]
    simp only [Bool.false_eq_true, if_false]
    exact (List.filter_eq_self.2 (by
      intro q hq
      simp only [decide_eq_true_eq]
      intro e
      exact hn.1 (List.mem_map.2 ⟨q, hq, e⟩))).symm
  | p :: M, j + 1, hn, h => by
    simp at h
    simp only [List.map_cons, List.nodup_cons] at hn
    have hne : p.1 ≠ k := by
      intro e
      exact hn.1 (List.mem_map.2 ⟨(k, v), List.mem_of_getElem? h, e.symm⟩)
    simp only [List.eraseIdx_cons_succ, mdel, List.filter_cons]
    have : decide (p.1 ≠ k) = true := by simp [hne]
    rw [this, if_pos rfl, erase_filter hn.2 h]
    rfl

section laws
variable [DecidableEq κ] {P : Program} {w : World} {mb : Nat} {M : List (κ × Value)} {t kt et : TypeId}

theorem run_look (K : KeyOf κ) (h : MapIs K w mb M) (ht : P.underlying t = some (.map kt et)) (hd : P.underlying kt = some K.d) {z : Value} (hz : (zeroValue et).run P w = .ok z w) (k : κ) :
    (Instr.lookup t (.map (some mb)) (K.enc k) false).run P w = .ok ((look k M).getD z) w := by
  obtain ⟨es, clock, hb, hs, hM⟩ := h
  rcases find_entry K hM k with ⟨h1, h2, _⟩ | ⟨j, e, v, h1, h2, h3, h4, h5⟩
  · rw [look_none h2]
    simp [Instr.lookup, run_underlying ht, MapKept.run_getObj_map hb, MapKept.run_checkKey hd (K.isKey k), run_findKey hd h1, hz, Result.andThen]
  · rw [look_some (keys_nodup hs hM) h5]
    simp [Instr.lookup, run_underlying ht, MapKept.run_getObj_map hb, MapKept.run_checkKey hd (K.isKey k), run_findKey hd h1, Result.andThen]
theorem run_look_ok (K : KeyOf κ) (h : MapIs K w mb M) (ht : P.underlying t = some (.map kt et)) (hd : P.underlying kt = some K.d) {z : Value} (hz : (zeroValue et).run P w = .ok z w) (k : κ) :
    (Instr.lookup t (.map (some mb)) (K.enc k) true).run P w = .ok (.tuple #[(look k M).getD z, .bool (look k M).isSome]) w := by
  obtain ⟨es, clock, hb, hs, hM⟩ := h
  rcases find_entry K hM k with ⟨h1, h2, _⟩ | ⟨j, e, v, h1, h2, h3, h4, h5⟩
  · rw [look_none h2]
    simp [Instr.lookup, run_underlying ht, MapKept.run_getObj_map hb, MapKept.run_checkKey hd (K.isKey k), run_findKey hd h1, hz, Result.andThen]
  · rw [look_some (keys_nodup hs hM) h5]
    simp [Instr.lookup, run_underlying ht, MapKept.run_getObj_map hb, MapKept.run_checkKey hd (K.isKey k), run_findKey hd h1, Result.andThen]

end laws
theorem below_setBlock {B : Nat} {a w : World} (h : RowKit.Below B a w) {b : Nat} (hb : B ≤ b) (o : Obj) : RowKit.Below B a (setBlock w b o) := by
  refine h.trans ⟨rfl, rfl, rfl, by show w.heap.size ≤ (w.heap.setIfInBounds b o).size; simp, fun k hk => ?_⟩
  show (w.heap.setIfInBounds b o)[k]? = _
  have : b ≠ k := by omega
  simp [this]
theorem heap_setBlock (w : World) (b : Nat) (o : Obj) (h : b < w.heap.size) : (setBlock w b o).heap[b]? = some o := by
  show (w.heap.setIfInBounds b o)[b]? = _
  simp [h]
theorem heap_setBlock_ne (w : World) (b c : Nat) (o : Obj) (h : c ≠ b) : (setBlock w b o).heap[c]? = w.heap[c]? := by
  show (w.heap.setIfInBounds b o)[c]? = _
  simp [Ne.symm h]

section laws
variable [DecidableEq κ] {P : Program} {w : World} {mb : Nat} {M : List (κ × Value)} {t kt et : TypeId}
/-- 'm[k] = v'. -/
theorem run_put (K : KeyOf κ) (h : MapIs K w mb M) (ht : P.underlying t = some (.map kt et)) (hd : P.underlying kt = some K.d) (k : κ) (v : Value) :
    ∃ o, ∀ w' : World, w'.heap[mb]? = w.heap[mb]? → (Instr.mapUpdate t (.map (some mb)) (K.enc k) v).run P w' = .ok () (setBlock w' mb o) ∧ MapIs K (setBlock w' mb o) mb (mput k v M) := by
  obtain ⟨es, clock, hb, hs, hM⟩ := h
  rcases find_entry K hM k with ⟨h1, h2, h3⟩ | ⟨j, e, v0, h1, h2, h3, h4, h5⟩
  · refine ⟨.map (es.push ⟨K.enc k, v, clock⟩) (clock + 1), fun w' hw' => ?_⟩
    have hb := hw'.trans hb
    have hlt : mb < w'.heap.size := (Array.getElem?_eq_some_iff.1 hb).1
    refine ⟨?_, es.push ⟨K.enc k, v, clock⟩, clock + 1, heap_setBlock _ _ _ hlt, stamped_push hs h3, ?_⟩
    · simp [Instr.mapUpdate, run_underlying ht, MapKept.run_getObj_map hb, MapKept.run_checkKey hd (K.isKey k), run_findKey hd h1, MapKept.run_setObj_map _ hb, Result.andThen, setBlock]
    · have : M.any (fun p => decide (p.1 = k)) = false := by rw [List.any_eq_false]; intro p hp; simp [h2 p hp]
      unfold mput
      rw [this]
      simp [hM]
  · have hj : es[j]? = some e := by simpa using h2
    have hkeyf : ∀ e', es[j]? = some e' → ({ e' with key := K.enc k, val := v } : MapEntry).key = e'.key := fun e' he' => by rw [hj] at he'; cases he'; exact h3.symm
    refine ⟨.map (es.modify j fun e' => { e' with key := K.enc k, val := v }) clock, fun w' hw' => ?_⟩
    have hb := hw'.trans hb
    have hlt : mb < w'.heap.size := (Array.getElem?_eq_some_iff.1 hb).1
    refine ⟨?_, es.modify j fun e' => { e' with key := K.enc k, val := v }, clock, heap_setBlock _ _ _ hlt, stamped_modify hs _ _ (fun _ _ => rfl) (fun e' _ he' => hkeyf e' he'), ?_⟩
    · simp [Instr.mapUpdate, run_underlying ht, MapKept.run_getObj_map hb, MapKept.run_checkKey hd (K.isKey k), run_findKey hd h1, hj, h3, run_keyThatStays (K.isKey k), MapKept.run_setObj_map _ hb, Result.andThen, setBlock]
    · have hany : M.any (fun p => decide (p.1 = k)) = true := by rw [List.any_eq_true]; exact ⟨(k, v0), List.mem_of_getElem? h5, by simp⟩
      unfold mput
      rw [hany, if_pos rfl]
      have hn := keys_nodup hs hM
      apply List.ext_getElem?
      intro i
      simp only [List.getElem?_map, Array.getElem?_toList, Array.getElem?_modify]
      have hMi : (es.toList.map (fun e => (e.key, e.val)))[i]? = (M.map fun p => (K.enc p.1, p.2))[i]? := by rw [hM]
      simp only [List.getElem?_map, Array.getElem?_toList] at hMi
      by_cases hij : j = i
      · subst hij
        rw [h5, hj]; simp
      · rw [if_neg hij]
        cases hm : M[i]? with
        | none => rw [hm] at hMi; simpa using hMi
        | some p =>
          rw [hm] at hMi
          have hne : p.1 ≠ k := by
            intro e1
            have a1 : (M.map (·.1))[i]? = some k := by rw [List.getElem?_map, hm, ← e1]; rfl
            have a2 : (M.map (·.1))[j]? = some k := by rw [List.getElem?_map, h5]; rfl
            have li := (List.getElem?_eq_some_iff.1 a1).1
            have lj := (List.getElem?_eq_some_iff.1 a2).1
            have : (M.map (·.1))[i] = (M.map (·.1))[j] := by
              rw [(List.getElem?_eq_some_iff.1 a1).2, (List.getElem?_eq_some_iff.1 a2).2]
            exact hij ((List.getElem_inj hn).1 this).symm
          simp [hne]
          simpa using hMi

/-- 'delete(m, k)'. -/
theorem run_del (K : KeyOf κ) (h : MapIs K w mb M) (ht : P.underlying t = some (.map kt et)) (hd : P.underlying kt = some K.d) (k : κ) (at_ : Array TypeId) (hat : at_[0]? = some t) (rt : TypeId) :
    ∃ o, ∀ w' : World, w'.heap[mb]? = w.heap[mb]? → (Builtin.delete_ at_ rt #[.map (some mb), K.enc k]).run P w' = .ok (.tuple #[]) (setBlock w' mb o) ∧ MapIs K (setBlock w' mb o) mb (mdel k M) := by
  obtain ⟨es, clock, hb, hs, hM⟩ := h
  rcases find_entry K hM k with ⟨h1, h2, h3⟩ | ⟨j, e, v0, h1, h2, h3, h4, h5⟩
  · refine ⟨.map es clock, fun w' hw' => ?_⟩
    have hb := hw'.trans hb
    have hlt : mb < w'.heap.size := (Array.getElem?_eq_some_iff.1 hb).1
    refine ⟨?_, es, clock, heap_setBlock _ _ _ hlt, hs, ?_⟩
    · simp [Builtin.delete_, hat, run_underlying ht, MapKept.run_getObj_map hb, MapKept.run_checkKey hd (K.isKey k), run_findKey hd h1, MapKept.run_setObj_map _ hb, Result.andThen, setBlock]
    · unfold mdel
      rw [hM, List.filter_eq_self.2 (by intro p hp; simp [h2 p hp])]
  · refine ⟨.map (es.eraseIdxIfInBounds j) clock, fun w' hw' => ?_⟩
    have hb := hw'.trans hb
    have hlt : mb < w'.heap.size := (Array.getElem?_eq_some_iff.1 hb).1
    refine ⟨?_, es.eraseIdxIfInBounds j, clock, heap_setBlock _ _ _ hlt, stamped_erase hs j, ?_⟩
    · simp [Builtin.delete_, hat, run_underlying ht, MapKept.run_getObj_map hb, MapKept.run_checkKey hd (K.isKey k), run_findKey hd h1, MapKept.run_setObj_map _ hb, Result.andThen, setBlock]
    · have hn := keys_nodup hs hM
      have hjl : j < es.size := by simpa using (List.getElem?_eq_some_iff.1 h2).1
      have e1 : (es.eraseIdxIfInBounds j).toList = es.toList.eraseIdx j := by
        unfold Array.eraseIdxIfInBounds
        rw [dif_pos hjl, Array.toList_eraseIdx]
      rw [e1]
      have e2 : (es.toList.eraseIdx j).map (fun e => (e.key, e.val)) = (M.eraseIdx j).map fun p => (K.enc p.1, p.2) := by
        rw [map_eraseIdx, map_eraseIdx, hM]
      rw [e2]
      rw [erase_filter hn h5]
omit [DecidableEq κ] in
theorem run_maplen (K : KeyOf κ) (h : MapIs K w mb M) (ht : P.underlying t = some (.map kt et)) (at_ : Array TypeId) (hat : at_[0]? = some t) (rt : TypeId) :
    (Builtin.len_ at_ rt #[.map (some mb)]).run P w = .ok (.int .i64 M.length) w := by
  obtain ⟨es, clock, hb, hs, hM⟩ := h
  have hl : es.size = M.length := by
    have := congrArg List.length hM
    simpa using this
  simp [Builtin.len_, hat, run_underlying ht, MapKept.run_getObj_map hb, Result.andThen, goInt, hl]
end laws

/-! ### What stands in them -/
section plain
variable [DecidableEq κ]
end plain
end Go.Proofs.YtiegadfhgccliaaGreatDoor
namespace Go.Proofs.YtiegadfhgccliaaGreatDoor
open Go.ChangeMaps (setBlock map_eraseIdx)
open Go.MapKept (IsKey Stamped)
open Go.RowKit

variable {κ : Type}

theorem filter_erase {es : List MapEntry} (hn : (es.map (·.born)).Nodup) : ∀ {i : Nat} {e : MapEntry}, es[i]? = some e → es.filter (fun x => !(x.born == e.born)) = es.eraseIdx i := by
  induction es with
  | nil => intro i e h; simp at h
  | cons a r ih =>
    intro i e h
    have hn' : a.born ∉ r.map (·.born) ∧ (r.map (·.born)).Nodup := List.nodup_cons.1 hn
    cases i with
    | zero =>
      simp at h; subst h
      rw [List.filter_cons]
      simp only [beq_self_eq_true, Bool.not_true, Bool.false_eq_true, if_false, List.eraseIdx_cons_zero]
      refine List.filter_eq_self.2 fun x hx => ?_
      simp only [Bool.not_eq_true', beq_eq_false_iff_ne]
      intro e2
      exact hn'.1 (List.mem_map.2 ⟨x, hx, e2⟩)
    | succ i =>
      simp at h
      have hne : (a.born == e.born) = false := by
        rw [beq_eq_false_iff_ne]
        intro e2
        exact hn'.1 (List.mem_map.2 ⟨e, List.mem_of_getElem? h, e2.symm⟩)
      rw [List.filter_cons, hne]
      simp only [Bool.not_false, if_true, List.eraseIdx_cons_succ]
      rw [ih hn'.2 h]

/-- 'for k, v := range m' under way: block mb is the map M, block r an iterator over it; left: what is still to come. -/
def MapIt (K : KeyOf κ) (w : World) (mb r : Nat) (M left : List (κ × Value)) : Prop :=
  ∃ es clock since seen c0, w.heap[mb]? = some (.map es clock) ∧ Stamped es clock ∧ es.toList.map (fun e => (e.key, e.val)) = M.map (fun p => (K.enc p.1, p.2)) ∧
    w.heap[r]? = some (.mapIter (some mb) since seen c0) ∧ (∀ x ∈ es.toList, x.born < since) ∧ since ≤ c0 ∧ since ≤ clock ∧ (leftOf es seen).toList.map (fun e => (e.key, e.val)) = left.map (fun p => (K.enc p.1, p.2))
theorem MapIt.of_blocks {K : KeyOf κ} {w w' : World} {mb r : Nat} {M left : List (κ × Value)} (h : MapIt K w mb r M left) (h1 : w'.heap[mb]? = w.heap[mb]?) (h2 : w'.heap[r]? = w.heap[r]?) : MapIt K w' mb r M left := by
  obtain ⟨es, clock, since, seen, c0, a, b, c, d, e⟩ := h
  exact ⟨es, clock, since, seen, c0, h1.trans a, b, c, h2.trans d, e⟩
theorem MapIt.is {K : KeyOf κ} {w : World} {mb r : Nat} {M left : List (κ × Value)} (h : MapIt K w mb r M left) : MapIs K w mb M := by
  obtain ⟨es, clock, _, _, _, a, b, c, _⟩ := h
  exact ⟨es, clock, a, b, c⟩
theorem MapIt.lt {K : KeyOf κ} {w : World} {mb r : Nat} {M left : List (κ × Value)} (h : MapIt K w mb r M left) : r < w.heap.size := by
  obtain ⟨es, clock, since, seen, c0, _, _, _, d, _⟩ := h
  exact (Array.getElem?_eq_some_iff.1 d).1
theorem MapIt.ne {K : KeyOf κ} {w : World} {mb r : Nat} {M left : List (κ × Value)} (h : MapIt K w mb r M left) : r ≠ mb := by
  obtain ⟨es, clock, since, seen, c0, a, _, _, d, _⟩ := h
  intro e
  rw [e, a] at d
  cases d
theorem MapIt.alloc {K : KeyOf κ} {w : World} {mb r : Nat} {M left : List (κ × Value)} (h : MapIt K w mb r M left) (o : Obj) : MapIt K (w.alloc o) mb r M left :=
  h.of_blocks (Below.heap_alloc _ _ _ h.is.lt) (Below.heap_alloc _ _ _ h.lt)
/-- A block that is an array's is neither the map nor the iterator. -/
theorem MapIt.ne_row {K : KeyOf κ} {w : World} {mb r g : Nat} {M left : List (κ × Value)} (h : MapIt K w mb r M left) {c : Array Value} {t : TypeId} {f : Nat × Nat} (hg : w.heap[g]? = some (.cells c t f)) : mb ≠ g ∧ r ≠ g := by
  obtain ⟨es, clock, since, seen, c0, a, _, _, d, _⟩ := h
  refine ⟨fun e => ?_, fun e => ?_⟩
  · rw [e, hg] at a; cases a
  · rw [e, hg] at d; cases d
/-- .. while a row of the call's own grows. -/
theorem MapIt.grown {K : KeyOf κ} {w w' : World} {mb r : Nat} {M left : List (κ × Value)} (h : MapIt K w mb r M left) {base : Nat} {e : TypeId} {size : Nat} {v : Value} {n : Nat} {xs : List Value} (ho : w.ownsRow base e size v n xs) (hg : w.grownBy w' v.ownBlock) : MapIt K w' mb r M left := by
  have h1 := h.is.lt
  have h2 := h.lt
  rcases ho.2 with ⟨rfl, _⟩ | ⟨g, cap, cur, rfl, _, hb, _⟩
  · exact h.of_blocks (hg.block mb h1 (by simp [Value.ownBlock])) (hg.block r h2 (by simp [Value.ownBlock]))
  · obtain ⟨n1, n2⟩ := h.ne_row hb
    exact h.of_blocks (hg.block mb h1 (by simpa [Value.ownBlock] using n1)) (hg.block r h2 (by simpa [Value.ownBlock] using n2))

variable {P : Program} {w : World} {mb r : Nat} {M left : List (κ × Value)}

theorem run_range_it {t kt et : TypeId} (K : KeyOf κ) (h : MapIs K w mb M) (ht : P.underlying t = some (.map kt et)) :
    ∃ o, (Instr.range t (.map (some mb))).run P w = .ok (.pointer (some ⟨w.heap.size, 0, none⟩)) (w.alloc o) ∧ MapIt K (w.alloc o) mb w.heap.size M M := by
  have hlt := h.lt
  obtain ⟨es, clock, hb, hs, hM⟩ := h
  refine ⟨_, run_range_map w t kt et mb es clock ht hb, es, clock, clock, #[], clock, (Below.heap_alloc _ _ _ hlt).trans hb, hs, hM, heap_alloc_new _ _, ((MapKept.stamped_iff es clock).1 hs).1, Nat.le_refl _, Nat.le_refl _, ?_⟩
  have : leftOf es #[] = es := by unfold leftOf; exact Array.filter_eq_self.2 (by simp)
  rw [this]; exact hM

/-- The step: nothing is left, or one, whichever, comes out. -/
theorem MapIt.next (K : KeyOf κ) (h : MapIt K w mb r M left) (ty : TypeId) :
    (left = [] ∧ (Instr.next (.pointer (some ⟨r, 0, none⟩)) false ty).run P w = .ok (.tuple #[.bool false]) w) ∨
    ∃ i k v w1 o, left[i]? = some (k, v) ∧ (w1 = w ∨ w1 = w.drew) ∧ (Instr.next (.pointer (some ⟨r, 0, none⟩)) false ty).run P w = .ok (.tuple #[.bool true, K.enc k, v]) (setBlock w1 r o) ∧
      MapIt K (setBlock w1 r o) mb r M (left.eraseIdx i) ∧ (Instr.entry (.pointer (some ⟨r, 0, none⟩))).run P (setBlock w1 r o) = .ok (.tuple #[K.enc k, v]) (setBlock w1 r o) := by
  have hne := h.ne
  obtain ⟨es, clock, since, seen, c0, hb, hs, hM, hr, hold, hsc, hsk, hl⟩ := h
  have hst := (MapKept.stamped_iff es clock).1 hs
  rcases run_next_at (P := P) w ty r mb since c0 seen es clock hr hb hold hsc with ⟨h0, hrun⟩ | ⟨e, he, w1, hal, hrun⟩
  · left
    refine ⟨?_, hrun⟩
    have := congrArg List.length hl
    rw [List.length_map, Array.length_toList, h0, List.length_map] at this
    exact List.eq_nil_of_length_eq_zero this.symm
  · right
    obtain ⟨i, hi⟩ := List.getElem?_of_mem he
    have hmap : ((leftOf es seen).toList.map (fun e => (e.key, e.val)))[i]? = some (e.key, e.val) := by rw [List.getElem?_map, hi]; rfl
    rw [hl, List.getElem?_map] at hmap
    obtain ⟨⟨k, v⟩, hkv, hk⟩ : ∃ p, left[i]? = some p ∧ (K.enc p.1, p.2) = (e.key, e.val) := by
      cases hq : left[i]? with
      | none => rw [hq] at hmap; cases hmap
      | some p => rw [hq] at hmap; exact ⟨p, rfl, Option.some.inj hmap⟩
    have hk1 : K.enc k = e.key := (Prod.mk.inj hk).1
    have hk2 : v = e.val := (Prod.mk.inj hk).2
    obtain ⟨hem, _⟩ := mem_left he
    have hr1 : w1.heap[r]? = some (.mapIter (some mb) since seen c0) := by rcases hal with rfl | rfl <;> exact hr
    have hb1 : w1.heap[mb]? = some (.map es clock) := by rcases hal with rfl | rfl <;> exact hb
    have hset := MapKept.heap_set (o' := .mapIter (some mb) since (seen.push e.born) clock) hr1
    have hb' : (setBlock w1 r (.mapIter (some mb) since (seen.push e.born) clock)).heap[mb]? = some (.map es clock) := (hset.2 mb (fun e1 => hne e1.symm)).trans hb1
    refine ⟨i, k, v, w1, .mapIter (some mb) since (seen.push e.born) clock, hkv, hal, by rw [hk1, hk2]; exact hrun, ⟨es, clock, since, seen.push e.born, clock, hb', hs, hM, hset.1, hold, hsk, hsk, ?_⟩, ?_⟩
    · rw [map_eraseIdx, ← hl, ← map_eraseIdx]
      congr 1
      have hnd : ((leftOf es seen).toList.map (·.born)).Nodup := by
        have : (leftOf es seen).toList.Sublist es.toList := by
          unfold leftOf; rw [Array.toList_filter]; exact List.filter_sublist
        exact (this.map _).nodup hst.2.1
      rw [← filter_erase hnd hi]
      unfold leftOf
      rw [Array.toList_filter, Array.toList_filter, List.filter_filter]
      refine List.filter_congr fun x _ => ?_
      rw [contains_push]
      cases seen.contains x.born <;> cases (x.born == e.born) <;> rfl
    · rw [hk1, hk2]
      exact run_entry_at _ r mb since seen es clock e hset.1 hb' hem hst.2.1

section ops
variable {ops : Array Oper} {rest : List Oper} {o : Oper} {a : Act} {Q : Exit → Act → World → Prop}
theorem wpList_range_it (w : World) (hg : o.guard = none) (m : Operand) (t : TypeId) (hop : o.op = Op.range t m) (kt et : TypeId) (K : KeyOf κ) (ht : P.underlying t = some (.map kt et)) (mb : Nat) (M : List (κ × Value))
    (hm : a.eval m = .map (some mb)) (h : MapIs K w mb M)
    (hK : ∀ ob, MapIt K (w.alloc ob) mb w.heap.size M M → wpList P ops Q rest (a.put o.dst (.pointer (some ⟨w.heap.size, 0, none⟩))) (w.alloc ob)) :
    wpList P ops Q (o :: rest) a w := by
  refine wpList_plain hg fun K' hK' => ?_
  obtain ⟨ob, hrun, h1⟩ := run_range_it (P := P) K h ht
  unfold Oper.wp
  simp [execOp, hop, hm, hrun, Result.andThen]
  exact hK' _ _ (hK ob h1)
theorem wpList_next_it (w : World) (hg : o.guard = none) (it : Operand) (hop : o.op = Op.next it false) (K : KeyOf κ) (mb r : Nat) (M left : List (κ × Value))
    (hit : a.eval it = .pointer (some ⟨r, 0, none⟩)) (h : MapIt K w mb r M left)
    (hDone : left = [] → wpList P ops Q rest (a.put o.dst (.tuple #[.bool false])) w)
    (hMore : ∀ i k v w1 ob, left[i]? = some (k, v) → (w1 = w ∨ w1 = w.drew) → MapIt K (setBlock w1 r ob) mb r M (left.eraseIdx i) →
      (Instr.entry (.pointer (some ⟨r, 0, none⟩))).run P (setBlock w1 r ob) = .ok (.tuple #[K.enc k, v]) (setBlock w1 r ob) → wpList P ops Q rest (a.put o.dst (.tuple #[.bool true, K.enc k, v])) (setBlock w1 r ob)) :
    wpList P ops Q (o :: rest) a w := by
  refine wpList_plain hg fun K' hK' => ?_
  unfold Oper.wp
  rcases h.next (P := P) K o.type with ⟨h0, hrun⟩ | ⟨i, k, v, w1, ob, hi, hw1, hrun, hit2, hen⟩
  · simp [execOp, hop, hit, hrun, Result.andThen]
    exact hK' _ _ (hDone h0)
  · simp [execOp, hop, hit, hrun, Result.andThen]
    exact hK' _ _ (hMore i k v w1 ob hi hw1 hit2 hen)
end ops
end Go.Proofs.YtiegadfhgccliaaGreatDoor
