/- Trees in plain Lean: what always holds of a tree; paths under paths. -/
import Derived.Test.YtahdmkmefeocmaaDoorTreeL
namespace Go.Proofs.YtahdmkmefeocmaaDoor
open Go.Lib

theorem pieces_mid (a t : List UInt8) : pieces (a ++ 47 :: t) = pieces a ++ pieces t := by
  induction a with
  | nil => exact pieces_slash t
  | cons c a ih =>
    have hn := pieces_ne a
    by_cases h : c = 47
    · subst h; rw [List.cons_append, pieces_slash, pieces_slash, ih]; rfl
    · rw [List.cons_append, pieces_sign h, pieces_sign h, ih]
      cases hp : pieces a with
      | nil => exact absurd hp hn
      | cons x r => rfl
abbrev raws (L : List ByteArray) : List (List UInt8) := L.map (·.data.toList)
theorem raws_inj : ∀ {L M : List ByteArray}, raws L = raws M → L = M
  | [], [], _ => rfl
  | [], _ :: _, h => by cases h
  | _ :: _, [], h => by cases h
  | a :: L, b :: M, h => by
    have h1 := (List.cons.inj h).1
    have h2 := raws_inj (List.cons.inj h).2
    rw [bytes_ext h1, h2]
theorem raws_append (a b : List ByteArray) : raws (a ++ b) = raws a ++ raws b := List.map_append
theorem joinTail_append (a b : List (List UInt8)) : joinTail [47] (a ++ b) = joinTail [47] a ++ joinTail [47] b := by
  unfold joinTail; rw [List.map_append, List.flatten_append]
theorem pjoin_raw (L : List ByteArray) : (pjoin L).data.toList = 47 :: join (raws L) [47] := by unfold pjoin; rw [mkB_toList]
theorem pjoin_tail {L : List ByteArray} (h : L ≠ []) : (pjoin L).data.toList = joinTail [47] (raws L) := by
  cases L with
  | nil => exact absurd rfl h
  | cons a r => rw [pjoin_raw, raws, List.map_cons, join_cons]; rfl
theorem pieces_raws {L : List ByteArray} (hne : L ≠ []) (hn : ∀ x ∈ L, nameOk x = true) : pieces (join (raws L) [47]) = raws L := by
  have := partsOf_join hne hn
  unfold partsOf at this
  rw [mkB_toList] at this
  have h2 := congrArg raws this
  rw [raws, List.map_map] at h2
  have h3 : (pieces (join (raws L) [47])).map ((fun x : ByteArray => x.data.toList) ∘ mkB) = pieces (join (raws L) [47]) := by
    conv => rhs; rw [← List.map_id (pieces (join (raws L) [47]))]
    exact List.map_congr_left fun x _ => mkB_toList x
  rw [h3] at h2
  exact h2

/-- One path lies under another just if it begins with it and a slash. -/
theorem under_prefix {X Z : List ByteArray} (hX : X ≠ []) (nX : ∀ x ∈ X, nameOk x = true) (nZ : ∀ x ∈ Z, nameOk x = true) :
    hasPrefix (pjoin Z).data.toList ((pjoin X).data.toList ++ [47]) = (decide (X.length < Z.length) && decide (Z.take X.length = X)) := by
  rw [Bool.eq_iff_iff]
  unfold hasPrefix
  rw [List.isPrefixOf_iff_prefix]
  simp only [Bool.and_eq_true, decide_eq_true_eq]
  constructor
  · rintro ⟨t, ht⟩
    have hZ : Z ≠ [] := by
      rintro rfl
      have := congrArg List.length ht
      rw [pjoin_nil, pjoin_raw] at this
      simp at this
    rw [pjoin_raw, pjoin_raw] at ht
    have h1 : join (raws X) [47] ++ 47 :: t = join (raws Z) [47] := by simpa using ht
    have h2 := congrArg pieces h1
    rw [pieces_mid, pieces_raws hX nX, pieces_raws hZ nZ] at h2
    have hp := pieces_ne t
    have hl := congrArg List.length h2
    rw [List.length_append] at hl
    simp only [raws, List.length_map] at hl
    have hpl : 0 < (pieces t).length := by
      cases h : pieces t with
      | nil => exact absurd h hp
      | cons _ _ => simp
    refine ⟨by omega, raws_inj ?_⟩
    rw [raws, List.map_take, ← raws, ← h2]
    exact List.take_left' (by simp [raws])
  · rintro ⟨hl, ht⟩
    have hZe : Z = X ++ Z.drop X.length := by rw [← ht]; simp [List.length_take]; rw [Nat.min_eq_left (by omega)]; exact (List.take_append_drop _ _).symm
    have hD : Z.drop X.length ≠ [] := by
      intro e
      have := congrArg List.length e
      rw [List.length_drop] at this; simp at this; omega
    obtain ⟨y, r, hr⟩ : ∃ y r, Z.drop X.length = y :: r := by
      cases h : Z.drop X.length with
      | nil => exact absurd h hD
      | cons y r => exact ⟨y, r, rfl⟩
    have hZ : Z ≠ [] := by intro e; rw [e] at hl; simp at hl
    rw [pjoin_tail hZ, pjoin_tail hX, hZe, raws_append, joinTail_append, hr]
    refine ⟨y.data.toList ++ joinTail [47] (raws r), ?_⟩
    have : joinTail [47] (List.map (fun x : ByteArray => x.data.toList) (y :: r)) = 47 :: (y.data.toList ++ joinTail [47] (raws r)) := rfl
    rw [this]; simp

/-- The rest of a path, put behind another one. -/
theorem pjoin_move {X Y W : List ByteArray} (hX : X ≠ []) (hY : Y ≠ []) : (pjoin Y).data.toList ++ (pjoin (X ++ W)).data.toList.drop (pjoin X).size = (pjoin (Y ++ W)).data.toList := by
  rw [pjoin_tail hY, pjoin_tail (by simp [hX]), pjoin_tail (by simp [hY]), size_eq, pjoin_tail hX, raws_append, joinTail_append, List.drop_left' rfl, raws_append, joinTail_append]

theorem PathOk.take {L : List ByteArray} (h : PathOk L) (k : Nat) : PathOk (L.take k) := by
  refine ⟨by have := h.few; rw [List.length_take]; omega, fun x hx => h.names x (List.mem_of_mem_take hx), ?_⟩
  have hs := h.short
  rw [size_eq] at hs ⊢
  by_cases h0 : L.take k = []
  · rw [h0, pjoin_nil]; decide
  · have hL : L ≠ [] := by rintro rfl; simp at h0
    rw [pjoin_tail h0]
    rw [pjoin_tail hL] at hs
    have e : raws L = raws (L.take k) ++ raws (L.drop k) := by rw [raws, raws, raws, ← List.map_append, List.take_append_drop]
    rw [e, joinTail_append, List.length_append] at hs
    omega
theorem PathOk.dropLast {L : List ByteArray} (h : PathOk L) : PathOk L.dropLast := by rw [List.dropLast_eq_take]; exact h.take _
theorem split_join {s : ByteArray} {P : List ByteArray} (h : psplit s = some P) : pjoin P = s := (psplit_ok h).2

theorem lookFrom_ok {F : ByteArray → Option Nd} : ∀ {r pre : List ByteArray} {id : Int} {dir : Bool} {i : Int} {d : Bool}, lookFrom F pre r id dir = (i, d, 0) →
    r = [] ∧ i = id ∧ d = dir ∨ r ≠ [] ∧ ∃ n, F (pjoin (pre ++ r)) = some n ∧ i = n.id ∧ d = n.dir
  | [], pre, id, dir, i, d, h => by
    unfold lookFrom at h
    obtain ⟨h1, h2⟩ := Prod.mk.inj h
    exact .inl ⟨rfl, h1.symm, (Prod.mk.inj h2).1.symm⟩
  | p :: r, pre, id, dir, i, d, h => by
    right
    refine ⟨by simp, ?_⟩
    unfold lookFrom at h
    split at h
    · have := (Prod.mk.inj (Prod.mk.inj h).2).2; cases this
    · split at h
      · have := (Prod.mk.inj (Prod.mk.inj h).2).2; cases this
      · rename_i n hn
        rcases lookFrom_ok h with ⟨rfl, h1, h2⟩ | ⟨_, m, h1, h2, h3⟩
        · exact ⟨n, hn, h1, h2⟩
        · exact ⟨m, by rw [List.append_assoc] at h1; exact h1, h2, h3⟩
theorem lookFrom_all {F : ByteArray → Option Nd} {n : Nd} : ∀ {r pre : List ByteArray} {id : Int}, r ≠ [] →
    (∀ j, j < r.length → ∃ m, F (pjoin (pre ++ r.take (j + 1))) = some m ∧ (j + 1 < r.length → m.dir = true) ∧ (j + 1 = r.length → m = n)) → lookFrom F pre r id true = (n.id, n.dir, 0)
  | [], _, _, h, _ => absurd rfl h
  | p :: r, pre, id, _, H => by
    obtain ⟨m, h1, h2, h3⟩ := H 0 (by simp)
    have h1' : F (pjoin (pre ++ [p])) = some m := by simpa using h1
    unfold lookFrom
    rw [if_neg (by decide)]
    simp only [h1']
    by_cases hr : r = []
    · subst hr
      have := h3 (by simp)
      subst this
      rfl
    · have hd : m.dir = true := h2 (by
        have : 0 < r.length := List.length_pos_iff.2 hr
        simp; omega)
      rw [hd]
      refine lookFrom_all hr fun j hj => ?_
      obtain ⟨m', g1, g2, g3⟩ := H (j + 1) (by simp; omega)
      refine ⟨m', ?_, fun h => g2 (by simp; omega), fun h => g3 (by simp; omega)⟩
      rw [List.take_succ_cons] at g1
      rw [List.append_assoc]
      exact g1
/-- Found, it is there. -/
theorem lookS_ok {F : ByteArray → Option Nd} {s : ByteArray} {i : Int} {d : Bool} (h : lookS F s = (i, d, 0)) : ∃ P, psplit s = some P ∧ (P = [] ∧ i = 0 ∧ d = true ∨ P ≠ [] ∧ ∃ n, F s = some n ∧ i = n.id ∧ d = n.dir) := by
  unfold lookS at h
  split at h
  · have := (Prod.mk.inj (Prod.mk.inj h).2).2; cases this
  · rename_i P hP
    refine ⟨P, hP, ?_⟩
    rcases lookFrom_ok h with ⟨h1, h2, h3⟩ | ⟨h1, n, h2, h3, h4⟩
    · exact .inl ⟨h1, h2, h3⟩
    · rw [List.nil_append, split_join hP] at h2
      exact .inr ⟨h1, n, h2, h3, h4⟩

/-- What always holds of a tree. -/
structure TInv (T : TS) : Prop where
  rises : Rises T.L
  path : ∀ n ∈ T.L, ∃ P, psplit n.path = some P ∧ P ≠ [] ∧ (P.dropLast = [] ∨ ∃ m ∈ T.L, m.path = pjoin P.dropLast ∧ m.dir = true)
  ids : ∀ n ∈ T.L, 1 ≤ n.id ∧ n.id < T.nx
  uniq : ∀ a ∈ T.L, ∀ b ∈ T.L, a.id = b.id → a = b
  nx1 : 1 ≤ T.nx
  few : T.L.length ≤ 64

theorem TInv.new : TInv ⟨[], 1⟩ := ⟨List.Pairwise.nil, by simp, by simp, by simp, by decide, by simp⟩
theorem TInv.anc {T : TS} (h : TInv T) : ∀ (k : Nat) (n : Nd) (P : List ByteArray), n ∈ T.L → psplit n.path = some P → P.length = k → ∀ j, 0 < j → j < P.length → ∃ m ∈ T.L, m.path = pjoin (P.take j) ∧ m.dir = true
  | 0, _, _, _, _, hk, _, _, hj => by omega
  | k + 1, n, P, hn, hP, hk, j, h0, hj => by
    obtain ⟨P', hP', hne, hpar⟩ := h.path n hn
    rw [hP] at hP'
    cases hP'
    have hdl : P.dropLast.length = k := by rw [List.length_dropLast]; omega
    rcases hpar with he | ⟨m, hm, hmp, hmd⟩
    · rw [he] at hdl; simp at hdl; omega
    · have hps : psplit m.path = some P.dropLast := by rw [hmp]; exact psplit_pjoin (psplit_ok hP).1.dropLast
      by_cases hjk : j = k
      · refine ⟨m, hm, ?_, hmd⟩
        rw [hmp, List.dropLast_eq_take, hk, hjk]; rfl
      · obtain ⟨m', g1, g2, g3⟩ := TInv.anc h k m P.dropLast hm hps hdl j h0 (by omega)
        refine ⟨m', g1, ?_, g3⟩
        rw [g2, List.dropLast_eq_take, List.take_take, Nat.min_eq_left (by omega)]
/-- What is there, is found. -/
theorem TInv.look {T : TS} (h : TInv T) {n : Nd} (hn : n ∈ T.L) : lookS (fnd · T.L) n.path = (n.id, n.dir, 0) := by
  obtain ⟨P, hP, hne, _⟩ := h.path n hn
  unfold lookS
  rw [hP]
  refine lookFrom_all hne fun j hj => ?_
  by_cases hl : j + 1 < P.length
  · obtain ⟨m, h1, h2, h3⟩ := h.anc P.length n P hn hP rfl (j + 1) (by omega) hl
    refine ⟨m, ?_, fun _ => h3, fun e => by omega⟩
    rw [List.nil_append, ← h2]
    exact fnd_mem h.rises.apart h1
  · have e : j + 1 = P.length := by omega
    refine ⟨n, ?_, fun e2 => by omega, fun _ => rfl⟩
    rw [List.nil_append, e, List.take_length, split_join hP]
    exact fnd_mem h.rises.apart hn
end Go.Proofs.YtahdmkmefeocmaaDoor
