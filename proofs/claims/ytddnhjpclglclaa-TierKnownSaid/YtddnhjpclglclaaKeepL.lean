/- What a thinning keeps: in plain Lean; and a row of points that a call has gathered, read as points. -/
import Derived.Test.YtddnhjpclglclaaTrW
import Derived.Test.YtddnhjpclglclaaAskL
import Derived.Test.YtddnhjpclglclaaAgeL
import Derived.WalkKit
namespace Go.Proofs.Ytddnhjpclglclaa
open Go.RowKit Fl
noncomputable def tix (T : List Tr) (now : Nat) (p : Pt) : Int := ofI T (ageOf now p.st)
noncomputable def clash (T : List Tr) (now : Nat) (p q : Pt) : Bool := decide (tix T now q = tix T now p) && fsame (bk p.st (T.getD (tix T now p).toNat default).grain) (bk q.st (T.getD (tix T now p).toNat default).grain)
noncomputable def stayB (T : List Tr) (now : Nat) (L : List Pt) (i : Nat) : Bool := decide (i + 1 = L.length) || !((L.getD i default).mark.toList.isEmpty) || decide (tix T now (L.getD i default) = -1) || (L.drop (i + 1)).all fun q => !clash T now (L.getD i default) q
noncomputable def kept (T : List Tr) (now : Nat) (L : List Pt) (k : Nat) : List Pt := ((List.range k).filter (stayB T now L)).map fun i => L.getD i default
theorem kept_zero (T : List Tr) (now : Nat) (L : List Pt) : kept T now L 0 = [] := rfl
theorem kept_yes {T : List Tr} {now : Nat} {L : List Pt} {k : Nat} (h : stayB T now L k = true) : kept T now L (k + 1) = kept T now L k ++ [L.getD k default] := by
  simp [kept, List.range_succ, List.filter_append, h]
theorem kept_no {T : List Tr} {now : Nat} {L : List Pt} {k : Nat} (h : stayB T now L k = false) : kept T now L (k + 1) = kept T now L k := by
  simp [kept, List.range_succ, List.filter_append, h]
theorem kept_le (T : List Tr) (now : Nat) (L : List Pt) (k : Nat) : (kept T now L k).length ≤ k := by
  unfold kept
  rw [List.length_map]
  exact Nat.le_trans (List.length_filter_le _ _) (by simp)
theorem kept_fit {T : List Tr} {now : Nat} {L : List Pt} (hf : ∀ k, k < L.length → PFit (L.getD k default)) : ∀ k, k ≤ L.length → ∀ p ∈ kept T now L k, PFit p := by
  intro k hk p hp
  simp only [kept, List.mem_map, List.mem_filter, List.mem_range] at hp
  obtain ⟨i, ⟨h1, _⟩, rfl⟩ := hp
  exact hf i (by omega)
theorem stay_last {T : List Tr} {now : Nat} {L : List Pt} {i : Nat} (h : i + 1 = L.length) : stayB T now L i = true := by simp [stayB, h]
theorem stay_mark {T : List Tr} {now : Nat} {L : List Pt} {i : Nat} {p : Pt} (hP : L.getD i default = p) (h : p.mark.toList.isEmpty = false) : stayB T now L i = true := by unfold stayB; rw [hP, h]; simp
theorem stay_none {T : List Tr} {now : Nat} {L : List Pt} {i : Nat} {p : Pt} (hP : L.getD i default = p) (h : tix T now p = -1) : stayB T now L i = true := by unfold stayB; rw [hP]; simp [h]
theorem stay_free {T : List Tr} {now : Nat} {L : List Pt} {i : Nat} {p : Pt} (hP : L.getD i default = p) (h : ∀ j, i + 1 ≤ j → j < L.length → clash T now p (L.getD j default) = false) : stayB T now L i = true := by
  unfold stayB
  rw [hP]
  have : ((L.drop (i + 1)).all fun q => !clash T now p q) = true := by
    rw [List.all_eq_true]
    intro q hq
    obtain ⟨j, hj, e⟩ := List.mem_iff_getElem.1 hq
    rw [List.length_drop] at hj
    have := h (i + 1 + j) (by omega) (by omega)
    rw [getD_el (by omega)] at this
    rw [List.getElem_drop] at e
    rw [← e, this]; rfl
  rw [this]; simp
theorem stay_not {T : List Tr} {now : Nat} {L : List Pt} {i j : Nat} {p : Pt} (hP : L.getD i default = p) (h1 : i + 1 ≠ L.length) (h2 : p.mark.toList.isEmpty = true) (h3 : tix T now p ≠ -1) (hj : i + 1 ≤ j) (hjl : j < L.length) (hc : clash T now p (L.getD j default) = true) : stayB T now L i = false := by
  unfold stayB
  rw [hP, h2, decide_eq_false h1, decide_eq_false h3]
  have : ((L.drop (i + 1)).all fun q => !clash T now p q) = false := by
    rw [List.all_eq_false]
    refine ⟨L.getD j default, ?_, by rw [hc]; decide⟩
    rw [getD_el hjl]
    have : L[j] = (L.drop (i + 1))[j - (i + 1)]'(by rw [List.length_drop]; omega) := by
      rw [List.getElem_drop]; congr 1; omega
    rw [this]
    exact List.getElem_mem _
  rw [this]; rfl
/-- What Keep answers. -/
noncomputable def keepR (T : List Tr) (now : Nat) (L : List Pt) : List Pt × Int := if polB T then (if tmay now && mayB L then (kept T now L L.length, 0) else ([], 1)) else ([], 16)

/-! ### Points that a call has gathered -/
theorem cellsP_append (A B : List Pt) : cellsP (A ++ B) = cellsP A ++ cellsP B := by simp [cellsP]
theorem cellsP_one (p : Pt) : cellsP [p] = [.int .i64 p.seq, .float .f64 p.st, .string p.mark] := by simp [cellsP]
theorem cellsP_length (A : List Pt) : (cellsP A).length = A.length * 3 := by
  induction A with
  | nil => rfl
  | cons p A ih => simp only [cellsP, List.flatMap_cons, List.length_append, List.length_cons] at ih ⊢; simp only [List.length_nil]; omega
theorem cellsP_get (M : List Pt) (k j : Nat) (hk : k < M.length) (hj : j < 3) : (cellsP M)[k * 3 + j]? = [Value.int .i64 (M.getD k default).seq, .float .f64 (M.getD k default).st, .string (M.getD k default).mark][j]? := by
  induction M generalizing k with
  | nil => simp at hk
  | cons q M ih =>
    cases k with
    | zero =>
      simp only [cellsP, List.flatMap_cons, List.cons_append, List.nil_append]
      match j, hj with
      | 0, _ => rfl
      | 1, _ => rfl
      | 2, _ => rfl
    | succ k =>
      have := ih k (by simpa using hk)
      simp only [cellsP, List.flatMap_cons, List.cons_append, List.nil_append] at this ⊢
      rw [show (k + 1) * 3 + j = (k * 3 + j) + 1 + 1 + 1 by omega]
      simpa using this
theorem sl_own {w : World} {base : Nat} {v : Value} {K : List Pt} (h : w.ownsRow base 27 3 v K.length (cellsP K)) (hf : ∀ p ∈ K, PFit p) : SlP w v K ∧ ∃ a cap, v = .slice a K.length cap ∧ K.length ≤ cap := by
  cases K with
  | nil =>
    rcases h.2 with ⟨rfl, _⟩ | ⟨g, cap, cur, rfl, _, _, h1, _⟩
    · exact ⟨.inl ⟨none, 0, rfl, rfl⟩, none, 0, rfl, Nat.le_refl _⟩
    · exact ⟨.inl ⟨_, cap, rfl, rfl⟩, _, cap, rfl, h1⟩
  | cons p K =>
    rcases h.2 with ⟨_, e⟩ | ⟨g, cap, cur, rfl, _, hg, h1, _⟩
    · simp at e
    · refine ⟨.inr ⟨g, 0, cap, rfl, ⟨fun k hk => ?_, (Array.getElem?_eq_some_iff.1 hg).1, fun k hk => ?_⟩⟩, _, cap, rfl, h1⟩
      · refine ⟨?_, ?_, ?_⟩
        · rw [Nat.zero_add, h.cellAt _ (by omega)]; exact cellsP_get _ k 0 hk (by omega)
        · rw [Nat.zero_add, h.cellAt _ (by omega)]; exact cellsP_get _ k 1 hk (by omega)
        · rw [Nat.zero_add, h.cellAt _ (by omega)]; exact cellsP_get _ k 2 hk (by omega)
      · rw [getD_el hk]; exact hf _ (List.getElem_mem _)
theorem own_below {w w' : World} {base : Nat} {e : TypeId} {size : Nat} {v : Value} {n : Nat} {xs : List Value} (h : w.ownsRow base e size v n xs) (hb : Below w.heap.size w w') : w'.ownsRow base e size v n xs := by
  refine ⟨h.1, ?_⟩
  rcases h.2 with h2 | ⟨g, cap, cur, e1, h1, hg, h3⟩
  · exact .inl h2
  · exact .inr ⟨g, cap, cur, e1, h1, keepB hg hb, h3⟩
theorem three_new (W : World) (a b c : Value) (t : TypeId) (B : Nat) (hB : W.heap.size = B) : ∀ (j : Nat) u, [a, b, c][j]? = some u → (W.alloc (.cells #[a, b, c] t)).cell? (Addr.add ⟨B, 0, none⟩ j) = some u := by
  intro j u h
  subst hB
  have : (Addr.add ⟨W.heap.size, 0, none⟩ j) = ⟨W.heap.size, j, none⟩ := by simp [Addr.add]; intro h; exact h.symm
  rw [this, cell_new]
  simpa using h
theorem info_pt : (Try.prog.info? 27).map (fun i => (i.zero, i.size, i.bytes)) = some (some (.agg #[.int .i64 0, .float .f64 0, .string ⟨#[]⟩]), 3, 32) := by kernel_rfl
theorem kept_rel {T : List Tr} {now : Nat} {L : List Pt} {k : Nat} {w1 : World} {base : Nat} {v' : Value} {ps : Int} {pt : Nat} {pm : ByteArray} (hP : L.getD k default = ⟨ps, pt, pm⟩) (h : stayB T now L k = true)
    (hown : w1.ownsRow base 27 3 v' ((kept T now L k).length + 1) (cellsP (kept T now L k) ++ [.int .i64 ps, .float .f64 pt, .string pm])) : w1.ownsRow base 27 3 v' (kept T now L (k + 1)).length (cellsP (kept T now L (k + 1))) := by
  rw [kept_yes h, hP, cellsP_append, cellsP_one, List.length_append, List.length_singleton]
  exact hown
end Go.Proofs.Ytddnhjpclglclaa
