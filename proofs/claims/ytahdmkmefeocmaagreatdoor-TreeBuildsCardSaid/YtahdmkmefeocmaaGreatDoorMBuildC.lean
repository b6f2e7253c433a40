/- Walks for Build: slices.Clone of nodes, cmp.Compare of strings. -/
import Derived.Test.YtahdmkmefeocmaaGreatDoorMTreeN
import Derived.Test.YtahdmkmefeocmaaGreatDoorMBase
import Derived.Sort.Walk0
import Derived.Laws.Cover3
namespace Go.Proofs.YtahdmkmefeocmaaGreatDoor
open Go.RowKit Go.Lib

theorem own_empty (w : World) (e : TypeId) (size B : Nat) (hB : w.heap.size = B) : (w.alloc (.cells #[] e)).ownsRow B e size (.slice (some ⟨B, 0, none⟩) 0 0) 0 [] := by
  subst hB
  exact ⟨by simp, .inr ⟨_, 0, #[], rfl, Nat.le_refl _, heap_alloc_new w _, Nat.le_refl _, by unfold maxLen; omega, by simp, by simp⟩⟩
theorem run_eql_slice_nil {P : Program} (w : World) (t e : TypeId) (a : Option Addr) (l c : Nat) (h : P.underlying t = some (.slice e)) : (binOp .eql t (.slice a l c) (.slice none 0 0)).run P w = .ok (.bool a.isNone) w := by
  simp only [binOp]
  simp [run_equal_slice_nil w t e a l c h]
set_option maxRecDepth 100000 in
set_option maxHeartbeats 4000000 in
theorem nodes_clone (L : List Nd) (a : Option Addr) (c : Nat) (w : World) (hS : SlN w a L) (hc : L.length ≤ c) (hl : L.length ≤ 1000000) :
    Calls Tryz.prog 42 #[.slice a L.length c] w fun e w' => ∃ v, e = .returned v ∧ w'.ownsRow w.heap.size 54 3 v L.length (cellsN L) ∧ Below w.heap.size w w' := by
  have HS := Lib.hid hS
  obtain ⟨i0, hi, hz0, hz1, hz2⟩ := info_parts info_nd
  have hq := run_eql_slice_nil (P := Tryz.prog) w 51 _ a L.length c Tryz.underlying51
  cases a with
  | none =>
    have hL : L = [] := by
      rcases hS with h | ⟨b, o, e, _⟩
      · exact h
      · cases e
    subst hL
    have hq : (binOp .eql 51 (.slice none 0 c) (.slice none 0 0)).run Tryz.prog w = .ok (.bool true) w := hq
    clear hS
    go_enter Tryz.func42, Tryz.ntmps42
    go_wp2
    go_ret
    exact ⟨_, rfl, World.ownsRow_nil _ _ _ _, Below.refl _ _⟩
  | some ad =>
    have hq : (binOp .eql 51 (.slice (some ad) L.length c) (.slice none 0 0)).run Tryz.prog w = .ok (.bool false) w := hq
    have HNw : Hid (∀ j u, (cellsN L)[j]? = some u → (w.alloc (.cells #[] 54)).cell? (ad.add j) = some u) := fun j u hu => by
      have h := sln_take_news (hS.below ((Below.refl _ _).alloc (Nat.le_refl _) (.cells #[] 54))) L.length
      rw [List.take_length] at h
      obtain ⟨b, e, h2⟩ := h j u hu
      cases e
      exact h2
    clear hS HS
    go_enter Tryz.func42, Tryz.ntmps42
    go_wp2_with (at_builtin; refine wpList_append_own _ rfl (.tmp 5) (.tmp 6) 51 rfl w.heap.size 54 i0 _ 3 32 Tryz.underlying51 hi hz0 hz1 hz2 rfl (by decide) _ 0 [] rfl (own_empty w _ _ _ rfl) ad L.length c (cellsN L) rfl (cellsN_len L) HNw.out (cellsN_one L) (by unfold maxLen; omega) (by omega) (by simp) ?_; intro v' w3 hown' hgrow hnil; clear hnil; rw [Nat.zero_add, List.nil_append] at hown'; have HO2 := Lib.hid hown'; have HG := Lib.hid hgrow; clear hown' hgrow)
    go_ret
    exact ⟨v', rfl, HO2.out, grown_below ((Below.refl _ _).alloc (Nat.le_refl _) _) (by simp) (own_empty w _ 3 _ rfl) HG.out⟩
theorem bytes_ltn (a b : ByteArray) : Op.bytesLess a.toList b.toList = ltB a b := by unfold ltB; rw [bytesLess_eq, toList_data, toList_data]
/-- cmp.Compare at two nodes' paths. -/
def cfN (x y : Nd) : Int := if ltB x.path y.path then -1 else if ltB y.path x.path then 1 else 0
set_option maxRecDepth 100000 in
set_option maxHeartbeats 4000000 in
theorem isnan_str (s : ByteArray) (w : World) : Calls Tryz.prog 69 #[.string s] w fun e w' => e = .returned (.bool false) ∧ w' = w := by
  go_enter Tryz.func69, Tryz.ntmps69
  go_wp2
  go_ret
  exact ⟨rfl, rfl⟩
set_option maxRecDepth 100000 in
set_option maxHeartbeats 4000000 in
theorem compare_str (s t : ByteArray) (w : World) : Calls Tryz.prog 45 #[.string s, .string t] w fun e w' => e = .returned (.int .i64 (if ltB s t then -1 else if ltB t s then 1 else 0)) ∧ w' = w := by
  have HN := Lib.hid (fun s W => isnan_str s W)
  have h1 := bytes_ltn s t
  have hbq := beq_bytes s t
  rcases ltB_tri s t with h | h | h
  · rw [h] at h1
    rw [if_pos h]
    clear h hbq
    go_enter Tryz.func45, Tryz.ntmps45
    go_wp2_with fail
    with_reducible refine Calls.mono (HN.out _ _) ?_
    rintro e w ⟨rfl, rfl⟩
    go_wp2_with fail
    with_reducible refine Calls.mono (HN.out _ _) ?_
    rintro e w ⟨rfl, rfl⟩
    go_wp2
    go_ret
    exact ⟨rfl, rfl⟩
  · subst h
    have h2 := ltB_irrefl s
    rw [h2] at h1
    rw [h2, if_neg (by decide), if_neg (by decide)]
    rw [decide_eq_true rfl] at hbq
    clear h2
    go_enter Tryz.func45, Tryz.ntmps45
    go_wp2_with fail
    with_reducible refine Calls.mono (HN.out _ _) ?_
    rintro e w ⟨rfl, rfl⟩
    go_wp2_with fail
    with_reducible refine Calls.mono (HN.out _ _) ?_
    rintro e w ⟨rfl, rfl⟩
    go_wp2
    go_ret
    exact ⟨rfl, rfl⟩
  · have h2 := ltB_asymm h
    rw [h2] at h1
    rw [h2, if_neg (by decide), if_pos h]
    rw [decide_eq_false (fun e => by rw [e, ltB_irrefl] at h; cases h)] at hbq
    clear h2 h
    go_enter Tryz.func45, Tryz.ntmps45
    go_wp2_with fail
    with_reducible refine Calls.mono (HN.out _ _) ?_
    rintro e w ⟨rfl, rfl⟩
    go_wp2_with fail
    with_reducible refine Calls.mono (HN.out _ _) ?_
    rintro e w ⟨rfl, rfl⟩
    go_wp2
    go_ret
    exact ⟨rfl, rfl⟩
end Go.Proofs.YtahdmkmefeocmaaGreatDoor
