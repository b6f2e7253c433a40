/- Deeds in memory; law13's Small. -/
import Derived.Test.YtahdmkmefeocmaaGreatDoorMBase
namespace Go.Proofs.YtahdmkmefeocmaaGreatDoor
open Go.RowKit Go.Lib

structure Dd where
  act : Int
  p : ByteArray
  q : ByteArray
  dir : Bool
instance : Inhabited Dd := ⟨⟨0, ⟨#[]⟩, ⟨#[]⟩, false⟩⟩
/-- A row of deeds. -/
def SlD (w : World) (a : Option Addr) (L : List Dd) : Prop := L = [] ∨ ∃ b o, a = some ⟨b, o, none⟩ ∧ b < w.heap.size ∧ ∀ k, k < L.length → w.cell? ⟨b, o + k * 4, none⟩ = some (.int .i64 (L.getD k default).act) ∧ w.cell? ⟨b, o + k * 4 + 1, none⟩ = some (.string (L.getD k default).p) ∧ w.cell? ⟨b, o + k * 4 + 2, none⟩ = some (.string (L.getD k default).q) ∧ w.cell? ⟨b, o + k * 4 + 3, none⟩ = some (.bool (L.getD k default).dir)
theorem SlD.below {w w' : World} {a : Option Addr} {L : List Dd} (h : SlD w a L) (hb : Below w.heap.size w w') : SlD w' a L := by
  rcases h with h | ⟨b, o, e, h1, h2⟩
  · exact .inl h
  · refine .inr ⟨b, o, e, Nat.lt_of_lt_of_le h1 hb.size, fun k hk => ?_⟩
    obtain ⟨c0, c1, c2, c3⟩ := h2 k hk
    exact ⟨(hb.cell (p := ⟨b, o + k * 4, none⟩) h1).trans c0, (hb.cell (p := ⟨b, o + k * 4 + 1, none⟩) h1).trans c1, (hb.cell (p := ⟨b, o + k * 4 + 2, none⟩) h1).trans c2, (hb.cell (p := ⟨b, o + k * 4 + 3, none⟩) h1).trans c3⟩
theorem SlD.at_ {w : World} {a : Option Addr} {L : List Dd} (h : SlD w a L) {k : Nat} (hk : k < L.length) : ∃ b o, a = some ⟨b, o, none⟩ ∧ w.cell? ⟨b, o + k * 4, none⟩ = some (.int .i64 (L.getD k default).act) ∧ w.cell? ⟨b, o + k * 4 + 1, none⟩ = some (.string (L.getD k default).p) ∧ w.cell? ⟨b, o + k * 4 + 2, none⟩ = some (.string (L.getD k default).q) ∧ w.cell? ⟨b, o + k * 4 + 3, none⟩ = some (.bool (L.getD k default).dir) := by
  rcases h with rfl | ⟨b, o, e, _, h2⟩
  · simp at hk
  · exact ⟨b, o, e, h2 k hk⟩
/-- Few deeds, short texts. -/
def smallB (L : List Dd) (most : Int) : Bool := decide ((L.length : Int) ≤ most) && L.all fun d => decide (d.p.size ≤ 300) && decide (d.q.size ≤ 300)
set_option maxRecDepth 100000 in
set_option maxHeartbeats 4000000 in
theorem law13_small (L : List Dd) (a : Option Addr) (c : Nat) (most : Int) (w : World) (hS : SlD w a L) (hc : L.length ≤ c) (hcm : L.length ≤ 9223372036854775807) (hm : 0 ≤ most) :
    Calls Tryz.prog 7 #[.slice a L.length c, .int .i64 most] w fun e w' => e = .returned (.bool (smallB L most)) ∧ w' = w := by
  have HS := Lib.hid hS
  clear hS
  go_enter Tryz.func7, Tryz.ntmps7
  go_wp2
  go_loopw [5] (fun i wr => ∃ k : Nat, k ≤ L.length ∧ i = .int .i64 (k : Int) ∧ Hid (wr = w) ∧ (k : Int) ≤ most ∧ Hid (∀ j, j < k → (L.getD j default).p.size ≤ 300 ∧ (L.getD j default).q.size ≤ 300)) (fun i _ => L.length - (intOf i).toNat)
  case atStart => exact ⟨0, by omega, rfl, Lib.hid rfl, by omega, Lib.hid fun j hj => by omega⟩
  case round =>
    obtain ⟨k, hk, rfl, HW, hkm, HF⟩ := hrel
    have hw := HW.out
    by_cases hlt : k < L.length
    · obtain ⟨b, o, rfl, _, p1, p2, _⟩ := HS.out.at_ hlt
      rw [← hw] at p1 p2
      have hki : (k : Int) < (L.length : Int) := by omega
      have hkc : (k : Int) < (c : Int) := by omega
      have hmem : L.getD k default ∈ L := by simp [List.getD, hlt]
      have hno : (most ≤ k ∨ 300 < (L.getD k default).p.size ∨ 300 < (L.getD k default).q.size) → smallB L most = false := fun h => by
        unfold smallB
        rw [Bool.and_eq_false_iff]
        rcases h with h | h
        · left; exact decide_eq_false (by omega)
        · right
          rw [List.all_eq_false]
          refine ⟨_, hmem, ?_⟩
          rcases h with h | h
          · intro h2; rw [Bool.and_eq_true, decide_eq_true_eq, decide_eq_true_eq] at h2; omega
          · intro h2; rw [Bool.and_eq_true, decide_eq_true_eq, decide_eq_true_eq] at h2; omega
      have HNo := Lib.hid hno
      have HF3 : Hid ((L.getD k default).p.size ≤ 300 ∧ (L.getD k default).q.size ≤ 300 → ∀ j, j < k + 1 → (L.getD j default).p.size ≤ 300 ∧ (L.getD j default).q.size ≤ 300) := fun h j hj => by
        by_cases e : j = k
        · subst e; exact h
        · exact HF.out j (by omega)
      clear hmem hno hw HF
      generalize L.getD k default = d at *
      obtain ⟨da, dp, dq, dd⟩ := d
      dsimp only at p1 p2
      by_cases h1 : most ≤ k
      · have HR := Lib.hid (HNo.out (.inl h1))
        have HE := HW
        clear HNo HF3 HW
        go_wp2
        go_ret
        exact ⟨by rw [HR.out]; rfl, HE.out⟩
      · by_cases h2 : 300 < dp.size
        · have HR := Lib.hid (HNo.out (.inr (.inl h2)))
          have h2' : (300 : Int) < (dp.size : Int) := by omega
          have h1' : ¬ most ≤ (k : Int) := h1
          have HE := HW
          clear HNo HF3 HW h2
          go_wp2
          go_ret
          exact ⟨by rw [HR.out]; rfl, HE.out⟩
        · by_cases h3 : 300 < dq.size
          · have HR := Lib.hid (HNo.out (.inr (.inr h3)))
            have h2' : ¬ (300 : Int) < (dp.size : Int) := by omega
            have h3' : (300 : Int) < (dq.size : Int) := by omega
            have HE := HW
            clear HNo HF3 HW h2 h3
            go_wp2
            go_ret
            exact ⟨by rw [HR.out]; rfl, HE.out⟩
          · have HF2 := Lib.hid (HF3.out ⟨by show dp.size ≤ 300; omega, by show dq.size ≤ 300; omega⟩)
            have h2' : ¬ (300 : Int) < (dp.size : Int) := by omega
            have h3' : ¬ (300 : Int) < (dq.size : Int) := by omega
            have hk1 : (k : Int) + 1 ≤ most := by omega
            clear HNo HF3 h2 h3
            go_wp2
            exact ⟨⟨k + 1, by omega, by go_num, HW, by omega, HF2⟩, by simp [intOf]; omega⟩
    · obtain rfl : k = L.length := by omega
      have hyes : smallB L most = true := by
        unfold smallB
        rw [Bool.and_eq_true, decide_eq_true_eq, List.all_eq_true]
        refine ⟨hkm, fun d hd => ?_⟩
        obtain ⟨j, hj, rfl⟩ := List.getElem_of_mem hd
        have e : L[j] = L.getD j default := by simp [List.getD, hj]
        rw [e]
        have := HF.out j hj
        simp only [Bool.and_eq_true, decide_eq_true_eq]
        exact this
      have HR := Lib.hid hyes
      have hlt' : decide ((L.length : Int) < (L.length : Int)) = false := by simp
      clear hlt HF hyes hw
      go_wp2
      go_ret
      exact ⟨by rw [HR.out]; rfl, HW.out⟩
end Go.Proofs.YtahdmkmefeocmaaGreatDoor
