/- Walks of Name, the program's and the reference's. -/
import Derived.Test.YtiegadfhgccliaaGreatDoorRows
import Derived.WalkKit
import Derived.WalkSpells
import Derived.WalkLawsBesides
import Derived.Deep.QuietTactic
import Derived.BigQuiet
import Derived.Lib.Hide
namespace Go.Proofs.YtiegadfhgccliaaGreatDoor
open Go.RowKit

def nameByte (c : UInt8) : Bool := decide (33 ≤ c.toNat) && decide (c.toNat ≤ 126) && decide (c.toNat ≠ 47)
def nameOk (s : ByteArray) : Bool := decide (1 ≤ s.size) && decide (s.size ≤ 16) && !(s.toList == [46]) && !(s.toList == [46, 46]) && s.data.toList.all nameByte

theorem nameByte_cases (c : UInt8) : (nameByte c = true ∧ decide ((c.toNat : Int) < 33) = false ∧ decide ((126 : Int) < (c.toNat : Int)) = false ∧ ((c.toNat : Int) == 47) = false) ∨
    (nameByte c = false ∧ decide ((c.toNat : Int) < 33) = true) ∨
    (nameByte c = false ∧ decide ((c.toNat : Int) < 33) = false ∧ decide ((126 : Int) < (c.toNat : Int)) = true) ∨
    (nameByte c = false ∧ decide ((c.toNat : Int) < 33) = false ∧ decide ((126 : Int) < (c.toNat : Int)) = false ∧ ((c.toNat : Int) == 47) = true) := by
  unfold nameByte
  by_cases a : c.toNat < 33
  · right; left; simp; omega
  · by_cases b : 126 < c.toNat
    · right; right; left; simp; omega
    · by_cases d : c.toNat = 47
      · right; right; right; simp [d]
      · left
        have : ((c.toNat : Int) == 47) = false := by rw [beq_eq_false_iff_ne]; omega
        refine ⟨?_, ?_, ?_, this⟩ <;> simp <;> omega
theorem two_drewN (w : World) (n m : Nat) : (w.drewN n).drewN m = w.drewN (n + m) := by simp
theorem take_snoc (s : ByteArray) (k : Nat) (h : k < s.size) : s.data.toList.take (k + 1) = s.data.toList.take k ++ [s[k]] := by
  rw [List.take_succ_eq_append_getElem (by simpa using h)]; rfl
theorem all_bad (s : ByteArray) (k : Nat) (h : k < s.size) (p : UInt8 → Bool) (hp : p s[k] = false) : s.data.toList.all p = false := by
  rw [List.all_eq_false]
  refine ⟨s[k], ?_, by simp [hp]⟩
  have : s[k] = s.data.toList[k]'(by simpa using h) := rfl
  rw [this]
  exact List.getElem_mem _

set_option maxHeartbeats 1000000 in
theorem name_any (s : ByteArray) (hs : s.size ≤ maxLen) (w : World) :
    Calls Tryz.prog 45 #[.string s] w fun e w' => e = .returned (.bool (nameOk s)) ∧ ∃ n, w' = w.drewN n := by
  unfold maxLen at hs
  by_cases h1 : 1 ≤ s.size
  · have d1 : decide ((s.size : Int) < 1) = false := by simp; omega
    by_cases h2 : s.size ≤ 16
    · have d2 : decide ((16 : Int) < (s.size : Int)) = false := by simp; omega
      cases d3 : (s.toList == [46])
      · cases d4 : (s.toList == [46, 46])
        · have hfin : nameOk s = s.data.toList.all nameByte := by unfold nameOk; rw [d3, d4]; simp [h1, h2]
          go_enter Tryz.func45, Tryz.ntmps45
          go_wp2
          go_loopw [22] (fun i wr => ∃ k : Nat, k ≤ s.size ∧ i = .int .i64 k ∧ (s.data.toList.take k).all nameByte = true ∧ ∃ n, wr = w.drewN n) (fun i _ => s.size - (intOf i).toNat)
          case atStart => exact ⟨0, by omega, rfl, rfl, 0, rfl⟩
          case round =>
            obtain ⟨k, hk, rfl, hall, n, rfl⟩ := hrel
            by_cases hlt : k < s.size
            · have hts := take_snoc s k hlt
              have hb := all_bad s k hlt nameByte
              have HA : Hid (nameByte s[k] = true → (s.data.toList.take (k + 1)).all nameByte = true) := by intro h; rw [hts, List.all_append, hall]; simp [h]
              have HB : Hid (nameByte s[k] = false → nameOk s = false) := fun h => by rw [hfin]; exact hb h
              clear hts hb hall hfin
              have h47 : (((⟨#[47]⟩ : ByteArray)[0]'(by decide)).toNat : Int) = 47 := by decide
              rcases nameByte_cases s[k] with ⟨c0, c1, c2, c3⟩ | ⟨c0, c1⟩ | ⟨c0, c1, c2⟩ | ⟨c0, c1, c2, c3⟩
              · have c4 : ((s[k].toNat : Int) == (((⟨#[47]⟩ : ByteArray)[0]'(by decide)).toNat : Int)) = false := by rw [h47]; exact c3
                clear h47
                go_wp2
                go_quiet (fail)
                go_wp2
                exact ⟨⟨k + 1, by omega, by go_num, HA.out c0, _, rfl⟩, by simp [intOf]; omega⟩
              · clear h47
                go_wp2
                go_quiet (fail)
                go_wp2
                go_ret
                exact ⟨by rw [HB.out c0]; rfl, _, two_drewN _ _ _⟩
              · clear h47
                go_wp2
                go_quiet (fail)
                go_wp2
                go_ret
                exact ⟨by rw [HB.out c0]; rfl, _, two_drewN _ _ _⟩
              · have c4 : ((s[k].toNat : Int) == (((⟨#[47]⟩ : ByteArray)[0]'(by decide)).toNat : Int)) = true := by rw [h47]; exact c3
                clear h47
                go_wp2
                go_quiet (fail)
                go_wp2
                go_ret
                exact ⟨by rw [HB.out c0]; rfl, _, two_drewN _ _ _⟩
            · have hk2 : nameOk s = true := by rw [hfin, ← hall, List.take_of_length_le (by simp; omega)]
              clear hfin hall
              go_wp2
              go_ret
              exact ⟨by rw [hk2]; rfl, _, rfl⟩
        · go_enter Tryz.func45, Tryz.ntmps45
          go_wp2
          all_goals (go_ret; exact ⟨by simp [nameOk, d4], 0, rfl⟩)
      · go_enter Tryz.func45, Tryz.ntmps45
        go_wp2
        all_goals (go_ret; exact ⟨by simp [nameOk, d3], 0, rfl⟩)
    · have d2 : decide ((16 : Int) < (s.size : Int)) = true := by simp; omega
      go_enter Tryz.func45, Tryz.ntmps45
      go_wp2
      all_goals (go_ret; exact ⟨by simp [nameOk, h2], 0, rfl⟩)
  · have d1 : decide ((s.size : Int) < 1) = true := by simp; omega
    go_enter Tryz.func45, Tryz.ntmps45
    go_wp2
    all_goals (go_ret; exact ⟨by simp [nameOk, h1], 0, rfl⟩)

end Go.Proofs.YtiegadfhgccliaaGreatDoor
