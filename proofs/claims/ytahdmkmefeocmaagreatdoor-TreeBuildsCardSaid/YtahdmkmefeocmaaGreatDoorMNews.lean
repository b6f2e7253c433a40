/- A row of nodes as what an append takes; its parts. -/
import Derived.Test.YtahdmkmefeocmaaGreatDoorMTreeW
namespace Go.Proofs.YtahdmkmefeocmaaGreatDoor
open Go.RowKit Go.Lib

theorem rdn_news {w : World} {b o : Nat} {L : List Nd} (h : RdN w b o L) : ∀ j u, (cellsN L)[j]? = some u → w.cell? ((⟨b, o, none⟩ : Addr).add j) = some u := by
  intro j u hu
  have hj : j < (cellsN L).length := (List.getElem?_eq_some_iff.1 hu).1
  rw [cellsN_len] at hj
  have hk : j / 3 < L.length := by omega
  have hr : j % 3 < 3 := Nat.mod_lt _ (by decide)
  have e : j = j / 3 * 3 + j % 3 := by omega
  have h1 := cellsN_get hk (j % 3) hr
  rw [← e, hu] at h1
  obtain ⟨c0, c1, c2⟩ := h.at_ (j / 3) hk
  have hd : L.getD (j / 3) default = L[j / 3] := by simp [List.getD, hk]
  rw [hd] at c0 c1 c2
  have ha : (⟨b, o, none⟩ : Addr).add j = ⟨b, o + j, none⟩ := by
    unfold Addr.add
    by_cases h0 : j = 0
    · rw [if_pos h0, h0]; rfl
    · rw [if_neg h0]
  rw [ha]
  generalize L[j / 3] = n at *
  have hm : j % 3 = 0 ∨ j % 3 = 1 ∨ j % 3 = 2 := by omega
  rcases hm with hm | hm | hm
  · rw [hm] at h1
    have : u = .string n.path := by simpa [cells3] using h1
    rw [this, show o + j = o + j / 3 * 3 by omega]; exact c0
  · rw [hm] at h1
    have : u = .int .i64 n.id := by simpa [cells3] using h1
    rw [this, show o + j = o + j / 3 * 3 + 1 by omega]; exact c1
  · rw [hm] at h1
    have : u = .bool n.dir := by simpa [cells3] using h1
    rw [this, show o + j = o + j / 3 * 3 + 2 by omega]; exact c2
theorem RdN.take {w : World} {b o : Nat} {L : List Nd} (h : RdN w b o L) (k : Nat) : RdN w b o (L.take k) := by
  refine ⟨fun j hj => ?_, h.lt⟩
  rw [List.length_take] at hj
  have e : (L.take k).getD j default = L.getD j default := by simp [List.getD, show j < k by omega]
  rw [e]
  exact h.at_ j (by omega)
theorem RdN.drop {w : World} {b o : Nat} {L : List Nd} (h : RdN w b o L) (k : Nat) : RdN w b (o + k * 3) (L.drop k) := by
  refine ⟨fun j hj => ?_, h.lt⟩
  rw [List.length_drop] at hj
  have e : (L.drop k).getD j default = L.getD (k + j) default := by simp [List.getD]
  rw [e, show o + k * 3 + j * 3 = o + (k + j) * 3 by omega]
  exact h.at_ (k + j) (by omega)
theorem cellsN_append (A B : List Nd) : cellsN (A ++ B) = cellsN A ++ cellsN B := by unfold cellsN; rw [List.flatMap_append]
theorem cellsN_one (L : List Nd) : ∀ u ∈ cellsN L, u.oneCell' = true := by
  intro u hu
  unfold cellsN at hu
  obtain ⟨n, _, hn⟩ := List.mem_flatMap.1 hu
  unfold cells3 at hn
  simp at hn
  rcases hn with rfl | rfl | rfl <;> rfl
theorem sln_take_news {w : World} {a : Option Addr} {L : List Nd} (h : SlN w a L) (p : Nat) : ∀ j u, (cellsN (L.take p))[j]? = some u → ∃ b, a = some b ∧ w.cell? (b.add j) = some u := by
  intro j u hu
  rcases h with rfl | ⟨b, o, rfl, hr⟩
  · simp [cellsN] at hu
  · exact ⟨_, rfl, rdn_news (hr.take p) j u hu⟩
theorem sln_drop_news {w : World} {a : Option Addr} {L : List Nd} (h : SlN w a L) {p c : Nat} (hc : L.length ≤ c) : ∀ j u, (cellsN (L.drop p))[j]? = some u → ∃ b, (if c = p then a else a.map (·.add (p * 3))) = some b ∧ w.cell? (b.add j) = some u := by
  intro j u hu
  rcases h with rfl | ⟨b, o, rfl, hr⟩
  · simp [cellsN] at hu
  · by_cases e : c = p
    · subst e
      rw [List.drop_eq_nil_of_le hc] at hu
      simp [cellsN] at hu
    · rw [if_neg e]
      refine ⟨_, rfl, ?_⟩
      have ha : (⟨b, o, none⟩ : Addr).add (p * 3) = ⟨b, o + p * 3, none⟩ := by
        unfold Addr.add
        by_cases h0 : p * 3 = 0
        · rw [if_pos h0, h0]; rfl
        · rw [if_neg h0]
      show w.cell? (((⟨b, o, none⟩ : Addr).add (p * 3)).add j) = some u
      rw [ha]
      exact rdn_news (hr.drop p) j u hu
end Go.Proofs.YtahdmkmefeocmaaGreatDoor
