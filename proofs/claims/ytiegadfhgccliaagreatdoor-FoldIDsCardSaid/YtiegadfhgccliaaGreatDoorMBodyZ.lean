/- Package body: Write, out of the print, in the words of BodyL. -/
import Derived.Test.YtiegadfhgccliaaGreatDoorMPBW
import Derived.Test.YtiegadfhgccliaaGreatDoorMBodyX
namespace Go.Proofs.YtiegadfhgccliaaGreatDoor
open Go.RowKit Go.Lib
open Go.Proofs.YtiegadfhgccliaaGreatDoor.PB Go.Proofs.YtiegadfhgccliaaGreatDoorW.PrintWords Go.Proofs.YtiegadfhgccliaaGreatDoorW.PrintMore

theorem fitsS_map (l : List Bp) : (l.map toS).all fitsS = l.all fitsP := by rw [List.all_map]; rfl
theorem sumP_le : ∀ {l : List Bp}, l.all fitsP = true → 0 ≤ sumP l ∧ sumP l ≤ 64 * l.length
  | [], _ => by unfold sumP; exact ⟨Int.le_refl _, by simp⟩
  | p :: r, h => by
    rw [List.all_cons, Bool.and_eq_true] at h
    have f := fitsP_spec h.1
    have := sumP_le h.2
    unfold sumP
    rw [List.length_cons]
    omega
theorem wl3 (L l : List Bp) (q size os : Int) (q1 : 0 ≤ q) (q2 : q ≤ 1099511627776) (hp : ∀ p ∈ L, PIn p) (hl : L.length ≤ 1000000000) (d : Nat) : ∀ (k n : Nat) (acc : List Bp), n ≤ L.length → L.length - n = d → d < k → acc.length ≤ 1100000000 + n →
    body_Write.l3 k (l.map toS) q (L.map toS) (L.length : Int) (n : Int) size (L.map toS) os (acc.map toS) = some (if l = [] then (os, L.map toS, 0) else (max os q, (acc ++ (L.drop n).filterMap (behindP q)).map toS, 0)) := by
  induction d with
  | zero =>
    intro k n acc hn hd hk ha
    obtain ⟨k, rfl⟩ : ∃ m, k = m + 1 := ⟨k - 1, by omega⟩
    simp only [body_Write.l3]
    rw [if_neg (by omega), List.drop_eq_nil_of_le (by omega)]
    cases l with
    | nil => unfold slices_Clone_Part.f; rw [if_pos (by rfl), if_pos (by rw [List.length_map]; exact hl)]; rfl
    | cons p r =>
      rw [if_neg (by simp; omega), if_neg (by simp)]
      have e : mx os q = max os q := by unfold mx; omega
      rw [e]; simp
  | succ d ih =>
    intro k n acc hn hd hk ha
    obtain ⟨k, rfl⟩ : ∃ m, k = m + 1 := ⟨k - 1, by omega⟩
    have hlt : n < L.length := by omega
    have hr := rd_map hlt
    have hm : L.getD n default ∈ L := by simp [List.getD, hlt]
    have hpin := hp _ hm
    rw [drop_at hlt, List.filterMap_cons]
    simp only [body_Write.l3, hr]
    generalize L.getD n default = p at *
    rw [if_pos (by omega), if_pos (by omega), if_pos (by rw [List.length_map]; omega)]
    show ((body_behind.f p.off p.ln p.ch p.at_ q).bind _) = _
    rw [behind_f p q hpin q1 (by omega), w64 (n := (n : Int) + 1) (by omega) (by omega), show (n : Int) + 1 = ((n + 1 : Nat) : Int) by omega]
    cases h : behindP q p with
    | none =>
      simp only [Option.bind_some]
      rw [if_neg (by decide)]
      exact ih k (n + 1) acc (by omega) (by omega) (by omega) (by omega)
    | some x =>
      simp only [Option.bind_some]
      rw [if_pos trivial, if_pos (by rw [List.length_map]; omega)]
      have := ih k (n + 1) (acc ++ [x]) (by omega) (by omega) (by omega) (by rw [List.length_append, List.length_singleton]; omega)
      rw [List.map_append] at this
      rw [show [(⟨x.off, x.ln, x.ch, x.at_⟩ : S40)] = [x].map toS from rfl, this, List.append_assoc]
      rfl
theorem wl2 (L l : List Bp) (size os : Int) (hf : l.all fitsP = true) (_hl : L.length ≤ 1000000000) (hm : l.length ≤ 1000000) (d : Nat) : ∀ (k n : Nat) (q : Int) (acc : List Bp), n ≤ l.length → l.length - n = d → 0 ≤ q → q + sumP (l.drop n) ≤ 1099511627776 → acc.length ≤ 1000000000 + n →
    body_Write.l2 (d + 1 + k) (l.map toS) q (l.map toS) (l.length : Int) (n : Int) size (L.map toS) os (acc.map toS) = body_Write.l3 k (l.map toS) (q + sumP (l.drop n)) (L.map toS) (L.length : Int) 0 size (L.map toS) os ((acc ++ layP q (l.drop n)).map toS) := by
  induction d with
  | zero =>
    intro k n q acc hn hd h0 h1 ha
    rw [show 0 + 1 + k = k + 1 by omega]
    simp only [body_Write.l2]
    rw [if_neg (by omega), List.drop_eq_nil_of_le (by omega)]
    unfold sumP layP
    rw [Int.add_zero, List.append_nil, List.length_map]
  | succ d ih =>
    intro k n q acc hn hd h0 h1 ha
    rw [show d + 1 + 1 + k = (d + 1 + k) + 1 by omega]
    have hlt : n < l.length := by omega
    have hr := rd_map hlt
    have hmem : l.getD n default ∈ l := by simp [List.getD, hlt]
    have hfp := fitsP_spec (List.all_eq_true.1 hf _ hmem)
    rw [drop_at hlt] at h1 ⊢
    simp only [body_Write.l2, hr]
    unfold sumP at h1 ⊢
    unfold layP
    have hsp := (sumP_le (l := l.drop (n + 1)) (List.all_eq_true.2 fun x hx => List.all_eq_true.1 hf x (List.mem_of_mem_drop hx))).1
    generalize l.getD n default = p at *
    rw [if_pos (by omega), if_pos (by omega), if_pos (by rw [List.length_map]; omega)]
    show ((body_Part_end.f q p.ln p.ch p.at_).bind _) = _
    unfold body_Part_end.f
    simp only [Option.bind_some]
    rw [w64 (n := q + p.ln) (by omega) (by omega), if_pos (by rw [List.length_map]; omega), w64 (n := (n : Int) + 1) (by omega) (by omega), show (n : Int) + 1 = ((n + 1 : Nat) : Int) by omega]
    have := ih k (n + 1) (q + p.ln) (acc ++ [⟨q, p.ln, p.ch, p.at_⟩]) (by omega) (by omega) (by omega) (by omega) (by rw [List.length_append, List.length_singleton]; omega)
    rw [List.map_append] at this
    show body_Write.l2 (d + 1 + k) (l.map toS) (q + p.ln) (l.map toS) (l.length : Int) ((n + 1 : Nat) : Int) size (L.map toS) os (acc.map toS ++ [(⟨q, p.ln, p.ch, p.at_⟩ : Bp)].map toS) = _
    rw [this, List.append_assoc, Int.add_assoc]
    rfl
theorem wl1 (L l : List Bp) (off size os : Int) (o1 : 0 ≤ off) (o2 : off ≤ 1099511627776) (hp : ∀ p ∈ L, PIn p) (hl : L.length ≤ 1000000000) (d : Nat) : ∀ (k n : Nat) (acc : List Bp), n ≤ L.length → L.length - n = d → acc.length ≤ n →
    body_Write.l1 (d + 1 + k) off (l.map toS) (L.map toS) (L.length : Int) (n : Int) size (L.map toS) os (acc.map toS) = body_Write.l2 k (l.map toS) off (l.map toS) (l.length : Int) 0 size (L.map toS) os ((acc ++ (L.drop n).filterMap (aheadP off)).map toS) := by
  induction d with
  | zero =>
    intro k n acc hn hd ha
    rw [show 0 + 1 + k = k + 1 by omega]
    simp only [body_Write.l1]
    rw [if_neg (by omega), List.drop_eq_nil_of_le (by omega), List.length_map]
    simp
  | succ d ih =>
    intro k n acc hn hd ha
    rw [show d + 1 + 1 + k = (d + 1 + k) + 1 by omega]
    have hlt : n < L.length := by omega
    have hr := rd_map hlt
    have hm : L.getD n default ∈ L := by simp [List.getD, hlt]
    have hpin := hp _ hm
    rw [drop_at hlt, List.filterMap_cons]
    simp only [body_Write.l1, hr]
    generalize L.getD n default = p at *
    rw [if_pos (by omega), if_pos (by omega), if_pos (by rw [List.length_map]; omega)]
    show ((body_ahead.f p.off p.ln p.ch p.at_ off).bind _) = _
    rw [ahead_f p off hpin o1 (by omega), w64 (n := (n : Int) + 1) (by omega) (by omega), show (n : Int) + 1 = ((n + 1 : Nat) : Int) by omega]
    cases h : aheadP off p with
    | none =>
      simp only [Option.bind_some]
      rw [if_neg (by decide)]
      exact ih k (n + 1) acc (by omega) (by omega) (by omega)
    | some x =>
      simp only [Option.bind_some]
      rw [if_pos trivial, if_pos (by rw [List.length_map]; omega)]
      have := ih k (n + 1) (acc ++ [x]) (by omega) (by omega) (by rw [List.length_append, List.length_singleton]; omega)
      rw [List.map_append] at this
      rw [show [(⟨x.off, x.ln, x.ch, x.at_⟩ : S40)] = [x].map toS from rfl, this, List.append_assoc]
      rfl
theorem wl0 (L l : List Bp) (off size : Int) (hf : l.all fitsP = true) (hm : l.length ≤ 1000000) (d : Nat) : ∀ (k n : Nat) (s : Int), n ≤ l.length → l.length - n = d → 0 ≤ s → s ≤ 64 * n →
    body_Write.l0 (d + 1 + k) off (l.map toS) s (l.map toS) (l.length : Int) (n : Int) size (L.map toS) = if off < 0 then body_Write.j2 k off (l.map toS) true size (L.map toS) else body_Write.j2 k off (l.map toS) (decide (off > 1099511627776 - (s + sumP (l.drop n)))) size (L.map toS) := by
  induction d with
  | zero =>
    intro k n s hn hd h0 h1
    rw [show 0 + 1 + k = k + 1 by omega]
    simp only [body_Write.l0]
    rw [if_neg (by omega), List.drop_eq_nil_of_le (by omega), w64 (by omega) (by omega)]
    unfold sumP
    rw [Int.add_zero]
  | succ d ih =>
    intro k n s hn hd h0 h1
    rw [show d + 1 + 1 + k = (d + 1 + k) + 1 by omega]
    have hlt : n < l.length := by omega
    have hr := rd_map hlt
    have hmem : l.getD n default ∈ l := by simp [List.getD, hlt]
    have hfp := fitsP_spec (List.all_eq_true.1 hf _ hmem)
    rw [drop_at hlt]
    simp only [body_Write.l0, hr]
    unfold sumP
    generalize l.getD n default = p at *
    rw [if_pos (by omega), if_pos (by omega), if_pos (by rw [List.length_map]; omega)]
    show body_Write.l0 (d + 1 + k) off _ (wrap64 (s + p.ln)) _ _ _ _ _ = _
    rw [w64 (n := s + p.ln) (by omega) (by omega), w64 (n := (n : Int) + 1) (by omega) (by omega), show (n : Int) + 1 = ((n + 1 : Nat) : Int) by omega]
    rw [ih k (n + 1) (s + p.ln) (by omega) (by omega) (by omega) (by omega), Int.add_assoc]
theorem write_f (b : Bd) (off : Int) (l : List Bp) (hl : b.parts.length ≤ 1000000000) (hm : l.length ≤ 1000000) :
    ∃ k, body_Write.f k b.size (b.parts.map toS) off (l.map toS) = some ((writeS b off l).1.size, (writeS b off l).1.parts.map toS, (writeS b off l).2) := by
  let K3 := b.parts.length + 1
  let K2 := l.length + 1 + K3
  let K1 := b.parts.length + 1 + K2
  let K0 := l.length + 1 + (K1 + 1)
  refine ⟨K0 + 1, ?_⟩
  have hk : b.parts.length + 2 ≤ K0 + 1 := by show _ ≤ l.length + 1 + (b.parts.length + 1 + (l.length + 1 + (b.parts.length + 1)) + 1) + 1; omega
  unfold body_Write.f writeS
  rw [may_f b hl _ hk]
  simp only [Option.bind_some]
  cases hmb : mayBd b with
  | false => rw [if_neg (by decide), if_neg (by simp)]; simp only [body_Write.j0]; rfl
  | true =>
    rw [if_pos rfl]
    unfold slices_ContainsFunc_Part.f
    rw [fitsS_map]
    simp only [Option.bind_some]
    cases hf : l.all fitsP with
    | false => rw [if_neg (by simp)]; simp only [body_Write.j0]; rfl
    | true =>
      rw [if_pos (by simp)]
      simp only [body_Write.j0, Bool.not_true, Bool.false_eq_true, if_false]
      have hsum := sumP_le hf
      have h0 := wl0 b.parts l off b.size hf hm l.length (K1 + 1) 0 0 (by omega) (by omega) (by omega) (by omega)
      rw [List.drop_zero, Int.zero_add] at h0
      rw [List.length_map]
      show body_Write.l0 (l.length + 1 + (K1 + 1)) off (l.map toS) 0 (l.map toS) (l.length : Int) ((0 : Nat) : Int) b.size (b.parts.map toS) = _
      rw [h0]
      by_cases c1 : off < 0
      · rw [if_pos c1, if_pos (.inl c1)]; simp only [body_Write.j2]; rfl
      · rw [if_neg c1]
        by_cases c2 : off > 1099511627776 - sumP l
        · rw [decide_eq_true c2, if_pos (.inr (by omega))]; simp only [body_Write.j2]; rfl
        · rw [decide_eq_false c2, if_neg (by omega)]
          simp only [body_Write.j2, Bool.false_eq_true, if_false]
          have hmb2 := hmb
          unfold mayBd at hmb2
          simp only [Bool.and_eq_true, decide_eq_true_eq] at hmb2
          have hpin := pin_of hmb2.1.2 (Int.le_refl 0) hmb2.2
          have h1 := wl1 b.parts l off b.size b.size (by omega) (by omega) hpin hl b.parts.length K2 0 [] (by omega) (by omega) (by simp)
          rw [List.length_map]
          show body_Write.l1 (b.parts.length + 1 + K2) off (l.map toS) (b.parts.map toS) (b.parts.length : Int) ((0 : Nat) : Int) b.size (b.parts.map toS) b.size ([].map toS) = _
          rw [h1, List.drop_zero, List.nil_append]
          have hal := List.length_filterMap_le (aheadP off) b.parts
          have h2 := wl2 b.parts l b.size b.size hf hl hm l.length K3 0 off (b.parts.filterMap (aheadP off)) (by omega) (by omega) (by omega) (by rw [List.drop_zero]; omega) (by omega)
          show body_Write.l2 (l.length + 1 + K3) (l.map toS) off (l.map toS) (l.length : Int) ((0 : Nat) : Int) b.size (b.parts.map toS) b.size _ = _
          rw [h2, List.drop_zero]
          have hlay : (layP off l).length = l.length := layP_len l off
          have h3 := wl3 b.parts l (off + sumP l) b.size b.size (by omega) (by omega) hpin hl b.parts.length K3 0 (b.parts.filterMap (aheadP off) ++ layP off l) (by omega) (by omega) (by show _ < b.parts.length + 1; omega) (by rw [List.length_append, hlay]; omega)
          show body_Write.l3 K3 (l.map toS) (off + sumP l) (b.parts.map toS) (b.parts.length : Int) ((0 : Nat) : Int) b.size (b.parts.map toS) b.size _ = _
          rw [h3, List.drop_zero]
          by_cases hn : l = []
          · rw [if_pos hn, if_pos hn]
          · rw [if_neg hn, if_neg hn]
/-- Write. -/
theorem bwrite_any (b : Bd) (off : Int) (l : List Bp) (a a2 : Option Addr) (c c2 : Nat) (w : World) (hS : SlPt w a b.parts) (hc : b.parts.length ≤ c) (hl : b.parts.length ≤ 1000000000) (hS2 : SlPt w a2 l) (hc2 : l.length ≤ c2) (hm : l.length ≤ 1000000) :
    Calls Tryz.prog 59 #[.agg #[.int .i64 b.size, .slice a b.parts.length c], .int .i64 off, .slice a2 l.length c2] w fun e w' => ∃ v, e = .returned (.tuple #[.agg #[.int .i64 (writeS b off l).1.size, v], .int .i64 (writeS b off l).2]) ∧
      w'.ownsRow w.heap.size 40 4 v (writeS b off l).1.parts.length (encP.cells (writeS b off l).1.parts) ∧ Below w.heap.size w w' := by
  obtain ⟨k, hk⟩ := write_f b off l hl hm
  have := body_Write.calls k b.size a c (b.parts.map toS) off a2 c2 (l.map toS) _ _ _ w (skC hS hl) (by rw [List.length_map]; exact hc) (skC hS2 (by omega)) (by rw [List.length_map]; exact hc2) hk
  rw [List.length_map, List.length_map] at this
  refine this.mono ?_
  rintro e w' ⟨v, rfl, hR, hB⟩
  exact ⟨v, rfl, rowR hR, hB⟩
/-- Clone, in the words of BodyM. -/
theorem bclone_any (L : List Bp) (a : Option Addr) (c : Nat) (w : World) (hS : SlPt w a L) (hc : L.length ≤ c) (hl : L.length ≤ 1000000000) :
    Calls Tryz.prog 39 #[.slice a L.length c] w fun e w' => ∃ v, e = .returned v ∧ w'.ownsRow w.heap.size 40 4 v L.length (encP.cells L) ∧ Below w.heap.size w w' := by
  have := clone_part (L.map toS) a c w (skC hS hl) (by rw [List.length_map]; exact hc) (by rw [List.length_map]; exact hl)
  rw [List.length_map] at this
  refine this.mono ?_
  rintro e w' ⟨v, rfl, hR, hB⟩
  exact ⟨v, rfl, rowR hR, hB⟩
end Go.Proofs.YtiegadfhgccliaaGreatDoor
