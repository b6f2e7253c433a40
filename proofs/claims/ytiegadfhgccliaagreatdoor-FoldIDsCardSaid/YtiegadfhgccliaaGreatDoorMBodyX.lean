/- Package body: what Write asks of slices: ContainsFunc with its own test, Clone; in the print's words, too. -/
import Derived.Test.YtiegadfhgccliaaGreatDoorMRowK
import Derived.Test.YtiegadfhgccliaaGreatDoorMPB1
import Derived.Test.YtiegadfhgccliaaGreatDoorMStateI
import Derived.Test.YtiegadfhgccliaaGreatDoorMBase
namespace Go.Proofs.YtiegadfhgccliaaGreatDoor
open Go.RowKit Go.Lib
open Go.Proofs.YtiegadfhgccliaaGreatDoor.PB Go.Proofs.YtiegadfhgccliaaGreatDoorW.PrintWords Go.Proofs.YtiegadfhgccliaaGreatDoorW.PrintMore

def toS (p : Bp) : S40 := ⟨p.off, p.ln, p.ch, p.at_⟩
theorem rd_map {L : List Bp} {k : Nat} (hk : k < L.length) : rd_T40 (L.map toS) (k : Int) = toS (L.getD k default) := by
  unfold rd_T40
  rw [Int.toNat_natCast, List.getD_eq_getElem?_getD, List.getElem?_map, List.getElem?_eq_getElem hk]
  simp [List.getD, hk]
theorem addr_add (b o j : Nat) : (⟨b, o, none⟩ : Addr).add j = ⟨b, o + j, none⟩ := by
  unfold Addr.add
  by_cases h0 : j = 0
  · rw [if_pos h0, h0]; rfl
  · rw [if_neg h0]
theorem skC {w : World} {a : Option Addr} {L : List Bp} (h : SlPt w a L) (hl : L.length ≤ 1000000000) : Kd.C k40 w a (L.map toS).length (L.map toS) := by
  refine ⟨rfl, by rw [List.length_map]; omega, fun h0 => ?_⟩
  rcases h with rfl | ⟨b, o, rfl, hr⟩
  · simp at h0
  · refine ⟨_, rfl, fun j p hp => ?_⟩
    rw [List.getElem?_map] at hp
    obtain ⟨q, hq, rfl⟩ := Option.map_eq_some_iff.1 hp
    obtain ⟨hj, e⟩ := List.getElem?_eq_some_iff.1 hq
    have hd : L.getD j default = q := by rw [← e]; simp [List.getD, hj]
    refine ⟨_, rfl, k40_mk w (toS q), fun i u hu => ?_⟩
    rw [addr_add, ← Nat.add_assoc]
    exact hr.at_ j hj i u (by rw [hd]; exact hu)
/-- A row that a printed call has made. -/
theorem rowR {w : World} {base : Nat} {ok : Nat → Prop} {v : Value} {L : List Bp} (h : Kd.R k40 40 w base ok v (L.map toS)) : w.ownsRow base 40 4 v L.length (encP.cells L) := by
  obtain ⟨_, inner, ho, hr⟩ := h
  rw [List.length_map] at ho
  have e : inner = encP.cells L := by
    have hlen : inner.length = L.length * 4 := by have := hr.1; rw [List.length_map] at this; exact this
    refine List.ext_getElem? fun i => ?_
    by_cases hi : i < L.length * 4
    · have hk : i / 4 < L.length := by omega
      have h1 := cellsK_get encP hk (i % 4) (Nat.mod_lt _ (by decide))
      have h2 : i / 4 * encP.K + i % 4 = i := by show i / 4 * 4 + i % 4 = i; omega
      rw [h2] at h1
      rw [h1]
      have h3 := hr.2 (i / 4) (toS L[i / 4]) (by rw [List.getElem?_map, List.getElem?_eq_getElem hk]; rfl)
      have h4 := k40_openM h3
      have h5 : (encP.enc L[i / 4])[i % 4]? = ((inner.drop (i / 4 * 4)).take 4)[i % 4]? := by
        have : (inner.drop (i / 4 * 4)).take 4 = encP.enc L[i / 4] := h4
        rw [this]
      rw [h5, List.getElem?_take_of_lt (Nat.mod_lt _ (by decide)), List.getElem?_drop]
      congr 1
      omega
    · rw [List.getElem?_eq_none (by omega), List.getElem?_eq_none (by rw [cellsK_len]; show L.length * 4 ≤ i; omega)]
  rw [← e]
  exact ho
theorem w64 {n : Int} (h1 : -9223372036854775808 ≤ n) (h2 : n ≤ 9223372036854775807) : wrap64 n = n := by unfold wrap64; omega
theorem fits_f (p : Bp) : body_Part_Fits.f p.off p.ln p.ch p.at_ = some (fitsP p) := by
  unfold body_Part_Fits.f fitsP
  by_cases h1 : 1 ≤ p.ln
  · rw [if_pos h1, decide_eq_true h1]
    by_cases h2 : p.ln ≤ 64
    · rw [if_pos h2, decide_eq_true h2, w64 (by omega) (by omega)]
      by_cases h3 : 1 ≤ p.ch
      · rw [if_pos h3, decide_eq_true h3]
        by_cases h4 : p.ch ≤ 4611686018427387904
        · rw [if_pos h4, decide_eq_true h4]
          by_cases h5 : 0 ≤ p.at_
          · rw [if_pos h5, decide_eq_true h5]; simp
          · rw [if_neg h5, decide_eq_false h5]; simp
        · rw [if_neg h4, decide_eq_false h4]; simp
      · rw [if_neg h3, decide_eq_false h3]; simp
    · rw [if_neg h2, decide_eq_false h2]; simp
  · rw [if_neg h1, decide_eq_false h1]; simp
theorem fits_any (p : Bp) (w : World) :
    Calls Tryz.prog 86 #[.agg #[.int .i64 p.off, .int .i64 p.ln, .int .i64 p.ch, .int .i64 p.at_]] w fun e w' => e = .returned (.bool (fitsP p)) ∧ Below w.heap.size w w' :=
  body_Part_Fits.calls _ _ _ _ _ w (fits_f p)
/-- What ahead and behind hand back. -/
def cutV (o : Option Bp) : Value := match o with
  | some p => .tuple #[.agg #[.int .i64 p.off, .int .i64 p.ln, .int .i64 p.ch, .int .i64 p.at_], .bool true]
  | none => .tuple #[.agg #[.int .i64 0, .int .i64 0, .int .i64 0, .int .i64 0], .bool false]
structure PIn (p : Bp) : Prop where
  o1 : 0 ≤ p.off
  o2 : p.off ≤ 2000000000000
  l1 : 0 ≤ p.ln
  l2 : p.ln ≤ 64
  a1 : 0 ≤ p.at_
  a2 : p.at_ ≤ 64
theorem ahead_f (p : Bp) (q : Int) (hp : PIn p) (h1 : 0 ≤ q) (h2 : q ≤ 2000000000000) : body_ahead.f p.off p.ln p.ch p.at_ q = some (match aheadP q p with
    | some x => (x.off, x.ln, x.ch, x.at_, true)
    | none => (0, 0, 0, 0, false)) := by
  obtain ⟨a1, a2, a3, a4, a5, a6⟩ := hp
  unfold body_ahead.f aheadP
  by_cases h : q ≤ p.off
  · rw [if_pos h, if_pos h]
  · rw [if_neg h, if_neg h, w64 (by omega) (by omega)]
    have e : mn p.ln (q - p.off) = min p.ln (q - p.off) := by unfold mn; omega
    rw [e]
theorem behind_f (p : Bp) (q : Int) (hp : PIn p) (h1 : 0 ≤ q) (h2 : q ≤ 2000000000000) : body_behind.f p.off p.ln p.ch p.at_ q = some (match behindP q p with
    | some x => (x.off, x.ln, x.ch, x.at_, true)
    | none => (0, 0, 0, 0, false)) := by
  obtain ⟨a1, a2, a3, a4, a5, a6⟩ := hp
  unfold body_behind.f body_Part_end.f behindP
  rw [w64 (n := p.off + p.ln) (by omega) (by omega)]
  show (if p.off + p.ln ≤ q then _ else _) = _
  by_cases h : p.off + p.ln ≤ q
  · rw [if_pos h, if_pos h]
  · rw [if_neg h, if_neg h, w64 (n := q - p.off) (by omega) (by omega)]
    by_cases h3 : p.off < q
    · have e : mx (q - p.off) 0 = q - p.off := by unfold mx; omega
      rw [e, if_pos (by omega), if_pos h3, w64 (by omega) (by omega), w64 (by omega) (by omega)]
    · have e : mx (q - p.off) 0 = 0 := by unfold mx; omega
      rw [e, if_neg (by omega), if_neg h3]
theorem drop_at {α : Type} [Inhabited α] {L : List α} {k : Nat} (hk : k < L.length) : L.drop k = L.getD k default :: L.drop (k + 1) := by
  rw [List.drop_eq_getElem_cons hk]
  simp [List.getD, hk]
theorem may_l (L : List Bp) (size : Int) (s1 : 0 ≤ size) (s2 : size ≤ 1099511627776) (hl : L.length ≤ 1000000000) (d : Nat) : ∀ (k n : Nat) (at_ : Int), n ≤ L.length → L.length - n = d → d < k → 0 ≤ at_ → at_ ≤ 2000000000000 →
    body_May.l0 k at_ (L.map toS) (L.length : Int) (n : Int) size (L.map toS) = some (mayFrom size at_ (L.drop n)) := by
  induction d with
  | zero =>
    intro k n at_ hn hd hk h1 h2
    obtain ⟨k, rfl⟩ : ∃ m, k = m + 1 := ⟨k - 1, by omega⟩
    simp only [body_May.l0]
    rw [if_neg (by omega), List.drop_eq_nil_of_le (by omega)]
    rfl
  | succ d ih =>
    intro k n at_ hn hd hk h1 h2
    obtain ⟨k, rfl⟩ : ∃ m, k = m + 1 := ⟨k - 1, by omega⟩
    have hlt : n < L.length := by omega
    have hr := rd_map hlt
    rw [drop_at hlt]
    simp only [body_May.l0, hr]
    generalize L.getD n default = p
    rw [if_pos (by omega), if_pos (by omega), if_pos (by rw [List.length_map]; omega)]
    show ((body_Part_Fits.f p.off p.ln p.ch p.at_).bind _) = _
    rw [fits_f]
    simp only [Option.bind_some]
    unfold mayFrom
    cases hf : fitsP p with
    | false => simp
    | true =>
      obtain ⟨f1, f2, f3, f4, f5, f6⟩ := fitsP_spec hf
      rw [if_pos rfl]
      show (if p.off < at_ then _ else if p.off > wrap64 (size - p.ln) then _ else (body_Part_end.f p.off p.ln p.ch p.at_).bind _) = _
      rw [w64 (n := size - p.ln) (by omega) (by omega)]
      by_cases c1 : p.off < at_
      · rw [if_pos c1, decide_eq_false (show ¬ at_ ≤ p.off by omega)]; simp
      · rw [if_neg c1, decide_eq_true (show at_ ≤ p.off by omega)]
        by_cases c2 : p.off > size - p.ln
        · rw [if_pos c2, decide_eq_false (show ¬ p.off ≤ size - p.ln by omega)]; simp
        · rw [if_neg c2, decide_eq_true (show p.off ≤ size - p.ln by omega)]
          unfold body_Part_end.f
          simp only [Option.bind_some]
          rw [w64 (n := p.off + p.ln) (by omega) (by omega), w64 (n := (n : Int) + 1) (by omega) (by omega)]
          have := ih k (n + 1) (p.off + p.ln) (by omega) (by omega) (by omega) (by omega) (by omega)
          rw [show ((n + 1 : Nat) : Int) = (n : Int) + 1 by omega] at this
          rw [this]; simp
theorem may_f (b : Bd) (hl : b.parts.length ≤ 1000000000) (k : Nat) (hk : b.parts.length + 2 ≤ k) : body_May.f k b.size (b.parts.map toS) = some (mayBd b) := by
  obtain ⟨size, L⟩ := b
  dsimp only at hl hk ⊢
  obtain ⟨k, rfl⟩ : ∃ m, k = m + 1 := ⟨k - 1, by omega⟩
  unfold body_May.f mayBd
  dsimp only
  by_cases h1 : size < 0
  · rw [if_pos h1, decide_eq_false (show ¬ 0 ≤ size by omega)]
    simp only [body_May.j0]; simp
  · rw [if_neg h1, decide_eq_true (show 0 ≤ size by omega)]
    by_cases h2 : size > 1099511627776
    · rw [decide_eq_true h2, decide_eq_false (show ¬ size ≤ 1099511627776 by omega)]
      simp only [body_May.j0]; simp
    · rw [decide_eq_false h2, decide_eq_true (show size ≤ 1099511627776 by omega)]
      simp only [body_May.j0]
      rw [if_neg (by decide), List.length_map]
      have := may_l L size (by omega) (by omega) hl L.length k 0 0 (by omega) (by omega) (by omega) (by omega) (by omega)
      rw [show ((0 : Nat) : Int) = 0 from rfl] at this
      rw [this]; simp
theorem pin_of {size a : Int} (s2 : size ≤ 1099511627776) : ∀ {L : List Bp} (_ : 0 ≤ a) (_ : mayFrom size a L = true), ∀ p ∈ L, PIn p
  | [], _, _, p, hp => by cases hp
  | q :: r, h0, h, p, hp => by
    obtain ⟨h1, h2, h3, h4⟩ := mayFrom_cons h
    have f := fitsP_spec h1
    rcases List.mem_cons.1 hp with rfl | hp
    · exact ⟨by omega, by omega, by omega, by omega, by omega, by omega⟩
    · exact pin_of s2 (by omega) h4 p hp
theorem trunc_l (L : List Bp) (q : Int) (q1 : 0 ≤ q) (q2 : q ≤ 1099511627776) (hp : ∀ p ∈ L, PIn p) (hl : L.length ≤ 1000000000) (d : Nat) : ∀ (k n : Nat) (acc : List Bp), n ≤ L.length → L.length - n = d → d < k → acc.length ≤ n →
    body_Trunc.l0 k q (L.map toS) (L.length : Int) (n : Int) q (acc.map toS) = some (q, (acc ++ (L.drop n).filterMap (aheadP q)).map toS, 0) := by
  induction d with
  | zero =>
    intro k n acc hn hd hk ha
    obtain ⟨k, rfl⟩ : ∃ m, k = m + 1 := ⟨k - 1, by omega⟩
    simp only [body_Trunc.l0]
    rw [if_neg (by omega), List.drop_eq_nil_of_le (by omega)]
    simp
  | succ d ih =>
    intro k n acc hn hd hk ha
    obtain ⟨k, rfl⟩ : ∃ m, k = m + 1 := ⟨k - 1, by omega⟩
    have hlt : n < L.length := by omega
    have hr := rd_map hlt
    have hm : L.getD n default ∈ L := by simp [List.getD, hlt]
    have hpin := hp _ hm
    rw [drop_at hlt, List.filterMap_cons]
    simp only [body_Trunc.l0, hr]
    generalize L.getD n default = p at *
    rw [if_pos (by omega), if_pos (by omega), if_pos (by rw [List.length_map]; omega)]
    show ((body_ahead.f p.off p.ln p.ch p.at_ q).bind _) = _
    rw [ahead_f p q hpin q1 (by omega), w64 (n := (n : Int) + 1) (by omega) (by omega), show (n : Int) + 1 = ((n + 1 : Nat) : Int) by omega]
    cases h : aheadP q p with
    | none =>
      simp only [Option.bind_some]
      rw [if_neg (by decide)]
      exact ih k (n + 1) acc (by omega) (by omega) (by omega) (by omega)
    | some x =>
      simp only [Option.bind_some]
      rw [if_pos trivial, if_pos (by rw [List.length_map]; omega)]
      have := ih k (n + 1) (acc ++ [x]) (by omega) (by omega) (by omega) (by rw [List.length_append, List.length_singleton]; omega)
      rw [List.map_append] at this
      rw [show [(⟨x.off, x.ln, x.ch, x.at_⟩ : S40)] = [x].map toS from rfl, this, List.append_assoc]
      rfl
theorem trunc_f (b : Bd) (q : Int) (hl : b.parts.length ≤ 1000000000) : body_Trunc.f (b.parts.length + 2) b.size (b.parts.map toS) q = some ((truncS b q).1.size, (truncS b q).1.parts.map toS, (truncS b q).2) := by
  unfold body_Trunc.f truncS
  rw [may_f b hl _ (Nat.le_refl _)]
  simp only [Option.bind_some]
  cases hm : mayBd b with
  | false => rw [if_neg (by decide), if_neg (by decide)]; rfl
  | true =>
    rw [if_pos rfl, if_pos rfl]
    by_cases h1 : q < 0
    · rw [if_pos h1, if_pos (.inl h1)]; rfl
    · rw [if_neg h1]
      by_cases h2 : q > 1099511627776
      · rw [if_pos h2, if_pos (.inr h2)]; rfl
      · rw [if_neg h2, if_neg (by omega), List.length_map]
        unfold mayBd at hm
        simp only [Bool.and_eq_true, decide_eq_true_eq] at hm
        have := trunc_l b.parts q (by omega) (by omega) (pin_of hm.1.2 (Int.le_refl 0) hm.2) hl b.parts.length (b.parts.length + 2) 0 [] (by omega) (by omega) (by omega) (by simp)
        simpa using this
/-- Trunc. -/
theorem btrunc_any (b : Bd) (q : Int) (a : Option Addr) (c : Nat) (w : World) (hS : SlPt w a b.parts) (hc : b.parts.length ≤ c) (hl : b.parts.length ≤ 1000000000) :
    Calls Tryz.prog 30 #[.agg #[.int .i64 b.size, .slice a b.parts.length c], .int .i64 q] w fun e w' => ∃ v, e = .returned (.tuple #[.agg #[.int .i64 (truncS b q).1.size, v], .int .i64 (truncS b q).2]) ∧
      w'.ownsRow w.heap.size 40 4 v (truncS b q).1.parts.length (encP.cells (truncS b q).1.parts) ∧ Below w.heap.size w w' := by
  have := body_Trunc.calls (b.parts.length + 2) b.size a c (b.parts.map toS) q _ _ _ w (skC hS hl) (by rw [List.length_map]; exact hc) (trunc_f b q hl)
  rw [List.length_map] at this
  refine this.mono ?_
  rintro e w' ⟨v, rfl, hR, hB⟩
  exact ⟨v, rfl, rowR hR, hB⟩
theorem long_l (L : List Bp) (hf : L.all fitsP = true) (hl : L.length ≤ 1000000) (d : Nat) : ∀ (k n : Nat) (s : Int), n ≤ L.length → L.length - n = d → d < k → 0 ≤ s → s ≤ 64 * n →
    fold_long.l0 k s (L.map toS) (L.length : Int) (n : Int) = some (s + sumP (L.drop n)) := by
  induction d with
  | zero =>
    intro k n s hn hd hk h0 h1
    obtain ⟨k, rfl⟩ : ∃ m, k = m + 1 := ⟨k - 1, by omega⟩
    simp only [fold_long.l0]
    rw [if_neg (by omega), List.drop_eq_nil_of_le (by omega)]
    unfold sumP
    rw [Int.add_zero]
  | succ d ih =>
    intro k n s hn hd hk h0 h1
    obtain ⟨k, rfl⟩ : ∃ m, k = m + 1 := ⟨k - 1, by omega⟩
    have hlt : n < L.length := by omega
    have hr := rd_map hlt
    have hm : L.getD n default ∈ L := by simp [List.getD, hlt]
    have hfp := fitsP_spec (List.all_eq_true.1 hf _ hm)
    rw [drop_at hlt]
    simp only [fold_long.l0, hr]
    unfold sumP
    generalize L.getD n default = p at *
    rw [if_pos (by omega), if_pos (by omega), if_pos (by rw [List.length_map]; omega)]
    show fold_long.l0 k (wrap64 (s + p.ln)) _ _ _ = _
    rw [w64 (n := s + p.ln) (by omega) (by omega), w64 (n := (n : Int) + 1) (by omega) (by omega), show (n : Int) + 1 = ((n + 1 : Nat) : Int) by omega]
    rw [ih k (n + 1) (s + p.ln) (by omega) (by omega) (by omega) (by omega) (by omega)]
    congr 1
    omega
theorem long_some (L : List Bp) (hl : L.length ≤ 1000000) (d : Nat) : ∀ (k n : Nat) (s : Int), n ≤ L.length → L.length - n = d → d < k → ∃ r, fold_long.l0 k s (L.map toS) (L.length : Int) (n : Int) = some r := by
  induction d with
  | zero =>
    intro k n s hn hd hk
    obtain ⟨k, rfl⟩ : ∃ m, k = m + 1 := ⟨k - 1, by omega⟩
    simp only [fold_long.l0]
    rw [if_neg (by omega)]
    exact ⟨_, rfl⟩
  | succ d ih =>
    intro k n s hn hd hk
    obtain ⟨k, rfl⟩ : ∃ m, k = m + 1 := ⟨k - 1, by omega⟩
    simp only [fold_long.l0]
    rw [if_pos (by omega), if_pos (by omega), if_pos (by rw [List.length_map]; omega)]
    rw [w64 (n := (n : Int) + 1) (by omega) (by omega), show (n : Int) + 1 = ((n + 1 : Nat) : Int) by omega]
    exact ih k (n + 1) _ (by omega) (by omega) (by omega)
/-- long: the sum, of parts that fit; some number else. -/
theorem long_any (L : List Bp) (hl : L.length ≤ 1000000) :
    ∃ r, (L.all fitsP = true → r = sumP L) ∧ ∀ (a : Option Addr) (c : Nat) (w : World), SlPt w a L → L.length ≤ c → Calls Tryz.prog 58 #[.slice a L.length c] w fun e w' => e = .returned (.int .i64 r) ∧ Below w.heap.size w w' := by
  obtain ⟨r, hr, hr2⟩ : ∃ r, fold_long.l0 (L.length + 1) 0 (L.map toS) (L.length : Int) ((0 : Nat) : Int) = some r ∧ (L.all fitsP = true → r = sumP L) := by
    cases hf : L.all fitsP with
    | true =>
      have := long_l L hf hl L.length (L.length + 1) 0 0 (by omega) (by omega) (by omega) (by omega) (by omega)
      exact ⟨_, this, fun _ => by simp⟩
    | false =>
      obtain ⟨r, h⟩ := long_some L hl L.length (L.length + 1) 0 0 (by omega) (by omega) (by omega)
      exact ⟨r, h, fun h => by cases h⟩
  refine ⟨r, hr2, fun a c w hS hc => ?_⟩
  have := fold_long.calls (L.length + 1) a c (L.map toS) r w (skC hS (by omega)) (by rw [List.length_map]; exact hc) (by unfold fold_long.f; rw [List.length_map]; exact hr)
  rw [List.length_map] at this
  exact this
end Go.Proofs.YtiegadfhgccliaaGreatDoor
namespace Go.Proofs.YtiegadfhgccliaaGreatDoor
open Go.RowKit Go.Lib
open Go.Proofs.YtiegadfhgccliaaGreatDoor.PB Go.Proofs.YtiegadfhgccliaaGreatDoorW.PrintWords Go.Proofs.YtiegadfhgccliaaGreatDoorW.PrintMore

set_option maxRecDepth 100000 in
set_option maxHeartbeats 4000000 in
theorem part_not (p : Bp) (w : World) :
    Calls Tryz.prog 90 #[.agg #[.int .i64 p.off, .int .i64 p.ln, .int .i64 p.ch, .int .i64 p.at_]] w fun e w' => e = .returned (.bool (!fitsP p)) ∧ Below w.heap.size w w' := by
  have HF := Lib.hid (fun W => fits_any p W)
  have HW : Hid (Below w.heap.size w (w.alloc (.cells #[.int .i64 p.off, .int .i64 p.ln, .int .i64 p.ch, .int .i64 p.at_] 40))) := Lib.hid ((Below.refl _ _).alloc (Nat.le_refl _) _)
  obtain ⟨off, ln, ch, at0⟩ := p
  dsimp only at HF HW ⊢
  generalize fitsP ⟨off, ln, ch, at0⟩ = r at *
  go_enter Tryz.func90, Tryz.ntmps90
  go_wp2_with fail
  with_reducible refine Calls.mono (HF.out _) ?_
  rintro e V ⟨rfl, hB⟩
  go_wp2
  go_ret
  exact ⟨rfl, HW.out.trans (hB.mono HW.out.size)⟩
def fitsS (s : S40) : Bool := fitsP ⟨s.f0, s.f1, s.f2, s.f3⟩
set_option maxRecDepth 100000 in
set_option maxHeartbeats 4000000 in
theorem index_part (L : List S40) (a : Option Addr) (c : Nat) (w : World) (hS : Kd.C k40 w a L.length L) (hc : L.length ≤ c) :
    Calls Tryz.prog 107 #[.slice a L.length c, .func (.func 90) #[] #[]] w fun e w' => (∃ r : Int, e = .returned (.int .i64 r) ∧ decide (r ≥ 0) = !(L.all fitsS)) ∧ Below w.heap.size w w' := by
  have HS := Lib.hid hS
  have hl := hS.2.1
  have HN := Lib.hid (fun p W => part_not p W)
  clear hS
  go_enter Tryz.func107, Tryz.ntmps107
  go_wp2
  go_loopw [8] (fun i wr => ∃ k : Nat, k ≤ L.length ∧ i = .int .i64 (k : Int) ∧ Hid ((L.take k).all fitsS = true) ∧ Hid (Below w.heap.size w wr)) (fun i _ => L.length - (intOf i).toNat)
  case atStart => exact ⟨0, by omega, rfl, Lib.hid (by simp), Lib.hid (Below.refl _ _)⟩
  case round =>
    obtain ⟨k, hk, rfl, HA, HB⟩ := hrel
    by_cases hlt : k < L.length
    · obtain ⟨ad, rfl, c0, c1, c2, c3⟩ := at_T40 (Kd.C_below HS.out HB.out) (k : Int) (by omega) (by omega)
      rw [Int.toNat_natCast] at c0 c1 c2 c3
      have hki : (k : Int) < (L.length : Int) := by omega
      have hkc : (k : Int) < (c : Int) := by omega
      have hr : rd_T40 L (k : Int) = L[k] := by
        unfold rd_T40
        rw [Int.toNat_natCast, List.getD_eq_getElem?_getD, List.getElem?_eq_getElem hlt]; rfl
      rw [hr] at c0 c1 c2 c3
      have HT : Hid (L.take (k + 1) = L.take k ++ [L[k]]) := Lib.hid (List.take_succ_eq_append_getElem hlt)
      have HM : Hid (L[k] ∈ L) := Lib.hid (List.getElem_mem hlt)
      have HP := Lib.hid (HN.out ⟨L[k].f0, L[k].f1, L[k].f2, L[k].f3⟩ wr)
      clear hr
      generalize L[k] = p at *
      obtain ⟨off, ln, ch, at0⟩ := p
      dsimp only at c0 c1 c2 c3 HP
      go_wp2_with fail
      with_reducible refine Calls.mono HP.out ?_
      rintro e V ⟨rfl, hBV⟩
      have HV := Lib.hid (blw HB.out hBV)
      clear hBV
      cases hf : fitsP ⟨off, ln, ch, at0⟩ with
      | true =>
        go_wp2
        exact ⟨⟨k + 1, by omega, by go_num, Lib.hid (by rw [HT.out, List.all_append, HA.out]; simp [fitsS, hf]), HV⟩, by simp [intOf]; omega⟩
      | false =>
        have HNo : Hid (L.all fitsS = false) := Lib.hid (List.all_eq_false.2 ⟨_, HM.out, by unfold fitsS; rw [hf]; decide⟩)
        go_wp2
        go_ret
        exact ⟨⟨_, rfl, by rw [HNo.out]; simp⟩, HV.out⟩
    · obtain rfl : k = L.length := by omega
      have hlt' : decide ((L.length : Int) < (L.length : Int)) = false := by simp
      have HA2 : Hid (L.all fitsS = true) := Lib.hid (by have ha := HA.out; rw [List.take_length] at ha; exact ha)
      clear hlt
      go_wp2
      go_ret
      exact ⟨⟨_, rfl, by rw [HA2.out]; decide⟩, HB.out⟩
set_option maxRecDepth 100000 in
set_option maxHeartbeats 4000000 in
theorem contains_part (L : List S40) (a : Option Addr) (c : Nat) (w : World) (hS : Kd.C k40 w a L.length L) (hc : L.length ≤ c) :
    Calls Tryz.prog 89 #[.slice a L.length c, .func (.func 90) #[] #[]] w fun e w' => e = .returned (.bool (!(L.all fitsS))) ∧ Below w.heap.size w w' := by
  have HI := Lib.hid (index_part L a c w hS hc)
  clear hS
  go_enter Tryz.func89, Tryz.ntmps89
  go_wp2_with fail
  with_reducible refine Calls.mono HI.out ?_
  rintro e V ⟨⟨r, rfl, hr⟩, hB⟩
  have HR := Lib.hid hr
  clear hr
  go_wp2
  go_ret
  exact ⟨by rw [← HR.out]; rfl, hB⟩
theorem own_none (w : World) (e : TypeId) (size B : Nat) (hB : w.heap.size = B) : (w.alloc (.cells #[] e)).ownsRow B e size (.slice (some ⟨B, 0, none⟩) 0 0) 0 [] := by
  subst hB
  exact ⟨by simp, .inr ⟨_, 0, #[], rfl, Nat.le_refl _, heap_alloc_new w _, Nat.le_refl _, by unfold maxLen; omega, by simp, by simp⟩⟩
theorem run_eql_nil_any {P : Program} (w : World) (t e : TypeId) (a : Option Addr) (l c : Nat) (h : P.underlying t = some (.slice e)) : (binOp .eql t (.slice a l c) (.slice none 0 0)).run P w = .ok (.bool a.isNone) w := by
  simp only [binOp]
  simp [run_equal_slice_nil w t e a l c h]
theorem info_part : (Tryz.prog.info? 40).map (fun i => (i.zero, i.size, i.bytes)) = some (some (.agg #[.int .i64 0, .int .i64 0, .int .i64 0, .int .i64 0]), 4, 32) := by kernel_rfl
theorem inner_eq {L : List S40} {inner : List Value} (hr : Reps (fun (x : S40) cs => cs = [.int .i64 x.f0, .int .i64 x.f1, .int .i64 x.f2, .int .i64 x.f3]) 4 L inner) : inner.length = L.length * 4 ∧ ∀ u ∈ inner, u.oneCell' = true := by
  refine ⟨hr.1, fun u hu => ?_⟩
  obtain ⟨i, hi⟩ := List.getElem?_of_mem hu
  have hil : i < inner.length := (List.getElem?_eq_some_iff.1 hi).1
  have hk : i / 4 < L.length := by have := hr.1; omega
  have h3 := hr.2 (i / 4) L[i / 4] (List.getElem?_eq_getElem hk)
  have h4 : ((inner.drop (i / 4 * 4)).take 4)[i % 4]? = some u := by
    rw [List.getElem?_take_of_lt (Nat.mod_lt _ (by decide)), List.getElem?_drop, ← hi]
    congr 1
    omega
  have h5 : u ∈ (inner.drop (i / 4 * 4)).take 4 := List.mem_of_getElem? h4
  dsimp only at h3
  rw [h3] at h5
  simp at h5
  rcases h5 with rfl | rfl | rfl | rfl <;> rfl
set_option maxRecDepth 100000 in
set_option maxHeartbeats 4000000 in
theorem clone_part (L : List S40) (a : Option Addr) (c : Nat) (w : World) (hS : Kd.C k40 w a L.length L) (hc : L.length ≤ c) (hl : L.length ≤ 1000000000) :
    Calls Tryz.prog 39 #[.slice a L.length c] w fun e w' => ∃ v, e = .returned v ∧ Kd.R k40 40 w' w.heap.size (fun _ => True) v L ∧ Below w.heap.size w w' := by
  obtain ⟨i0, hi, hz0, hz1, hz2⟩ := info_parts info_part
  have hq := run_eql_nil_any (P := Tryz.prog) w 35 _ a L.length c Tryz.underlying35
  cases a with
  | none =>
    have hL : L = [] := by
      cases L with
      | nil => rfl
      | cons p r => obtain ⟨ad, e, _⟩ := hS.2.2 (by simp); cases e
    subst hL
    have hq : (binOp .eql 35 (.slice none 0 c) (.slice none 0 0)).run Tryz.prog w = .ok (.bool true) w := hq
    clear hS
    go_enter Tryz.func39, Tryz.ntmps39
    go_wp2
    go_ret
    exact ⟨_, rfl, Kd.R_nil _ _ _ _ _, Below.refl _ _⟩
  | some ad =>
    have hq : (binOp .eql 35 (.slice (some ad) L.length c) (.slice none 0 0)).run Tryz.prog w = .ok (.bool false) w := hq
    obtain ⟨inner, hr, hcl⟩ := ReadsRow.inner_ (Kd.C_below hS ((Below.refl _ _).alloc (Nat.le_refl _) (.cells #[] 40)))
    have hr2 : Reps (fun (x : S40) cs => cs = [.int .i64 x.f0, .int .i64 x.f1, .int .i64 x.f2, .int .i64 x.f3]) 4 L inner := hr.imp_ fun p cs h => k40_open h
    obtain ⟨hlen, hone⟩ := inner_eq hr2
    have HR : Hid (∀ W base ok, Reps (Kd.M k40 W base ok) 4 L inner) := Lib.hid fun W base ok => hr2.imp_ fun p cs h => by rw [h]; exact k40_mkM W base ok p
    have HNw := Lib.hid hcl
    clear hS hr hr2 hcl
    go_enter Tryz.func39, Tryz.ntmps39
    go_wp2_with (at_builtin; refine wpList_append_own _ rfl (.tmp 5) (.tmp 6) 35 rfl w.heap.size 40 i0 _ 4 32 Tryz.underlying35 hi hz0 hz1 hz2 rfl (by decide) _ 0 [] rfl (own_none w _ _ _ rfl) ad L.length c inner rfl hlen HNw.out hone (by unfold maxLen; omega) (by omega) (by simp) ?_; intro v' w3 hown' hgrow hnil; clear hnil; rw [Nat.zero_add, List.nil_append] at hown'; have HO2 := Lib.hid hown'; have HG := Lib.hid hgrow; clear hown' hgrow)
    go_ret
    exact ⟨v', rfl, ⟨fun _ _ => trivial, inner, HO2.out, HR.out _ _ _⟩, grown_below ((Below.refl _ _).alloc (Nat.le_refl _) _) (by simp) (own_none w _ 4 _ rfl) HG.out⟩
namespace PB
def ofS (s : S40) : Bp := ⟨s.f0, s.f1, s.f2, s.f3⟩
def slices_ContainsFunc_Part.f (l : List S40) : Option Bool := some (!(l.all fitsS))
theorem slices_ContainsFunc_Part.calls (A0 : Option Addr) (c0 : Nat) (l0 : List S40) (r : Bool) (w : World) (hr0 : Kd.C k40 w A0 l0.length l0) (hc0 : l0.length ≤ c0) (h : slices_ContainsFunc_Part.f l0 = some r) :
    Calls Tryz.prog 89 #[.slice A0 l0.length c0, .func (.func 90) #[] #[]] w fun e w' => e = .returned (.bool r) ∧ Below w.heap.size w w' := by
  cases h
  exact contains_part l0 A0 c0 w hr0 hc0
def slices_Clone_Part.f (l : List S40) : Option (List S40) := if l.length ≤ 1000000000 then some l else none
theorem slices_Clone_Part.calls (A0 : Option Addr) (c0 : Nat) (l0 : List S40) (r : List S40) (w : World) (hr0 : Kd.C k40 w A0 l0.length l0) (hc0 : l0.length ≤ c0) (h : slices_Clone_Part.f l0 = some r) :
    Calls Tryz.prog 39 #[.slice A0 l0.length c0] w fun e w' => ∃ v0_ : Value, e = .returned (v0_) ∧ Kd.R k40 40 w' w.heap.size (fun _ => True) v0_ r ∧ Below w.heap.size w w' := by
  unfold slices_Clone_Part.f at h
  by_cases hl : l0.length ≤ 1000000000
  · rw [if_pos hl] at h
    cases h
    exact clone_part l0 A0 c0 w hr0 hc0 hl
  · rw [if_neg hl] at h; cases h
end PB
end Go.Proofs.YtiegadfhgccliaaGreatDoor
