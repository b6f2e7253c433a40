/- A state of a law's own: what holds of it between the calls; the parts of a deed; awake. -/
import Derived.Test.YtiegadfhgccliaaGreatDoorMFoldE
import Derived.Test.YtiegadfhgccliaaGreatDoorMDeedF
namespace Go.Proofs.YtiegadfhgccliaaGreatDoor
open Go.RowKit Go.Lib
open Go.ChangeMaps (setBlock)
open Go.Proofs.YtiegadfhgccliaaGreatDoor.PB Go.Proofs.YtiegadfhgccliaaGreatDoorW.PrintWords Go.Proofs.YtiegadfhgccliaaGreatDoorW.PrintMore

/-- A state that the call itself made. -/
structure FK (w0 w : World) (sb tb mb lb : Nat) (S : FS) (N : Nat) : Prop where
  p : FoldP w sb tb mb lb S
  i : FInv S
  m : MLen w
  few : FewP N S
  m0 : MLen w0
  below : Below w0.heap.size w0 w
  h1 : w0.heap.size ≤ sb
  h2 : w0.heap.size ≤ tb
  h3 : w0.heap.size ≤ mb
  h4 : w0.heap.size ≤ lb
theorem FK.turn {w0 w w' : World} {sb tb mb lb : Nat} {S S' : FS} {N N' : Nat} (h : FK w0 w sb tb mb lb S N) (ht : Turn [tb, mb, lb] w w') (hp : FoldP w' sb tb mb lb S') (hi : FInv S') (hf : FewP N' S') : FK w0 w' sb tb mb lb S' N' := by
  have a1 := h.h1
  have a2 := h.h2
  have a3 := h.h3
  have a4 := h.h4
  refine ⟨hp, hi, ?_, hf, h.m0, ?_, a1, a2, a3, a4⟩
  · refine h.m.turn ht ?_
    have := h.m0.lt
    simp
    omega
  · refine ht.below h.below ?_
    intro x hx
    simp at hx
    omega
theorem FK.bel {w0 w w' : World} {sb tb mb lb : Nat} {S : FS} {N : Nat} (h : FK w0 w sb tb mb lb S N) (hb : Below w.heap.size w w') : FK w0 w' sb tb mb lb S N :=
  h.turn (.of_below hb) (h.p.below hb) h.i h.few
theorem FK.mono {w0 w : World} {sb tb mb lb : Nat} {S : FS} {N M : Nat} (h : FK w0 w sb tb mb lb S N) (hn : N ≤ M) : FK w0 w sb tb mb lb S M := { h with few := h.few.mono hn }
theorem kf_new (w : World) (hm : MLen w) : Calls Tryz.prog 9 #[] w fun e w' => ∃ sb tb mb lb, e = .returned (.pointer (some ⟨sb, 0, none⟩)) ∧ FK w w' sb tb mb lb ⟨⟨[], 1⟩, []⟩ 0 := by
  refine (fold_new w).mono ?_
  rintro e w' ⟨sb, tb, mb, lb, rfl, h1, h2, h3, h4, h5, h6⟩
  exact ⟨sb, tb, mb, lb, rfl, h1, FInv.new, hm.below h6, (fun f hf => by cases hf), hm, h6, h2, h3, h4, h5⟩
/-- Apply; what it makes has a name. -/
theorem kf_apply (e0 : Ev) (l : List Bp) (a a2 : Option Addr) (c c2 : Nat) {w0 w : World} {sb tb mb lb : Nat} {S S' : FS} {N : Nat} {x : Int} (h : FK w0 w sb tb mb lb S N) (hp : e0.path.size ≤ 100000) (hq : e0.to.size ≤ 100000) (hd : e0.data.length ≤ 1000000)
    (hnx : S.t.nx ≤ 1000000000000) (hN2 : N ≤ 1000000000) (hS2 : SlPt w a2 l) (hc2 : l.length ≤ c2) (hl : l.length ≤ 1000000) (hx : applyS S e0 l = (S', x)) :
    Calls Tryz.prog 10 #[.pointer (some ⟨sb, 0, none⟩), evV e0 a c, .slice a2 l.length c2] w fun e w' => e = .returned (.int .i64 x) ∧ FK w0 w' sb tb mb lb S' (N + l.length + 1) ∧ Turn [tb, mb, lb] w w' := by
  refine (fold_apply e0 l a a2 c c2 w hp hq hd h.p h.i h.m hnx h.few hN2 hS2 hc2 hl).mono ?_
  rintro e w' ⟨rfl, hF, ht⟩
  have hi := h.i.apply e0 l
  have hf := h.few.apply e0 l
  rw [hx] at hF hi hf ⊢
  exact ⟨rfl, h.turn ht hF hi hf, ht⟩
/-- The parts of a deed as the program has them. -/
def toR (p : Bp) : S87 := ⟨p.off, p.ln, p.ch, p.at_⟩
theorem rd_mapR {L : List Bp} {k : Nat} (hk : k < L.length) : rd_T87 (L.map toR) (k : Int) = toR (L.getD k default) := by
  unfold rd_T87
  rw [Int.toNat_natCast, List.getD_eq_getElem?_getD, List.getElem?_map, List.getElem?_eq_getElem hk]
  simp [List.getD, hk]
theorem skR {w : World} {a : Option Addr} {L : List Bp} (h : SlPt w a L) (hl : L.length ≤ 1000000000) : Kd.C k87 w a (L.map toR).length (L.map toR) := by
  refine ⟨rfl, by rw [List.length_map]; omega, fun h0 => ?_⟩
  rcases h with rfl | ⟨b, o, rfl, hr⟩
  · simp at h0
  · refine ⟨_, rfl, fun j p hp => ?_⟩
    rw [List.getElem?_map] at hp
    obtain ⟨q, hq, rfl⟩ := Option.map_eq_some_iff.1 hp
    obtain ⟨hj, e⟩ := List.getElem?_eq_some_iff.1 hq
    have hd : L.getD j default = q := by rw [← e]; simp [List.getD, hj]
    refine ⟨_, rfl, k87_mk w (toR q), fun i u hu => ?_⟩
    rw [addr_add, ← Nat.add_assoc]
    exact hr.at_ j hj i u (by rw [hd]; exact hu)
theorem parts_l (L : List Bp) (hl : L.length ≤ 1000000000) (d : Nat) : ∀ (k n : Nat) (acc : List Bp), n ≤ L.length → L.length - n = d → d < k → acc.length ≤ n →
    treeringlaw12_Parts.l0 k (L.map toR) (acc.map toS) (n : Int) = some ((acc ++ L.drop n).map toS) := by
  induction d with
  | zero =>
    intro k n acc hn hd hk ha
    obtain ⟨k, rfl⟩ : ∃ m, k = m + 1 := ⟨k - 1, by omega⟩
    simp only [treeringlaw12_Parts.l0]
    rw [if_neg (by rw [List.length_map]; omega), List.drop_eq_nil_of_le (by omega), List.append_nil]
  | succ d ih =>
    intro k n acc hn hd hk ha
    obtain ⟨k, rfl⟩ : ∃ m, k = m + 1 := ⟨k - 1, by omega⟩
    have hlt : n < L.length := by omega
    have hr := rd_mapR hlt
    rw [drop_at hlt]
    simp only [treeringlaw12_Parts.l0, hr]
    generalize L.getD n default = p
    rw [if_pos (by rw [List.length_map]; omega), if_pos (by omega), if_pos (by rw [List.length_map]; omega), w64 (n := (n : Int) + 1) (by omega) (by omega), show (n : Int) + 1 = ((n + 1 : Nat) : Int) by omega]
    have := ih k (n + 1) (acc ++ [p]) (by omega) (by omega) (by omega) (by rw [List.length_append, List.length_singleton]; omega)
    rw [List.map_append] at this
    show treeringlaw12_Parts.l0 k (L.map toR) (acc.map toS ++ [p].map toS) _ = _
    rw [this, List.append_assoc]
    rfl
theorem law12_parts (L : List Bp) (a : Option Addr) (c : Nat) (w : World) (hS : SlPt w a L) (hc : L.length ≤ c) (hl : L.length ≤ 1000000000) :
    Calls Tryz.prog 11 #[.slice a L.length c] w fun e w' => ∃ a2 c2, e = .returned (.slice a2 L.length c2) ∧ L.length ≤ c2 ∧ SlPt w' a2 L ∧ Below w.heap.size w w' := by
  have hf : treeringlaw12_Parts.f (L.length + 1) (L.map toR) = some (L.map toS) := by
    unfold treeringlaw12_Parts.f
    have := parts_l L hl L.length (L.length + 1) 0 [] (by omega) (by omega) (by omega) (by simp)
    simpa using this
  have := treeringlaw12_Parts.calls (L.length + 1) a c (L.map toR) _ w (skR hS hl) (by rw [List.length_map]; exact hc) hf
  rw [List.length_map] at this
  refine this.mono ?_
  rintro e w' ⟨v, rfl, hR, hB⟩
  obtain ⟨a2, c2, rfl, hc2, hS2, _⟩ := SlK.own (E := encP) (rowR hR)
  exact ⟨a2, c2, rfl, hc2, hS2, hB⟩
set_option maxRecDepth 100000 in
set_option maxHeartbeats 8000000 in
theorem law15_small (L : List DeedM) (a : Option Addr) (c : Nat) (most : Int) (w : World) (hS : SlDd w a L) (hc : L.length ≤ c) (hcm : L.length ≤ 9223372036854775807) (hm : 0 ≤ most) :
    Calls Tryz.prog 8 #[.slice a L.length c, .int .i64 most] w fun e w' => e = .returned (.bool (smallD L most)) ∧ w' = w := by
  have HS := Lib.hid hS
  clear hS
  go_enter Tryz.func8, Tryz.ntmps8
  go_wp2
  go_loopw [5] (fun i wr => ∃ k : Nat, k ≤ L.length ∧ i = .int .i64 (k : Int) ∧ Hid (wr = w) ∧ (k : Int) ≤ most ∧ Hid (∀ j, j < k → (L.getD j default).e.path.size ≤ 300 ∧ (L.getD j default).e.to.size ≤ 300 ∧ (L.getD j default).e.data.length ≤ 2000 ∧ (L.getD j default).l.length ≤ 60)) (fun i _ => L.length - (intOf i).toNat)
  case atStart => exact ⟨0, by omega, rfl, Lib.hid rfl, by omega, Lib.hid fun j hj => by omega⟩
  case round =>
    obtain ⟨k, hk, rfl, HW, hkm, HF⟩ := hrel
    have hw := HW.out
    by_cases hlt : k < L.length
    · obtain ⟨b, o, rfl, hd, _⟩ := HS.out.at_ hlt
      obtain ⟨_, p1, p2, _, _, p5, p6⟩ := hd.cells
      rw [← hw] at p1 p2 p5 p6
      have hki : (k : Int) < (L.length : Int) := by omega
      have hkc : (k : Int) < (c : Int) := by omega
      have hmem : L.getD k default ∈ L := by simp [List.getD, hlt]
      have HNo : Hid ((most ≤ k ∨ 300 < (L.getD k default).e.path.size ∨ 300 < (L.getD k default).e.to.size ∨ 2000 < (L.getD k default).e.data.length ∨ 60 < (L.getD k default).l.length) → smallD L most = false) := Lib.hid fun h => by
        cases hsm : smallD L most with
        | false => rfl
        | true =>
          obtain ⟨s1, s2⟩ := smallD_spec hsm
          have := s2 _ hmem
          omega
      have HF3 : Hid ((L.getD k default).e.path.size ≤ 300 ∧ (L.getD k default).e.to.size ≤ 300 ∧ (L.getD k default).e.data.length ≤ 2000 ∧ (L.getD k default).l.length ≤ 60 → ∀ j, j < k + 1 → (L.getD j default).e.path.size ≤ 300 ∧ (L.getD j default).e.to.size ≤ 300 ∧ (L.getD j default).e.data.length ≤ 2000 ∧ (L.getD j default).l.length ≤ 60) := fun h j hj => by
        by_cases e : j = k
        · subst e; exact h
        · exact HF.out j (by omega)
      clear hmem hw HF hd
      generalize L.getD k default = d at *
      obtain ⟨⟨op, dp, dq, off, size, data⟩, da, dc, l, la, lc⟩ := d
      dsimp only at p1 p2 p5 p6 HNo HF3
      generalize data.length = dn at *
      generalize l.length = ln at *
      have HE := HW
      by_cases h1 : most ≤ k
      · have HR := Lib.hid (HNo.out (.inl h1))
        clear HNo HF3 HW
        go_wp2
        go_ret
        exact ⟨by rw [HR.out]; rfl, HE.out⟩
      have h1' : ¬ most ≤ (k : Int) := h1
      by_cases h2 : (300 : Int) < (dp.size : Int)
      · have HR := Lib.hid (HNo.out (.inr (.inl (by omega))))
        clear HNo HF3 HW
        go_wp2
        go_ret
        exact ⟨by rw [HR.out]; rfl, HE.out⟩
      by_cases h3 : (300 : Int) < (dq.size : Int)
      · have HR := Lib.hid (HNo.out (.inr (.inr (.inl (by omega)))))
        clear HNo HF3 HW
        go_wp2
        go_ret
        exact ⟨by rw [HR.out]; rfl, HE.out⟩
      by_cases h4 : (2000 : Int) < (dn : Int)
      · have HR := Lib.hid (HNo.out (.inr (.inr (.inr (.inl (by omega))))))
        clear HNo HF3 HW
        go_wp2
        go_ret
        exact ⟨by rw [HR.out]; rfl, HE.out⟩
      by_cases h5 : (60 : Int) < (ln : Int)
      · have HR := Lib.hid (HNo.out (.inr (.inr (.inr (.inr (by omega))))))
        clear HNo HF3 HW
        go_wp2
        go_ret
        exact ⟨by rw [HR.out]; rfl, HE.out⟩
      have HF2 := Lib.hid (HF3.out ⟨by show dp.size ≤ 300; omega, by show dq.size ≤ 300; omega, by omega, by omega⟩)
      have hk1 : (k : Int) + 1 ≤ most := by omega
      clear HNo HF3
      go_wp2
      exact ⟨⟨k + 1, by omega, by go_num, HW, by omega, HF2⟩, by simp [intOf]; omega⟩
    · obtain rfl : k = L.length := by omega
      have hyes : smallD L most = true := by
        unfold smallD
        rw [Bool.and_eq_true, decide_eq_true_eq, List.all_eq_true]
        refine ⟨hkm, fun d hd => ?_⟩
        obtain ⟨j, hj, rfl⟩ := List.getElem_of_mem hd
        have e : L[j] = L.getD j default := by simp [List.getD, hj]
        rw [e]
        have := HF.out j hj
        simp only [Bool.and_eq_true, decide_eq_true_eq]
        exact ⟨⟨⟨this.1, this.2.1⟩, this.2.2.1⟩, this.2.2.2⟩
      have HR := Lib.hid hyes
      have hlt' : decide ((L.length : Int) < (L.length : Int)) = false := by simp
      clear hlt HF hyes hw
      go_wp2
      go_ret
      exact ⟨by rw [HR.out]; rfl, HW.out⟩

/-! ### awake -/
def fsA0 : FS := ⟨⟨[], 1⟩, []⟩
def evA1 : Ev := ⟨1, ⟨#[47, 97]⟩, ⟨#[]⟩, 0, 0, []⟩
def evA2 : Ev := ⟨3, ⟨#[47, 97]⟩, ⟨#[]⟩, 2, 0, []⟩
def ptA : Bp := ⟨0, 3, 1, 0⟩
def fsA1 : FS := (applyS fsA0 evA1 []).1
def fsA2 : FS := (applyS fsA1 evA2 [ptA]).1
theorem aA1 : (applyS fsA0 evA1 []).2 = 0 := by decide +kernel
theorem aA2 : (applyS fsA1 evA2 [ptA]).2 = 0 := by decide +kernel
theorem aAx2 : fsA1.t.nx ≤ 1000000000000 := by decide +kernel
theorem aAs : statS fsA2 ⟨#[47, 97]⟩ = (1, false, 5, 0) := by decide +kernel
theorem aAr : statS fsA2 ⟨#[47]⟩ = (0, true, 0, 0) := by decide +kernel
theorem kf_stat (p : ByteArray) {w0 w : World} {sb tb mb lb : Nat} {S : FS} {N : Nat} (h : FK w0 w sb tb mb lb S N) (hp : p.size ≤ 100000) {i : Int} {d : Bool} {z x : Int} (hx : statS S p = (i, d, z, x)) :
    Calls Tryz.prog 25 #[.pointer (some ⟨sb, 0, none⟩), .string p] w fun e w' => e = .returned (.tuple #[.agg #[.int .i64 i, .bool d, .int .i64 z], .int .i64 x]) ∧ FK w0 w' sb tb mb lb S N ∧ Below w.heap.size w w' := by
  refine (fold_stat p w hp h.p h.i.t h.i.once h.m).mono ?_
  rintro e w' ⟨rfl, hB⟩
  rw [hx]
  exact ⟨rfl, h.bel hB, hB⟩
theorem apply_pair {S S' : FS} {e : Ev} {l : List Bp} {x : Int} (h1 : (applyS S e l).1 = S') (h2 : (applyS S e l).2 = x) : applyS S e l = (S', x) := by rw [← h1, ← h2]
set_option maxRecDepth 100000 in
set_option maxHeartbeats 16000000 in
theorem awake15 (w : World) (hm : MLen w) : Calls Tryz.prog 7 #[] w fun e w' => e = .returned (.bool true) ∧ Below w.heap.size w w' := by
  have HNw := Lib.hid (kf_new w hm)
  clear hm
  go_enter Tryz.func7, Tryz.ntmps7
  go_wp2_with fail
  refine HNw.out.mono ?_
  rintro e w1 ⟨sb, tb, mb, lb, rfl, hk⟩
  have HK1 := Lib.hid hk
  have HA1 := Lib.hid (show Calls Tryz.prog 10 #[.pointer (some ⟨sb, 0, none⟩), .agg #[.int .i64 1, .string ⟨#[47, 97]⟩, .string ⟨#[]⟩, .int .i64 0, .int .i64 0, .slice none 0 0], .slice none 0 0] w1 _ from kf_apply evA1 [] none none 0 0 hk (by decide) (by decide) (by decide) (by decide) (by decide) (.inl rfl) (by decide) (by decide) (apply_pair (S' := fsA1) rfl aA1))
  clear hk HNw
  go_wp2_with fail
  with_reducible refine Calls.mono HA1.out ?_
  rintro e w2 ⟨rfl, hk, _⟩
  have HK2 := Lib.hid hk
  clear hk HA1 HK1
  go_upto_region 5 with (fail)
  have hbx := heap_alloc_new w2 (.cells #[.int .i64 0, .int .i64 3, .int .i64 1, .int .i64 0] 40)
  have hB : Below w2.heap.size w2 (w2.alloc (.cells #[.int .i64 0, .int .i64 3, .int .i64 1, .int .i64 0] 40)) := (Below.refl _ _).alloc (Nat.le_refl _) _
  have hSl : SlPt (w2.alloc (.cells #[.int .i64 0, .int .i64 3, .int .i64 1, .int .i64 0] 40)) (some ⟨w2.heap.size, 0, none⟩) [ptA] := .inr ⟨w2.heap.size, 0, rfl, ⟨fun k hk j u hu => by
    obtain rfl : k = 0 := by simpa using hk
    have hj : j < 4 := (List.getElem?_eq_some_iff.1 hu).1
    unfold World.cell?
    rw [hbx]
    have e : 0 + 0 * encP.K + j = j := by omega
    rw [e]
    have : (encP.enc (([ptA] : List Bp).getD 0 default)) = [.int .i64 0, .int .i64 3, .int .i64 1, .int .i64 0] := rfl
    rw [this] at hu
    simpa using hu, by simp⟩⟩
  have HA2 := Lib.hid (show Calls Tryz.prog 10 #[.pointer (some ⟨sb, 0, none⟩), .agg #[.int .i64 3, .string ⟨#[47, 97]⟩, .string ⟨#[]⟩, .int .i64 2, .int .i64 0, .slice none 0 0], .slice (some ⟨w2.heap.size, 0, none⟩) 1 1] (w2.alloc (.cells #[.int .i64 0, .int .i64 3, .int .i64 1, .int .i64 0] 40)) _ from kf_apply evA2 [ptA] none (some ⟨w2.heap.size, 0, none⟩) 0 1 (HK2.out.bel hB) (by decide) (by decide) (by decide) aAx2 (by decide) hSl (by decide) (by decide) (apply_pair (S' := fsA2) rfl aA2))
  clear hbx hB hSl
  go_wp2_with fail
  with_reducible refine Calls.mono HA2.out ?_
  rintro e w3 ⟨rfl, hk, _⟩
  have HS1 := Lib.hid (kf_stat ⟨#[47, 97]⟩ hk (by decide) aAs)
  clear hk HA2 HK2
  go_wp2_with fail
  with_reducible refine Calls.mono HS1.out ?_
  rintro e w4 ⟨rfl, hk, _⟩
  have HK4 := Lib.hid hk
  clear hk HS1
  go_upto_region 7 with (fail)
  have hb4 := heap_alloc_new w4 (.cells #[.int .i64 1, .bool false, .int .i64 5] 75)
  have hB4 : Below w4.heap.size w4 (w4.alloc (.cells #[.int .i64 1, .bool false, .int .i64 5] 75)) := (Below.refl _ _).alloc (Nat.le_refl _) _
  have hk4 := HK4.out.bel hB4
  have hs4 : (w4.alloc (.cells #[.int .i64 1, .bool false, .int .i64 5] 75)).heap.size = w4.heap.size + 1 := by simp
  have HS2 := Lib.hid (kf_stat ⟨#[47]⟩ hk4 (by decide) aAr)
  clear hk4 hB4
  go_wp2_with fail
  with_reducible refine Calls.mono HS2.out ?_
  rintro e w5 ⟨rfl, hk, hB5⟩
  have hb5 := (hB5.block w4.heap.size (by omega)).trans hb4
  obtain ⟨q0, q1, q2, _⟩ := b3_cells hb5
  have hb6 := (((Below.refl _ _).alloc (Nat.le_refl _) (.cells #[.int .i64 0, .bool true, .int .i64 0] 75) : Below w5.heap.size w5 (w5.alloc (.cells #[.int .i64 0, .bool true, .int .i64 0] 75))).block w4.heap.size (by have := hB5.size; omega)).trans hb5
  obtain ⟨r0, r1, r2, _⟩ := b3_cells hb6
  clear hb6
  have HK5 := Lib.hid hk
  clear hk hB5 hb4 HS2 HK4 hb5
  go_wp2
  go_ret
  exact ⟨rfl, HK5.out.below.alloc HK5.out.below.size _⟩
end Go.Proofs.YtiegadfhgccliaaGreatDoor
