/- Points as plain data, and where they lie in memory. -/
import Derived.Test.YtddnhjpclglclaaName
import Derived.Test.YtddnhjpclglclaaRef1
namespace Go.Proofs.Ytddnhjpclglclaa
open Go.RowKit Fl

section
variable {P : Program} {w : World} {a : Addr} {m : Mode}
@[go_sem] theorem run_store_float (k : FloatKind) (b : Nat) : (store a (.float k b) m).run P w = stored P w a (.float k b) m := run_store P w a _ m rfl
end
structure Pt where
  seq : Int
  st : Nat
  mark : ByteArray
instance : Inhabited Pt := ⟨⟨0, 0, ⟨#[]⟩⟩⟩

/-- The three cells of a point. -/
structure PCell (w : World) (b o : Nat) (p : Pt) : Prop where
  c0 : w.cell? ⟨b, o, none⟩ = some (.int .i64 p.seq)
  c1 : w.cell? ⟨b, o + 1, none⟩ = some (.float .f64 p.st)
  c2 : w.cell? ⟨b, o + 2, none⟩ = some (.string p.mark)
/-- Fits Go's kinds. -/
structure PFit (p : Pt) : Prop where
  i : -9223372036854775808 ≤ p.seq ∧ p.seq ≤ 9223372036854775807
  f : p.st < 18446744073709551616
  s : p.mark.size ≤ maxLen
/-- A row of points from a place on. -/
structure RdP (w : World) (b o : Nat) (L : List Pt) : Prop where
  at_ : ∀ k, k < L.length → PCell w b (o + k * 3) (L.getD k default)
  lt : b < w.heap.size
  fit : ∀ k, k < L.length → PFit (L.getD k default)

theorem PCell.below {w w' : World} {b o : Nat} {p : Pt} (h : PCell w b o p) {B : Nat} (hb : Below B w w') (hl : b < B) : PCell w' b o p :=
  ⟨(hb.cell (p := ⟨b, o, none⟩) hl).trans h.c0, (hb.cell (p := ⟨b, o + 1, none⟩) hl).trans h.c1, (hb.cell (p := ⟨b, o + 2, none⟩) hl).trans h.c2⟩
theorem RdP.below {w w' : World} {b o : Nat} {L : List Pt} (h : RdP w b o L) (hb : Below w.heap.size w w') : RdP w' b o L :=
  ⟨fun k hk => (h.at_ k hk).below hb h.lt, Nat.lt_of_lt_of_le h.lt hb.size, h.fit⟩

def ok1 (p : Pt) : Prop := 1 ≤ p.seq ∧ T p.st ∧ p.st ≠ 9223372036854775808 ∧ (p.mark.toList.isEmpty = false → nameOk p.mark = true)
def ok2 (L : List Pt) (i : Nat) : Prop := 0 < i → (L.getD (i - 1) default).seq < (L.getD i default).seq ∧ key (L.getD (i - 1) default).st ≤ key (L.getD i default).st
def ok3 (L : List Pt) (i j : Nat) : Prop := (L.getD i default).mark.toList.isEmpty = false → ((L.getD j default).mark.toList == (L.getD i default).mark.toList) = false
def okAt (L : List Pt) (i : Nat) : Prop := ok1 (L.getD i default) ∧ ok2 L i ∧ ∀ j, j < i → ok3 L i j
/-- Points that may be. -/
def MayP (L : List Pt) : Prop := ∀ i, i < L.length → okAt L i
open Classical in
noncomputable def mayB (L : List Pt) : Bool := decide (MayP L)
theorem mayB_true {L : List Pt} : mayB L = true ↔ MayP L := by simp [mayB]
theorem mayB_false {L : List Pt} : mayB L = false ↔ ¬ MayP L := by simp [mayB]
theorem mayB_bad {L : List Pt} {i : Nat} (hi : i < L.length) (h : ¬ okAt L i) : mayB L = false := mayB_false.2 fun k => h (k i hi)

/-- The ways through the first test of a point. -/
theorem ok1_ways (p : Pt) : (¬ ok1 p ∧ (decide (p.seq < 1) = true ∨ (decide (p.seq < 1) = false ∧ tmay p.st = false) ∨ (decide (p.seq < 1) = false ∧ tmay p.st = true ∧ decide (p.st = 9223372036854775808) = true) ∨
      (decide (p.seq < 1) = false ∧ tmay p.st = true ∧ decide (p.st = 9223372036854775808) = false ∧ p.mark.toList.isEmpty = false ∧ nameOk p.mark = false))) ∨
    (ok1 p ∧ decide (p.seq < 1) = false ∧ tmay p.st = true ∧ decide (p.st = 9223372036854775808) = false ∧ (p.mark.toList.isEmpty = true ∨ (p.mark.toList.isEmpty = false ∧ nameOk p.mark = true))) := by
  unfold ok1
  by_cases a : p.seq < 1
  · left; refine ⟨fun h => by omega, .inl (by simp [a])⟩
  · have a' : decide (p.seq < 1) = false := by simp; omega
    by_cases b : T p.st
    · have b' : tmay p.st = true := tmay_iff.2 b
      by_cases c : p.st = 9223372036854775808
      · left; exact ⟨fun h => h.2.2.1 c, .inr (.inr (.inl ⟨a', b', by simp [c]⟩))⟩
      · have c' : decide (p.st = 9223372036854775808) = false := by simp [c]
        cases d : p.mark.toList.isEmpty
        · cases e : nameOk p.mark
          · left; exact ⟨fun h => (by have := h.2.2.2 rfl; simp at this), .inr (.inr (.inr ⟨a', b', c', rfl, rfl⟩))⟩
          · right; exact ⟨⟨by omega, b, c, fun _ => rfl⟩, a', b', c', .inr ⟨rfl, rfl⟩⟩
        · right; exact ⟨⟨by omega, b, c, fun h => by simp at h⟩, a', b', c', .inl rfl⟩
    · left; exact ⟨fun h => b h.2.1, .inr (.inl ⟨a', tmay_false.2 b⟩)⟩
theorem ok1_nn {p : Pt} (h : ok1 p) : NN p.st ∧ T p.st ∧ key p.st = p.st := by
  refine ⟨h.2.1.nn, h.2.1, ?_⟩
  rcases h.2.1 with k | k
  · exact key_of_lt k
  · exact absurd k h.2.2.1

/-- The ways through the second test of a point: it against the one ahead of it. -/
theorem ok2_ways (L : List Pt) (k : Nat) (p : Pt) (hP : L.getD k default = p) (hok : ok1 p) (hall : ∀ j, j < k → okAt L j) :
    (k = 0 ∧ ok2 L k) ∨ (0 < k ∧ ∃ q, L.getD (k - 1) default = q ∧ ((¬ ok2 L k ∧ decide (p.seq ≤ q.seq) = true) ∨ (¬ ok2 L k ∧ decide (p.seq ≤ q.seq) = false ∧ (FloatKind.f64.format.order p.st q.st == some .lt) = true) ∨ (ok2 L k ∧ decide (p.seq ≤ q.seq) = false ∧ (FloatKind.f64.format.order p.st q.st == some .lt) = false))) := by
  by_cases hk0 : k = 0
  · left; exact ⟨hk0, fun h => by omega⟩
  · right
    refine ⟨by omega, L.getD (k - 1) default, rfl, ?_⟩
    have hpn := ok1_nn hok
    have hqn := ok1_nn (hall (k - 1) (by omega)).1
    have h2 : ok2 L k ↔ (L.getD (k - 1) default).seq < p.seq ∧ key (L.getD (k - 1) default).st ≤ key p.st := by
      unfold ok2; rw [hP]; exact ⟨fun h => h (by omega), fun h _ => h⟩
    rw [f_lss hpn.1 hqn.1]
    generalize L.getD (k - 1) default = q at h2 ⊢
    by_cases e1 : p.seq ≤ q.seq
    · left; exact ⟨fun h => by have := (h2.1 h).1; omega, by simp [e1]⟩
    · have e1' : decide (p.seq ≤ q.seq) = false := by simp; omega
      by_cases e2 : key p.st < key q.st
      · right; left; exact ⟨fun h => by have := (h2.1 h).2; omega, e1', by simp [e2]⟩
      · right; right; exact ⟨h2.2 ⟨by omega, by omega⟩, e1', by simp; omega⟩

theorem two_drewN_below {B : Nat} {a w : World} (h : Below B a w) (n m : Nat) : Below B a ((w.drewN n).drewN m) := below_drewN (below_drewN h n) m
/-- The ways through the third test: it against one ahead of it, for its mark. -/
theorem ok3_ways (L : List Pt) (k j : Nat) (p : Pt) (hP : L.getD k default = p) :
    (¬ ok3 L k j ∧ p.mark.toList.isEmpty = false ∧ ((L.getD j default).mark.toList == p.mark.toList) = true) ∨ (ok3 L k j ∧ p.mark.toList.isEmpty = true) ∨ (ok3 L k j ∧ p.mark.toList.isEmpty = false ∧ ((L.getD j default).mark.toList == p.mark.toList) = false) := by
  unfold ok3
  rw [hP]
  cases h1 : p.mark.toList.isEmpty
  · cases h2 : ((L.getD j default).mark.toList == p.mark.toList)
    · right; right; exact ⟨fun _ => rfl, rfl, rfl⟩
    · left; exact ⟨fun h => (by have := h rfl; simp at this), rfl, rfl⟩
  · right; left; exact ⟨fun h => by simp at h, rfl⟩
theorem snoc_all {P : Nat → Prop} {k : Nat} (h : ∀ j, j < k → P j) (hk : P k) : ∀ j, j < k + 1 → P j := fun j hj => by
  by_cases e : j = k
  · subst e; exact hk
  · exact h j (by omega)
theorem okAt_snoc {L : List Pt} {k : Nat} {p : Pt} (h : ∀ j, j < k → okAt L j) (hP : L.getD k default = p) (h1 : ok1 p) (h2 : ok2 L k) (h3 : ∀ j, j < k → ok3 L k j) : ∀ j, j < k + 1 → okAt L j :=
  snoc_all h ⟨by rw [hP]; exact h1, h2, h3⟩

set_option maxRecDepth 100000 in
set_option maxHeartbeats 4000000 in
theorem rpmay_any (b o : Nat) (cap : Nat) (L : List Pt) (w : World) (hL : RdP w b o L) (hn : L.length < 9223372036854775807) :
    Calls Try.prog 19 #[.slice (some ⟨b, o, none⟩) L.length cap] w fun e w' => e = .returned (.bool (mayB L)) ∧ Below w.heap.size w w' := by
  go_enter Try.func19, Try.ntmps19
  go_wp2
  go_loopw [3] (fun i wr => ∃ k : Nat, k ≤ L.length ∧ i = .int .i64 k ∧ (∀ j, j < k → okAt L j) ∧ Below w.heap.size w wr) (fun i _ => L.length - (intOf i).toNat)
  case atStart => exact ⟨0, by omega, rfl, by intro j h; omega, Below.refl _ _⟩
  case round =>
    obtain ⟨k, hk, rfl, hall, hB⟩ := hrel
    by_cases hlt : k < L.length
    · have hLr := hL.below hB
      obtain ⟨c0, c1, c2⟩ := hLr.at_ k hlt
      obtain ⟨f0, f1, f2⟩ := hLr.fit k hlt
      have hbl := hLr.lt
      have hprev : 0 < k → PCell wr b (o + (k - 1) * 3) (L.getD (k - 1) default) := fun _ => hLr.at_ (k - 1) (by omega)
      have hbad : ¬ okAt L k → mayB L = false := mayB_bad hlt
      have HB : Hid (¬ ok1 (L.getD k default) → mayB L = false) := fun h => hbad fun j => h j.1
      have HB2 : Hid (¬ ok2 L k → mayB L = false) := fun h => hbad fun j => h j.2.1
      have HB3 : Hid (∀ j, j < k → ¬ ok3 L k j → mayB L = false) := fun j hj h => hbad fun q => h (q.2.2 j hj)
      have HL := Lib.hid hLr
      have HAll := Lib.hid hall
      clear hbad hall hLr
      have hways := ok1_ways (L.getD k default)
      generalize hP : L.getD k default = p at c0 c1 c2 f0 f1 f2 HB hways
      have HP0 := Lib.hid hP
      clear hP
      rcases hways with ⟨hno, hw⟩ | ⟨hok, s1, s2, s3, s45⟩
      · have HF := Lib.hid (HB.out hno)
        clear HB HB2 HB3 hno hprev HP0 HL HAll
        rcases hw with s1 | ⟨s1, s2⟩ | ⟨s1, s2, s3⟩ | ⟨s1, s2, s3, s4, s5⟩
        all_goals
          go_wp2_with (first | (go_at_call 46; refine (rmay_any _ (by assumption) _).mono ?_; rintro e w' ⟨rfl, rfl⟩) | (go_at_call 48; refine (minus_f _ (by assumption) _).mono ?_; rintro e w' ⟨rfl, rfl⟩) | (go_at_call 49; refine (rname_any _ (by assumption) _).mono ?_; rintro e w' ⟨rfl, rfl⟩))
          go_ret
          exact ⟨by rw [HF.out]; rfl, (hB.alloc hB.size _)⟩
      · clear HB
        have hw2 := ok2_ways L k p HP0.out hok HAll.out
        have HOk := Lib.hid hok
        clear hok
        have hlen : (k : Int) < (L.length : Int) := by omega
        rcases hw2 with ⟨hk0, h2⟩ | ⟨hk1, q, hq, hwq⟩
        · -- the first point
          have H2 := Lib.hid h2
          have t0 : decide ((0 : Int) < (k : Int)) = false := by simp; omega
          have t0' : decide (0 < k) = false := by simp; omega
          have HK := Lib.hid hk0
          clear hk0 h2 hprev HB2
          rcases s45 with s4 | ⟨s4, s5⟩
          all_goals
            go_wp2_with (first | (go_at_call 46; refine (rmay_any _ (by assumption) _).mono ?_; rintro e w' ⟨rfl, rfl⟩) | (go_at_call 48; refine (minus_f _ (by assumption) _).mono ?_; rintro e w' ⟨rfl, rfl⟩) | (go_at_call 49; refine (rname_any _ (by assumption) _).mono ?_; rintro e w' ⟨rfl, rfl⟩))
            go_quiet (fail)
            go_wp2
            go_loopw [5] (fun jv w2 => ∃ j : Nat, j ≤ k ∧ jv = .int .i64 j ∧ (∀ i, i < j → ok3 L k i) ∧ ∃ m, w2 = (wr.alloc (.cells #[.int .i64 p.seq, .float .f64 p.st, .string p.mark] 27)).drewN m) (fun jv _ => k - (intOf jv).toNat)
            case atStart => exact ⟨0, by omega, rfl, by intro j h; omega, _, rfl⟩
            case round =>
              obtain ⟨j, hj, rfl, hpre, m, rfl⟩ := hrel
              have HPre := Lib.hid hpre
              clear hpre
              by_cases hjk : j < k
              · obtain ⟨g0, g1, g2⟩ := (HL.out).at_ j (by omega)
                have hj0 : (0 : Int) ≤ (j : Int) := by omega
                have hj1 : (j : Int) < (L.length : Int) := by omega
                have hj2 : j < L.length := by omega
                have hw3 := ok3_ways L k j p HP0.out
                have HB3j : Hid (¬ ok3 L k j → mayB L = false) := fun h => HB3.out j hjk h
                generalize L.getD j default = r at g0 g1 g2 hw3
                rcases hw3 with ⟨h3, x1, x2⟩ | ⟨h3, x1⟩ | ⟨h3, x1, x2⟩
                · first
                    | exact absurd (s4.symm.trans x1) (by decide)
                    | (have HF := Lib.hid (HB3j.out h3)
                       clear HB3j h3
                       go_wp2
                       go_quiet (fail)
                       go_wp2
                       go_ret
                       exact ⟨by rw [HF.out]; rfl, two_drewN_below (hB.alloc hB.size _) _ _⟩)
                all_goals
                  first
                    | exact absurd (s4.symm.trans x1) (by decide)
                    | (have H3 := Lib.hid h3
                       clear HB3j h3
                       go_wp2
                       go_quiet (fail)
                       go_wp2
                       exact ⟨⟨j + 1, by omega, by go_num, snoc_all HPre.out H3.out, _, rfl⟩, by simp [intOf]; omega⟩)
              · go_wp2
                exact ⟨⟨k + 1, by omega, by go_num, okAt_snoc HAll.out HP0.out HOk.out H2.out (fun i hi => HPre.out i (by omega)), below_drewN (hB.alloc hB.size _) _⟩, by simp [intOf]; omega⟩
        · have hd := hprev hk1
          rw [hq] at hd
          obtain ⟨d0, d1, d2⟩ := hd
          have t0 : decide ((0 : Int) < (k : Int)) = true := by simp; omega
          have t0' : decide (0 < k) = true := by simp; omega
          have v1 : IntKind.i64.wrap ((k : Int) - 1) = (k : Int) - 1 := IntWalk.i64_in _ (by omega)
          have v2 : ((k : Int) - 1).toNat = k - 1 := by omega
          have v3 : (0 : Int) ≤ (k : Int) - 1 := by omega
          have v4 : (k : Int) - 1 < (L.length : Int) := by omega
          clear hprev hq
          rcases hwq with ⟨h2, e1⟩ | ⟨h2, e1, e2⟩ | ⟨h2, e1, e2⟩
          · have HF := Lib.hid (HB2.out h2)
            clear h2 HB2
            rcases s45 with s4 | ⟨s4, s5⟩
            all_goals
              go_wp2_with (first | (go_at_call 46; refine (rmay_any _ (by assumption) _).mono ?_; rintro e w' ⟨rfl, rfl⟩) | (go_at_call 48; refine (minus_f _ (by assumption) _).mono ?_; rintro e w' ⟨rfl, rfl⟩) | (go_at_call 49; refine (rname_any _ (by assumption) _).mono ?_; rintro e w' ⟨rfl, rfl⟩))
              go_quiet (fail)
              go_wp2
              go_ret
              exact ⟨by rw [HF.out]; rfl, below_drewN (hB.alloc hB.size _) _⟩
          · have HF := Lib.hid (HB2.out h2)
            clear h2 HB2
            rcases s45 with s4 | ⟨s4, s5⟩
            all_goals
              go_wp2_with (first | (go_at_call 46; refine (rmay_any _ (by assumption) _).mono ?_; rintro e w' ⟨rfl, rfl⟩) | (go_at_call 48; refine (minus_f _ (by assumption) _).mono ?_; rintro e w' ⟨rfl, rfl⟩) | (go_at_call 49; refine (rname_any _ (by assumption) _).mono ?_; rintro e w' ⟨rfl, rfl⟩))
              go_quiet (fail)
              go_wp2
              go_ret
              exact ⟨by rw [HF.out]; rfl, below_drewN (hB.alloc hB.size _) _⟩
          · have H2 := Lib.hid h2
            clear h2 HB2
            rcases s45 with s4 | ⟨s4, s5⟩
            all_goals
              go_wp2_with (first | (go_at_call 46; refine (rmay_any _ (by assumption) _).mono ?_; rintro e w' ⟨rfl, rfl⟩) | (go_at_call 48; refine (minus_f _ (by assumption) _).mono ?_; rintro e w' ⟨rfl, rfl⟩) | (go_at_call 49; refine (rname_any _ (by assumption) _).mono ?_; rintro e w' ⟨rfl, rfl⟩))
              go_quiet (fail)
              go_wp2
              go_loopw [5] (fun jv w2 => ∃ j : Nat, j ≤ k ∧ jv = .int .i64 j ∧ (∀ i, i < j → ok3 L k i) ∧ ∃ m, w2 = (wr.alloc (.cells #[.int .i64 p.seq, .float .f64 p.st, .string p.mark] 27)).drewN m) (fun jv _ => k - (intOf jv).toNat)
              case atStart => exact ⟨0, by omega, rfl, by intro j h; omega, _, rfl⟩
              case round =>
                obtain ⟨j, hj, rfl, hpre, m, rfl⟩ := hrel
                have HPre := Lib.hid hpre
                clear hpre
                by_cases hjk : j < k
                · obtain ⟨g0, g1, g2⟩ := (HL.out).at_ j (by omega)
                  have hj0 : (0 : Int) ≤ (j : Int) := by omega
                  have hj1 : (j : Int) < (L.length : Int) := by omega
                  have hj2 : j < L.length := by omega
                  have hw3 := ok3_ways L k j p HP0.out
                  have HB3j : Hid (¬ ok3 L k j → mayB L = false) := fun h => HB3.out j hjk h
                  generalize L.getD j default = r at g0 g1 g2 hw3
                  rcases hw3 with ⟨h3, x1, x2⟩ | ⟨h3, x1⟩ | ⟨h3, x1, x2⟩
                  · first
                      | exact absurd (s4.symm.trans x1) (by decide)
                      | (have HF := Lib.hid (HB3j.out h3)
                         clear HB3j h3
                         go_wp2
                         go_quiet (fail)
                         go_wp2
                         go_ret
                         exact ⟨by rw [HF.out]; rfl, two_drewN_below (hB.alloc hB.size _) _ _⟩)
                  all_goals
                    first
                      | exact absurd (s4.symm.trans x1) (by decide)
                      | (have H3 := Lib.hid h3
                         clear HB3j h3
                         go_wp2
                         go_quiet (fail)
                         go_wp2
                         exact ⟨⟨j + 1, by omega, by go_num, snoc_all HPre.out H3.out, _, rfl⟩, by simp [intOf]; omega⟩)
                · go_wp2
                  exact ⟨⟨k + 1, by omega, by go_num, okAt_snoc HAll.out HP0.out HOk.out H2.out (fun i hi => HPre.out i (by omega)), below_drewN (hB.alloc hB.size _) _⟩, by simp [intOf]; omega⟩
    · have hfin : mayB L = true := mayB_true.2 fun i hi => hall i (by omega)
      have HF := Lib.hid hfin
      clear hfin hall
      go_wp2
      go_ret
      exact ⟨by rw [HF.out]; rfl, hB⟩
end Go.Proofs.Ytddnhjpclglclaa
