/- The walk of points.May: a map of marks, a copy of each point. -/
import Derived.Test.YtddnhjpclglclaaPts
import Derived.Test.YtddnhjpclglclaaMap
namespace Go.Proofs.Ytddnhjpclglclaa
open Go.RowKit Fl
open Go.ChangeMaps (setBlock)

def seqAt (L : List Pt) (k : Nat) : Int := if k = 0 then 0 else (L.getD (k - 1) default).seq
def stAt (L : List Pt) (k : Nat) : Nat := if k = 0 then 0 else (L.getD (k - 1) default).st
/-- What the map of marks holds when k points are over. -/
def Marks (L : List Pt) (k : Nat) (M : List (ByteArray × Value)) : Prop :=
  (∀ j, j < k → look (L.getD j default).mark M = some (.bool true)) ∧ ∀ s, (∀ j, j < k → (L.getD j default).mark ≠ s) → look s M = none
theorem Marks.zero (L : List Pt) : Marks L 0 [] := ⟨by intro j h; omega, fun _ _ => rfl⟩
theorem Marks.succ {L : List Pt} {k : Nat} {M : List (ByteArray × Value)} (h : Marks L k M) {p : Pt} (hP : L.getD k default = p) : Marks L (k + 1) (mput p.mark (.bool true) M) := by
  refine ⟨fun j hj => ?_, fun s hs => ?_⟩
  · rw [look_mput]
    by_cases e : (L.getD j default).mark = p.mark
    · rw [if_pos e]
    · rw [if_neg e]
      refine h.1 j ?_
      by_cases q : j = k
      · subst q; rw [hP] at e; exact absurd rfl e
      · omega
  · rw [look_mput, if_neg, h.2 s fun j hj => hs j (by omega)]
    intro e
    exact hs k (by omega) (by rw [hP, e])

theorem toList_inj {a b : ByteArray} (h : (a.toList == b.toList) = true) : a = b := by
  rw [beq_iff_eq, ByteArray.toList_eq, ByteArray.toList_eq] at h
  cases a; cases b
  congr
  exact Array.toList_inj.1 h
theorem toList_self (a : ByteArray) : (a.toList == a.toList) = true := by simp

/-- What the map says of a mark: whether it came already. -/
theorem marks_dup {L : List Pt} {k : Nat} {M : List (ByteArray × Value)} (h : Marks L k M) {p : Pt} (hP : L.getD k default = p) (he : p.mark.toList.isEmpty = false) :
    ((look p.mark M).getD (.bool false) = .bool true ∧ ∃ j, j < k ∧ ¬ ok3 L k j) ∨ ((look p.mark M).getD (.bool false) = .bool false ∧ ∀ j, j < k → ok3 L k j) := by
  by_cases hd : ∃ j, j < k ∧ (L.getD j default).mark = p.mark
  · obtain ⟨j, hj, e⟩ := hd
    left
    refine ⟨by rw [← e, h.1 j hj]; rfl, j, hj, ?_⟩
    intro q
    unfold ok3 at q
    rw [hP] at q
    have := q he
    rw [e, toList_self] at this
    cases this
  · right
    have hn : ∀ j, j < k → (L.getD j default).mark ≠ p.mark := fun j hj e => hd ⟨j, hj, e⟩
    refine ⟨by rw [h.2 _ hn]; rfl, fun j hj => ?_⟩
    unfold ok3
    rw [hP]
    intro _
    cases hb : ((L.getD j default).mark.toList == p.mark.toList)
    · rfl
    · exact absurd (toList_inj hb) (hn j hj)
theorem ok3_empty {L : List Pt} {k : Nat} {p : Pt} (hP : L.getD k default = p) (he : p.mark.toList.isEmpty = true) : ∀ j, j < k → ok3 L k j := by
  intro j _
  unfold ok3
  rw [hP, he]
  intro h; cases h

def ok1' (p : Pt) : Prop := 1 ≤ p.seq ∧ T p.st ∧ p.st ≠ 9223372036854775808
theorem ok1_of {p : Pt} (h : ok1' p) (hm : p.mark.toList.isEmpty = false → nameOk p.mark = true) : ok1 p := ⟨h.1, h.2.1, h.2.2, hm⟩
theorem not_ok1 {L : List Pt} {k : Nat} {p : Pt} (hP : L.getD k default = p) (h : ¬ ok1 p) : ¬ okAt L k := fun q => h (by have := q.1; rw [hP] at this; exact this)

/-- The ways through May's first test. -/
theorem may_ways (L : List Pt) (k : Nat) (p : Pt) (hP : L.getD k default = p) (hall : ∀ j, j < k → okAt L j) :
    (¬ okAt L k ∧ (decide (p.seq ≤ seqAt L k) = true ∨ (decide (p.seq ≤ seqAt L k) = false ∧ tmay p.st = false) ∨ (decide (p.seq ≤ seqAt L k) = false ∧ tmay p.st = true ∧ decide (9223372036854775808 ≤ p.st) = true) ∨
      (decide (p.seq ≤ seqAt L k) = false ∧ tmay p.st = true ∧ decide (9223372036854775808 ≤ p.st) = false ∧ (FloatKind.f64.format.order p.st (stAt L k) == some .lt) = true))) ∨
    (ok1' p ∧ ok2 L k ∧ decide (p.seq ≤ seqAt L k) = false ∧ tmay p.st = true ∧ decide (9223372036854775808 ≤ p.st) = false ∧ (FloatKind.f64.format.order p.st (stAt L k) == some .lt) = false) := by
  have hs0 : k ≠ 0 → 1 ≤ seqAt L k := by
    intro h; unfold seqAt; rw [if_neg h]; exact (hall (k - 1) (by omega)).1.1
  have hs1 : k = 0 → seqAt L k = 0 := by intro h; unfold seqAt; rw [if_pos h]
  have hst : NN (stAt L k) := by
    unfold stAt; split
    · exact nn_zero
    · exact (ok1_nn (hall (k - 1) (by omega)).1).1
  have h2 : k ≠ 0 → (ok2 L k ↔ seqAt L k < p.seq ∧ key (stAt L k) ≤ key p.st) := by
    intro h; unfold ok2 seqAt stAt; rw [hP, if_neg h, if_neg h]; exact ⟨fun q => q (by omega), fun q _ => q⟩
  have h20 : k = 0 → ok2 L k := fun h q => by omega
  have hk0 : k = 0 → key (stAt L k) = 0 := by intro h; unfold stAt; rw [if_pos h]; rfl
  have bad1 : ¬ ok1' p → ¬ okAt L k := fun h q => h (by have := q.1; rw [hP] at this; exact ⟨this.1, this.2.1, this.2.2.1⟩)
  have bad2 : ¬ ok2 L k → ¬ okAt L k := fun h q => h q.2.1
  by_cases a : p.seq ≤ seqAt L k
  · left
    refine ⟨?_, .inl (by simp [a])⟩
    by_cases hk : k = 0
    · have := hs1 hk; exact bad1 fun h => by have := h.1; omega
    · exact bad2 fun h => by have := ((h2 hk).1 h).1; omega
  · have a' : decide (p.seq ≤ seqAt L k) = false := by simp; omega
    have hseq : 1 ≤ p.seq := by
      by_cases hk : k = 0
      · have := hs1 hk; omega
      · have := hs0 hk; omega
    by_cases b : T p.st
    · have b' : tmay p.st = true := tmay_iff.2 b
      by_cases c : p.st = 9223372036854775808
      · left; exact ⟨bad1 fun h => h.2.2 c, .inr (.inr (.inl ⟨a', b', by simp [c]⟩))⟩
      · have hlt : p.st < 9218868437227405312 := b.resolve_right c
        have c' : decide (9223372036854775808 ≤ p.st) = false := by simp; omega
        have hf := f_lss b.nn hst
        by_cases d : key p.st < key (stAt L k)
        · left
          refine ⟨?_, .inr (.inr (.inr ⟨a', b', c', by rw [hf]; simp [d]⟩))⟩
          by_cases hk : k = 0
          · have := hk0 hk; omega
          · exact bad2 fun h => by have := ((h2 hk).1 h).2; omega
        · right
          refine ⟨⟨hseq, b, c⟩, ?_, a', b', c', by rw [hf]; simp; omega⟩
          by_cases hk : k = 0
          · exact h20 hk
          · exact (h2 hk).2 ⟨by omega, by omega⟩
    · left; exact ⟨bad1 fun h => b h.2.1, .inr (.inl ⟨a', tmay_false.2 b⟩)⟩

theorem zero_bool (w : World) : (zeroValue 4).run Try.prog w = .ok (.bool false) w := by kernel_rfl

set_option maxRecDepth 100000 in
set_option maxHeartbeats 4000000 in
theorem pmay_any (b o : Nat) (cap : Nat) (L : List Pt) (w : World) (hL : RdP w b o L) (hn : L.length < 9223372036854775807) :
    Calls Try.prog 22 #[.slice (some ⟨b, o, none⟩) L.length cap] w fun e w' => e = .returned (.bool (mayB L)) ∧ Below w.heap.size w w' := by
  have hmm := @run_makeMap Try.prog
  go_enter Try.func22, Try.ntmps22
  go_wp2
  go_loopw [3, 4, 11] (fun sv tv i wr => ∃ k : Nat, k ≤ L.length ∧ i = .int .i64 k ∧ sv = .int .i64 (seqAt L k) ∧ tv = .float .f64 (stAt L k) ∧ (∀ j, j < k → okAt L j) ∧ Below w.heap.size w wr ∧ ∃ M, MapIs strKey wr w.heap.size M ∧ Marks L k M) (fun _ _ i _ => L.length - (intOf i).toNat)
  case atStart => exact ⟨0, by omega, rfl, rfl, rfl, by intro j h; omega, (Below.refl _ _).alloc (Nat.le_refl _) _, [], MapIs.new _ _, Marks.zero L⟩
  case round =>
    obtain ⟨k, hk, rfl, rfl, rfl, hall, hB, M, hM, hMk⟩ := hrel
    by_cases hlt : k < L.length
    · have hLr := hL.below hB
      obtain ⟨c0, c1, c2⟩ := hLr.at_ k hlt
      obtain ⟨f0, f1, f2⟩ := hLr.fit k hlt
      have HBad : Hid (¬ okAt L k → mayB L = false) := mayB_bad hlt
      have HAll := Lib.hid hall
      have HM := Lib.hid hM
      have HMk := Lib.hid hMk
      have hmb := hM.lt
      clear hall hM hMk hLr
      have hways := may_ways L k (L.getD k default) rfl HAll.out
      generalize hP : L.getD k default = p at c0 c1 c2 f0 f1 f2 hways
      have HP0 := Lib.hid hP
      clear hP
      have HS : Hid (p.seq = seqAt L (k + 1)) := by unfold Hid seqAt; rw [if_neg (by omega), Nat.add_sub_cancel, HP0.out]
      have HT : Hid (p.st = stAt L (k + 1)) := by unfold Hid stAt; rw [if_neg (by omega), Nat.add_sub_cancel, HP0.out]
      generalize seqAt L k = sq at hways ⊢
      generalize stAt L k = sk at hways ⊢
      rcases hways with ⟨hno, hw⟩ | ⟨hok, hok2, s1, s2, s3, s4⟩
      · have HF := Lib.hid (HBad.out hno)
        clear HBad hno HAll HM HMk HP0 HS HT
        rcases hw with s1 | ⟨s1, s2⟩ | ⟨s1, s2, s3⟩ | ⟨s1, s2, s3, s4⟩
        all_goals
          go_wp2_with (first | (go_at_call 30; refine (may_any _ (by assumption) _).mono ?_; rintro e w' ⟨rfl, rfl⟩) | (go_at_call 36; refine (signbit_any _ (by assumption) _).mono ?_; rintro e w' ⟨rfl, rfl⟩))
          go_ret
          exact ⟨by rw [HF.out]; rfl, (hB.alloc hB.size _)⟩
      · have HOk := Lib.hid hok
        have HOk2 := Lib.hid hok2
        clear hok hok2
        have hX : ∀ n, (((wr.alloc (.cells #[.int .i64 p.seq, .float .f64 p.st, .string p.mark] 27)).drewN n).heap[w.heap.size]?) = wr.heap[w.heap.size]? := fun n => Below.heap_alloc _ _ _ hmb
        obtain ⟨ob, hput⟩ := run_put (P := Try.prog) (t := 75) (kt := 9) (et := 4) strKey HM.out Try.underlying75 Try.underlying9 p.mark (.bool true)
        have HPut := Lib.hid hput
        generalize hXX : (wr.alloc (.cells #[.int .i64 p.seq, .float .f64 p.st, .string p.mark] 27)) = XX at hX
        have p1 : (Instr.mapUpdate 75 (.map (some w.heap.size)) (.string p.mark) (.bool true)).run Try.prog XX.drew = .ok () (setBlock XX.drew w.heap.size ob) := (HPut.out _ (hX 1)).1
        have p1n : ∀ n, (Instr.mapUpdate 75 (.map (some w.heap.size)) (.string p.mark) (.bool true)).run Try.prog (XX.drewN (n + 1)) = .ok () (setBlock (XX.drewN (n + 1)) w.heap.size ob) := fun n => (HPut.out _ (hX (n + 1))).1
        subst hXX
        clear hput
        have HX := Lib.hid hX
        clear hX
        cases e1 : p.mark.toList.isEmpty
        · rcases marks_dup HMk.out HP0.out e1 with ⟨hd, j, hj, hno⟩ | ⟨hd, h3⟩
          · have HF := Lib.hid (HBad.out fun q => hno (q.2.2 j hj))
            have hlk : ∀ n, (Instr.lookup 75 (.map (some w.heap.size)) (.string p.mark) false).run Try.prog ((wr.alloc (.cells #[.int .i64 p.seq, .float .f64 p.st, .string p.mark] 27)).drewN n) = .ok (.bool true) ((wr.alloc (.cells #[.int .i64 p.seq, .float .f64 p.st, .string p.mark] 27)).drewN n) := by
              intro n
              have := run_look (P := Try.prog) strKey (HM.out.of_block (HX.out n)) Try.underlying75 Try.underlying9 (zero_bool _) p.mark
              rw [hd] at this
              exact this
            clear hd hno p1 p1n
            cases e2 : nameOk p.mark
            all_goals
              go_wp2_with (first | (go_at_call 30; refine (may_any _ (by assumption) _).mono ?_; rintro e w' ⟨rfl, rfl⟩) | (go_at_call 36; refine (signbit_any _ (by assumption) _).mono ?_; rintro e w' ⟨rfl, rfl⟩) | (go_at_call 54; refine (name_any _ (by assumption) _).mono ?_; rintro e w' ⟨rfl, nN, rfl⟩))
              go_ret
              exact ⟨by rw [HF.out]; rfl, below_drewN (hB.alloc hB.size _) _⟩
          · cases e2 : nameOk p.mark
            · have HF := Lib.hid (HBad.out (not_ok1 HP0.out fun q => by have := q.2.2.2 e1; rw [e2] at this; cases this))
              clear hd h3 p1 p1n
              go_wp2_with (first | (go_at_call 30; refine (may_any _ (by assumption) _).mono ?_; rintro e w' ⟨rfl, rfl⟩) | (go_at_call 36; refine (signbit_any _ (by assumption) _).mono ?_; rintro e w' ⟨rfl, rfl⟩) | (go_at_call 54; refine (name_any _ (by assumption) _).mono ?_; rintro e w' ⟨rfl, nN, rfl⟩))
              go_ret
              exact ⟨by rw [HF.out]; rfl, below_drewN (hB.alloc hB.size _) _⟩
            · have H3 := Lib.hid h3
              have hlk : ∀ n, (Instr.lookup 75 (.map (some w.heap.size)) (.string p.mark) false).run Try.prog ((wr.alloc (.cells #[.int .i64 p.seq, .float .f64 p.st, .string p.mark] 27)).drewN n) = .ok (.bool false) ((wr.alloc (.cells #[.int .i64 p.seq, .float .f64 p.st, .string p.mark] 27)).drewN n) := by
                intro n
                have := run_look (P := Try.prog) strKey (HM.out.of_block (HX.out n)) Try.underlying75 Try.underlying9 (zero_bool _) p.mark
                rw [hd] at this
                exact this
              clear hd h3
              go_wp2_with (first | (go_at_call 30; refine (may_any _ (by assumption) _).mono ?_; rintro e w' ⟨rfl, rfl⟩) | (go_at_call 36; refine (signbit_any _ (by assumption) _).mono ?_; rintro e w' ⟨rfl, rfl⟩) | (go_at_call 54; refine (name_any _ (by assumption) _).mono ?_; rintro e w' ⟨rfl, nN, rfl⟩))
              go_region
              all_goals
                go_wp2
                exact ⟨⟨k + 1, by omega, by go_num, by rw [← HS.out], by rw [← HT.out], okAt_snoc HAll.out HP0.out (ok1_of HOk.out fun _ => e2) HOk2.out H3.out, below_setBlock (below_drewN (hB.alloc hB.size _) _) (Nat.le_refl _) _, _, (HPut.out _ (HX.out _)).2, HMk.out.succ HP0.out⟩, by simp [intOf]; omega⟩
        · have H3 := Lib.hid (ok3_empty HP0.out e1)
          go_wp2_with (first | (go_at_call 30; refine (may_any _ (by assumption) _).mono ?_; rintro e w' ⟨rfl, rfl⟩) | (go_at_call 36; refine (signbit_any _ (by assumption) _).mono ?_; rintro e w' ⟨rfl, rfl⟩))
          go_region
          all_goals
            go_wp2
            exact ⟨⟨k + 1, by omega, by go_num, by rw [← HS.out], by rw [← HT.out], okAt_snoc HAll.out HP0.out (ok1_of HOk.out fun h => by rw [e1] at h; cases h) HOk2.out H3.out, below_setBlock (below_drewN (hB.alloc hB.size _) 1) (Nat.le_refl _) _, _, (HPut.out _ (HX.out 1)).2, HMk.out.succ HP0.out⟩, by simp [intOf]; omega⟩
    · have hfin : mayB L = true := mayB_true.2 fun i hi => hall i (by omega)
      have HF := Lib.hid hfin
      clear hfin hall hM hMk
      go_wp2
      go_ret
      exact ⟨by rw [HF.out]; rfl, hB⟩
end Go.Proofs.Ytddnhjpclglclaa
