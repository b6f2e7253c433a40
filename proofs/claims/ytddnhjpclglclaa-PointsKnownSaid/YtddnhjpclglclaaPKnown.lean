/- Points by hand: what may not be, infinities: the walk of treeringlaw18.PointsKnown. -/
import Derived.Test.YtddnhjpclglclaaAskL
import Derived.Test.YtddnhjpclglclaaPSeq
import Derived.Test.YtddnhjpclglclaaAgeK
import Derived.Test.YtddnhjpclglclaaPParts
namespace Go.Proofs.Ytddnhjpclglclaa
open Go.RowKit Fl
def pbad : Nat → List Pt
  | 0 => [⟨0, 0, ⟨#[]⟩⟩]
  | 1 => [⟨1, 9221120237041090561, ⟨#[]⟩⟩]
  | 2 => [⟨1, 9218868437227405312, ⟨#[]⟩⟩]
  | 3 => [⟨1, 13830554455654793216, ⟨#[]⟩⟩]
  | 4 => [⟨1, 9223372036854775808, ⟨#[]⟩⟩]
  | 5 => [⟨2, 0, ⟨#[]⟩⟩, ⟨2, 0, ⟨#[]⟩⟩]
  | 6 => [⟨1, 4611686018427387904, ⟨#[]⟩⟩, ⟨2, 4607182418800017408, ⟨#[]⟩⟩]
  | 7 => [⟨1, 0, ⟨#[97, 47, 98]⟩⟩]
  | _ => [⟨1, 0, ⟨#[109]⟩⟩, ⟨2, 0, ⟨#[109]⟩⟩]
theorem pbad_bad : ∀ k, k < 9 → mayB (pbad k) = false := by
  intro k hk
  match k, hk with
  | 0, _ => exact mayB_false.2 (by decide +kernel)
  | 1, _ => exact mayB_false.2 (by decide +kernel)
  | 2, _ => exact mayB_false.2 (by decide +kernel)
  | 3, _ => exact mayB_false.2 (by decide +kernel)
  | 4, _ => exact mayB_false.2 (by decide +kernel)
  | 5, _ => exact mayB_false.2 (by decide +kernel)
  | 6, _ => exact mayB_false.2 (by decide +kernel)
  | 7, _ => exact mayB_false.2 (by decide +kernel)
  | 8, _ => exact mayB_false.2 (by decide +kernel)
theorem pbad_len : ∀ k, k < 9 → (pbad k).length < 9223372036854775807 := by
  intro k hk
  match k, hk with
  | 0, _ => exact (by decide)
  | 1, _ => exact (by decide)
  | 2, _ => exact (by decide)
  | 3, _ => exact (by decide)
  | 4, _ => exact (by decide)
  | 5, _ => exact (by decide)
  | 6, _ => exact (by decide)
  | 7, _ => exact (by decide)
  | 8, _ => exact (by decide)
instance (p : Pt) : Decidable (PFit p) := decidable_of_iff ((-9223372036854775808 ≤ p.seq ∧ p.seq ≤ 9223372036854775807) ∧ p.st < 18446744073709551616 ∧ p.mark.size ≤ maxLen) ⟨fun h => ⟨h.1, h.2.1, h.2.2⟩, fun h => ⟨h.i, h.f, h.s⟩⟩
theorem pbad_fit : ∀ k, k < 9 → ∀ j, j < (pbad k).length → PFit ((pbad k).getD j default) := by
  intro k hk
  match k, hk with
  | 0, _ => decide +kernel
  | 1, _ => decide +kernel
  | 2, _ => decide +kernel
  | 3, _ => decide +kernel
  | 4, _ => decide +kernel
  | 5, _ => decide +kernel
  | 6, _ => decide +kernel
  | 7, _ => decide +kernel
  | 8, _ => decide +kernel
def bobj (k : Nat) : Obj := .cells (cellsP (pbad k)).toArray 27
def ws (w : World) : Nat → World
  | 0 => w
  | k + 1 => (ws w k).alloc (bobj k)
theorem ws_size (w : World) : ∀ k, (ws w k).heap.size = w.heap.size + k
  | 0 => rfl
  | k + 1 => by show ((ws w k).alloc (bobj k)).heap.size = _; simp [ws_size w k]; omega
theorem ws_below (w : World) (k : Nat) : ∀ m, Below (ws w k).heap.size (ws w k) (ws w (k + m))
  | 0 => Below.refl _ _
  | m + 1 => bal (ws_below w k m) _
theorem ws_sl (w : World) {k : Nat} (hk : k < 9) (cap : Nat) : SlP (ws w (k + 1)) (.slice (some ⟨w.heap.size + k, 0, none⟩) (pbad k).length cap) (pbad k) := by
  rw [← ws_size w k]
  exact sl_new (ws w k) _ _ (pbad k) (by simp) (pbad_fit k hk) cap
def osl (B : Nat) (k : Nat) : Value := .slice (some ⟨B + k, 0, none⟩) (pbad k).length (pbad k).length
structure G (B bo : Nat) (W : World) : Prop where
  cell : ∀ k, k < 9 → W.cell? ⟨bo, k, none⟩ = some (osl B k)
  sl : ∀ k, k < 9 → SlP W (osl B k) (pbad k)
  lt : bo < W.heap.size
theorem G.below {B bo : Nat} {W W' : World} (h : G B bo W) (hb : Below W.heap.size W W') : G B bo W' :=
  ⟨fun k hk => (hb.cell (p := ⟨bo, k, none⟩) h.lt).trans (h.cell k hk), fun k hk => (h.sl k hk).below hb, Nat.lt_of_lt_of_le h.lt hb.size⟩
def oobj (B : Nat) : Obj := .cells #[osl B 0, osl B 1, osl B 2, osl B 3, osl B 4, osl B 5, osl B 6, osl B 7, osl B 8] 22
theorem G_new (w : World) : G w.heap.size (w.heap.size + 9) ((ws w 9).alloc (oobj w.heap.size)) := by
  refine ⟨fun k hk => ?_, fun k hk => ?_, by simp [ws_size]⟩
  · rw [← ws_size w 9]
    have : ((ws w 9).alloc (oobj w.heap.size)).cell? ⟨(ws w 9).heap.size, k, none⟩ = #[osl w.heap.size 0, osl w.heap.size 1, osl w.heap.size 2, osl w.heap.size 3, osl w.heap.size 4, osl w.heap.size 5, osl w.heap.size 6, osl w.heap.size 7, osl w.heap.size 8][k]? := cell_new _ _ _ _
    rw [this]
    match k, hk with
    | 0, _ => rfl
    | 1, _ => rfl
    | 2, _ => rfl
    | 3, _ => rfl
    | 4, _ => rfl
    | 5, _ => rfl
    | 6, _ => rfl
    | 7, _ => rfl
    | 8, _ => rfl
  · have h := ws_below w (k + 1) (8 - k)
    rw [show k + 1 + (8 - k) = 9 by omega] at h
    exact ((ws_sl w hk _).below h).below (bal (Below.refl _ _) _)
theorem G_below (w : World) : Below w.heap.size w ((ws w 9).alloc (oobj w.heap.size)) := bal (ws_below w 0 9) _
def L2 : List Pt := [⟨3, 4607182418800017408, ⟨#[]⟩⟩, ⟨9, 4616189618054758400, ⟨#[109]⟩⟩]
theorem may2 : mayB L2 = true := mayB_true.2 (by decide +kernel)
theorem fit2 : ∀ j, j < L2.length → PFit (L2.getD j default) := by decide +kernel
theorem a2inf : askR (phi_at 9218868437227405312) L2 = (⟨9, 4616189618054758400, ⟨#[109]⟩⟩, 0) := by
  have : L2.reverse.find? (phi_at 9218868437227405312) = some ⟨9, 4616189618054758400, ⟨#[109]⟩⟩ := by kernel_rfl
  simp [askR, may2, this]
theorem no2 {φ : Pt → Bool} (h : L2.reverse.find? φ = none) : askR φ L2 = (⟨0, 0, ⟨#[]⟩⟩, 14) := by simp [askR, may2, h, ptZero]
theorem a2nan : askR (phi_at 9221120237041090561) L2 = (⟨0, 0, ⟨#[]⟩⟩, 14) := no2 (by kernel_rfl)
theorem a2half : askR (phi_at 4602678819172646912) L2 = (⟨0, 0, ⟨#[]⟩⟩, 14) := no2 (by kernel_rfl)
theorem a2minf : askR (phi_at 18442240474082181120) L2 = (⟨0, 0, ⟨#[]⟩⟩, 14) := no2 (by kernel_rfl)
theorem m2e : askR (phi_mark ⟨#[]⟩) L2 = (⟨0, 0, ⟨#[]⟩⟩, 14) := no2 (by kernel_rfl)
theorem m2q : askR (phi_mark ⟨#[113]⟩) L2 = (⟨0, 0, ⟨#[]⟩⟩, 14) := no2 (by kernel_rfl)
theorem same2 : sameB L2 (pbad 8) = false := sameB_false.2 fun h => by
  have := h.2 0 (by decide)
  revert this
  decide +kernel
set_option maxRecDepth 100000 in
set_option maxHeartbeats 4000000 in
theorem pointsKnown_walk (w : World) :
    Calls Try.prog 11 #[] w fun e w' => e = .returned (.bool true) ∧ Below w.heap.size w w' := by
  go_enter Try.func11, Try.ntmps11
  go_wp2_with (first
    | (go_at_call 18; refine (awake18 _).mono ?_; rintro e w1 ⟨rfl, hB1⟩)
    | (go_at_call 32; refine (nan_any _).mono ?_; rintro e w' ⟨rfl, rfl⟩)
    | (go_at_call 33; refine (inf_any _).mono ?_; rintro e w' ⟨rfl, rfl⟩) | (go_at_call 34; refine (minus_any _).mono ?_; rintro e w' ⟨rfl, rfl⟩))
  have HG := Lib.hid (G_new w1)
  have HC := Lib.hid (blw hB1 (G_below w1))
  have ebo : w1.heap.size + 1 + 1 + 1 + 1 + 1 + 1 + 1 + 1 + 1 = w1.heap.size + 9 := rfl
  rw [ebo]
  generalize w1.heap.size + 9 = bo at HG ⊢

  go_loopw [5] (fun i wr => ∃ k : Nat, k ≤ 9 ∧ i = .int .i64 (k : Int) ∧ Hid (G w1.heap.size bo wr) ∧ Hid (Below w.heap.size w wr)) (fun i _ => 9 - (intOf i).toNat)
  case atStart => exact ⟨0, by omega, rfl, HG, HC⟩
  case round =>
    obtain ⟨k, hk, rfl, HG0, HC0⟩ := hrel
    by_cases hlt : k < 9
    · have hkl : (k : Int) < 9 := by omega
      have v2 : IntKind.i64.wrap ((k : Int) + 1) = (k : Int) + 1 := IntWalk.i64_in _ (by omega)
      have hb := pbad_bad k hlt
      have hl9 : (pbad k).length < 9223372036854775807 := pbad_len k hlt
      have H1 := Lib.hid (ask_bad (φ := phi_at 4607182418800017408) hb)
      have H2 := Lib.hid (ask_bad (φ := phi_seq 1) hb)
      have H3 := Lib.hid (ask_bad (φ := phi_mark ⟨#[109]⟩) hb)
      have H4 := Lib.hid hb
      have x0 := HG0.out.cell k hlt
      unfold osl at x0
      have l0 := HG0.out.lt
      clear hb
      go_wp2_with (first
        | (go_at_call 20; refine (pat_any _ _ _ (pbad k) _ (HG0.out.sl k hlt) hl9).mono ?_; rintro e w2 ⟨rfl, hB2⟩; rw [H1.out]; dsimp only [askV]; have HG2 := Lib.hid ((HG0.out.below hB2).below (bal (Below.refl _ w2) (.cells #[.int .i64 0, .float .f64 0, .string ⟨#[]⟩] 27))); have HC2 := Lib.hid (bal (blw HC0.out hB2) (.cells #[.int .i64 0, .float .f64 0, .string ⟨#[]⟩] 27)); clear hB2
           have x2 := HG2.out.cell k hlt; unfold osl at x2; have l2 := HG2.out.lt)
        | (go_at_call 28; refine (pseq_any _ _ _ (pbad k) _ (HG2.out.sl k hlt) hl9).mono ?_; rintro e w3 ⟨rfl, hB3⟩; rw [H2.out]; dsimp only [askV]; have HG3 := Lib.hid ((HG2.out.below hB3).below (bal (Below.refl _ w3) (.cells #[.int .i64 0, .float .f64 0, .string ⟨#[]⟩] 27))); have HC3 := Lib.hid (bal (blw HC2.out hB3) (.cells #[.int .i64 0, .float .f64 0, .string ⟨#[]⟩] 27)); clear hB3
           have x3 := HG3.out.cell k hlt; unfold osl at x3; have l3 := HG3.out.lt)
        | (go_at_call 29; refine (pmark_any _ _ _ (pbad k) _ (HG3.out.sl k hlt) hl9).mono ?_; rintro e w4 ⟨rfl, hB4⟩; rw [H3.out]; dsimp only [askV]; have HG4 := Lib.hid ((HG3.out.below hB4).below (bal (Below.refl _ w4) (.cells #[.int .i64 0, .float .f64 0, .string ⟨#[]⟩] 27))); have HC4 := Lib.hid (bal (blw HC3.out hB4) (.cells #[.int .i64 0, .float .f64 0, .string ⟨#[]⟩] 27)); clear hB4
           have x4 := HG4.out.cell k hlt; unfold osl at x4; have l4 := HG4.out.lt)
        | (go_at_call 22; refine (pmay_sl _ _ (pbad k) _ (HG4.out.sl k hlt) hl9).mono ?_; rintro e w5 ⟨rfl, hB5⟩; rw [H4.out]; have HG5 := Lib.hid (HG4.out.below hB5); have HC5 := Lib.hid (blw HC4.out hB5); clear hB5))
      exact ⟨⟨k + 1, by omega, by go_num, HG5, HC5⟩, by simp [intOf]; omega⟩
    · have hlt' : decide ((k : Int) < 9) = false := decide_eq_false (by omega)
      have hk9 : k = 9 := by omega
      subst hk9
      clear hlt
      obtain ⟨W, hW⟩ : ∃ W, W = wr.alloc (.cells #[.int .i64 3, .float .f64 4607182418800017408, .string ⟨#[]⟩, .int .i64 9, .float .f64 4616189618054758400, .string ⟨#[109]⟩] 27) := ⟨_, rfl⟩
      have hI0 : SlP W (.slice (some ⟨wr.heap.size, 0, none⟩) 2 2) L2 := by rw [hW]; exact sl_new wr _ _ L2 rfl fit2 2
      have HGW : Hid (G w1.heap.size bo W) := by rw [hW]; exact Lib.hid (HG0.out.below (bal (Below.refl _ wr) _))
      have HCW : Hid (Below w.heap.size w W) := by rw [hW]; exact Lib.hid (bal HC0.out _)
      have hng : ∀ w, (Op.unary .neg (.float .f64 9218868437227405312)).run Try.prog w = .ok (.float .f64 18442240474082181120) w := fun _ => by kernel_rfl
      have HI0 := Lib.hid hI0
      have HW := Lib.hid hW
      clear hW hI0
      go_wp2_with (first
        | (go_at_call 20; first
            | (have h5 := HC5.out; refine (pat_any _ none 0 [] _ (sl_nil _ _ _) (by decide)).mono ?_; rintro e w6 ⟨rfl, hB6⟩; rw [ask_nil]; dsimp only [askV]; have HP6 := Lib.hid (keepA (.cells #[.int .i64 0, .float .f64 0, .string ⟨#[]⟩] 27) (keepB HP5.out hB6)); have HG6 := Lib.hid ((HG5.out.below hB6).below (bal (Below.refl _ w6) (.cells #[.int .i64 0, .float .f64 0, .string ⟨#[]⟩] 27))); have HI6 := Lib.hid ((HI5.out.below hB6).below (bal (Below.refl _ w6) (.cells #[.int .i64 0, .float .f64 0, .string ⟨#[]⟩] 27))); have HC6 := Lib.hid (bal (blw HC5.out hB6) (.cells #[.int .i64 0, .float .f64 0, .string ⟨#[]⟩] 27)); clear hB6 h5 HC5 HI5 HG5 HP5)
            | (have h4 := HC4.out; refine (pat_any 18442240474082181120 _ _ L2 _ HI4.out (by decide)).mono ?_; rintro e w5 ⟨rfl, hB5⟩; rw [a2minf]; dsimp only [askV]; have HP5 := Lib.hid (keepA (.cells #[.int .i64 0, .float .f64 0, .string ⟨#[]⟩] 27) (keepB HP4.out hB5)); have HG5 := Lib.hid ((HG4.out.below hB5).below (bal (Below.refl _ w5) (.cells #[.int .i64 0, .float .f64 0, .string ⟨#[]⟩] 27))); have HI5 := Lib.hid ((HI4.out.below hB5).below (bal (Below.refl _ w5) (.cells #[.int .i64 0, .float .f64 0, .string ⟨#[]⟩] 27))); have HC5 := Lib.hid (bal (blw HC4.out hB5) (.cells #[.int .i64 0, .float .f64 0, .string ⟨#[]⟩] 27)); clear hB5 h4 HC4 HI4 HG4 HP4)
            | (have h3 := HC3.out; refine (pat_any 4602678819172646912 _ _ L2 _ HI3.out (by decide)).mono ?_; rintro e w4 ⟨rfl, hB4⟩; rw [a2half]; dsimp only [askV]; have HP4 := Lib.hid (keepA (.cells #[.int .i64 0, .float .f64 0, .string ⟨#[]⟩] 27) (keepB HP3.out hB4)); have HG4 := Lib.hid ((HG3.out.below hB4).below (bal (Below.refl _ w4) (.cells #[.int .i64 0, .float .f64 0, .string ⟨#[]⟩] 27))); have HI4 := Lib.hid ((HI3.out.below hB4).below (bal (Below.refl _ w4) (.cells #[.int .i64 0, .float .f64 0, .string ⟨#[]⟩] 27))); have HC4 := Lib.hid (bal (blw HC3.out hB4) (.cells #[.int .i64 0, .float .f64 0, .string ⟨#[]⟩] 27)); clear hB4 h3 HC3 HI3 HG3 HP3)
            | (have h2 := HC2.out; refine (pat_any 9221120237041090561 _ _ L2 _ HI2.out (by decide)).mono ?_; rintro e w3 ⟨rfl, hB3⟩; rw [a2nan]; dsimp only [askV]; have HP3 := Lib.hid (keepA (.cells #[.int .i64 0, .float .f64 0, .string ⟨#[]⟩] 27) (keepB HP2.out hB3)); have HG3 := Lib.hid ((HG2.out.below hB3).below (bal (Below.refl _ w3) (.cells #[.int .i64 0, .float .f64 0, .string ⟨#[]⟩] 27))); have HI3 := Lib.hid ((HI2.out.below hB3).below (bal (Below.refl _ w3) (.cells #[.int .i64 0, .float .f64 0, .string ⟨#[]⟩] 27))); have HC3 := Lib.hid (bal (blw HC2.out hB3) (.cells #[.int .i64 0, .float .f64 0, .string ⟨#[]⟩] 27)); clear hB3 h2 HC2 HI2 HG2 HP2)
            | (rw [← HW.out]; refine (pat_any 9218868437227405312 _ _ L2 _ HI0.out (by decide)).mono ?_; rintro e w2 ⟨rfl, hB2⟩; rw [a2inf]; dsimp only [askV]; have HP2 := Lib.hid (World.alloc_heap_new w2 (.cells #[.int .i64 9, .float .f64 4616189618054758400, .string ⟨#[109]⟩] 27)); have HG2 := Lib.hid ((HGW.out.below hB2).below (bal (Below.refl _ w2) (.cells #[.int .i64 9, .float .f64 4616189618054758400, .string ⟨#[109]⟩] 27))); have HI2 := Lib.hid ((HI0.out.below hB2).below (bal (Below.refl _ w2) (.cells #[.int .i64 9, .float .f64 4616189618054758400, .string ⟨#[109]⟩] 27))); have HC2 := Lib.hid (bal (blw HCW.out hB2) (.cells #[.int .i64 9, .float .f64 4616189618054758400, .string ⟨#[109]⟩] 27)); clear hB2 HW))
        | (go_at_call 29; first
            | (have h7 := HC7.out; refine (pmark_any ⟨#[113]⟩ _ _ L2 _ HI7.out (by decide)).mono ?_; rintro e w8 ⟨rfl, hB8⟩; rw [m2q]; dsimp only [askV]; have HP8 := Lib.hid (keepA (.cells #[.int .i64 0, .float .f64 0, .string ⟨#[]⟩] 27) (keepB HP7.out hB8)); have HG8 := Lib.hid ((HG7.out.below hB8).below (bal (Below.refl _ w8) (.cells #[.int .i64 0, .float .f64 0, .string ⟨#[]⟩] 27))); have HI8 := Lib.hid ((HI7.out.below hB8).below (bal (Below.refl _ w8) (.cells #[.int .i64 0, .float .f64 0, .string ⟨#[]⟩] 27))); have HC8 := Lib.hid (bal (blw HC7.out hB8) (.cells #[.int .i64 0, .float .f64 0, .string ⟨#[]⟩] 27)); clear hB8 h7
               obtain ⟨p0, p1, p2, _⟩ := three_cells HP8.out; have x8 := HG8.out.cell 8 (by decide); unfold osl at x8; have l8 := HG8.out.lt)
            | (refine (pmark_any ⟨#[]⟩ _ _ L2 _ HI6.out (by decide)).mono ?_; rintro e w7 ⟨rfl, hB7⟩; rw [m2e]; dsimp only [askV]; have HP7 := Lib.hid (keepA (.cells #[.int .i64 0, .float .f64 0, .string ⟨#[]⟩] 27) (keepB HP6.out hB7)); have HG7 := Lib.hid ((HG6.out.below hB7).below (bal (Below.refl _ w7) (.cells #[.int .i64 0, .float .f64 0, .string ⟨#[]⟩] 27))); have HI7 := Lib.hid ((HI6.out.below hB7).below (bal (Below.refl _ w7) (.cells #[.int .i64 0, .float .f64 0, .string ⟨#[]⟩] 27))); have HC7 := Lib.hid (bal (blw HC6.out hB7) (.cells #[.int .i64 0, .float .f64 0, .string ⟨#[]⟩] 27)); clear hB7))
        | (go_at_call 21; first
            | (have h9 := HC9.out; refine (psame_any none 0 [] none 0 [] _ (sl_nil _ _ _) (sl_nil _ _ _) (by decide) (by decide)).mono ?_; rintro e wa ⟨rfl, hBa⟩; rw [same_self mayB_nil])
            | (refine (psame_any _ _ L2 _ _ (pbad 8) _ HI8.out (HG8.out.sl 8 (by decide)) (by decide) (pbad_len 8 (by decide))).mono ?_; rintro e w9 ⟨rfl, hB9⟩; rw [same2]; have HC9 := Lib.hid (blw HC8.out hB9); clear hB9)))
      go_ret
      exact ⟨rfl, blw HC9.out hBa⟩
end Go.Proofs.Ytddnhjpclglclaa
