/- Policies by hand: NaN, infinities, -0, grains that are none: the walk of treeringlaw19.TierKnown. -/
import Derived.Test.YtddnhjpclglclaaPTKeeps
import Derived.Deep.LoopGhost
namespace Go.Proofs.Ytddnhjpclglclaa
open Go.RowKit Fl
set_option linter.unusedVariables false
theorem mk9 (w : World) : (Instr.makeSlice 54 (.int .i64 9) (.int .i64 9)).run Try.prog w = .ok (.slice (some ⟨w.heap.size, 0, none⟩) 9 9) (w.alloc (.cells #[.float .f64 0, .float .f64 0, .float .f64 0, .float .f64 0, .float .f64 0, .float .f64 0, .float .f64 0, .float .f64 0, .float .f64 0, .float .f64 0, .float .f64 0, .float .f64 0, .float .f64 0, .float .f64 0, .float .f64 0, .float .f64 0, .float .f64 0, .float .f64 0] 63)) := by kernel_rfl
def tgood : Nat → List Tr
  | 0 => []
  | 1 => [⟨0, 4607182418800017408⟩]
  | 2 => [⟨9223372036854775808, 9218868437227405312⟩]
  | 3 => [⟨4607182418800017408, 4607182418800017408⟩, ⟨9218868437227405312, 4607182418800017408⟩]
  | _ => [⟨0, 1⟩]
def tbad : Nat → List Tr
  | 0 => [⟨0, 0⟩]
  | 1 => [⟨0, 13830554455654793216⟩]
  | 2 => [⟨0, 9221120237041090561⟩]
  | 3 => [⟨9221120237041090561, 4607182418800017408⟩]
  | 4 => [⟨13830554455654793216, 4607182418800017408⟩]
  | 5 => [⟨4607182418800017408, 4607182418800017408⟩, ⟨4607182418800017408, 4607182418800017408⟩]
  | 6 => [⟨4611686018427387904, 4607182418800017408⟩, ⟨4607182418800017408, 4607182418800017408⟩]
  | 7 => [⟨0, 9223372036854775808⟩]
  | 8 => [⟨9218868437227405312, 4607182418800017408⟩, ⟨9218868437227405312, 4607182418800017408⟩]
  | 9 => [⟨9223372036854775808, 4607182418800017408⟩, ⟨0, 4607182418800017408⟩]
  | _ => [⟨0, 0⟩, ⟨0, 0⟩, ⟨0, 0⟩, ⟨0, 0⟩, ⟨0, 0⟩, ⟨0, 0⟩, ⟨0, 0⟩, ⟨0, 0⟩, ⟨0, 0⟩]
theorem tgood_pol : ∀ k, k < 5 → PolP (tgood k) := by
  intro k hk
  match k, hk with
  | 0, _ => exact (by decide +kernel)
  | 1, _ => exact (by decide +kernel)
  | 2, _ => exact (by decide +kernel)
  | 3, _ => exact (by decide +kernel)
  | 4, _ => exact (by decide +kernel)
theorem tbad_pol : ∀ k, k < 11 → polB (tbad k) = false := by
  intro k hk
  match k, hk with
  | 0, _ => exact polB_false.2 (by decide +kernel)
  | 1, _ => exact polB_false.2 (by decide +kernel)
  | 2, _ => exact polB_false.2 (by decide +kernel)
  | 3, _ => exact polB_false.2 (by decide +kernel)
  | 4, _ => exact polB_false.2 (by decide +kernel)
  | 5, _ => exact polB_false.2 (by decide +kernel)
  | 6, _ => exact polB_false.2 (by decide +kernel)
  | 7, _ => exact polB_false.2 (by decide +kernel)
  | 8, _ => exact polB_false.2 (by decide +kernel)
  | 9, _ => exact polB_false.2 (by decide +kernel)
  | 10, _ => exact polB_false.2 (by decide +kernel)
theorem tgood_len : ∀ k, k < 5 → (tgood k).length < 9223372036854775807 := by
  intro k hk
  match k, hk with
  | 0, _ => exact (by decide)
  | 1, _ => exact (by decide)
  | 2, _ => exact (by decide)
  | 3, _ => exact (by decide)
  | 4, _ => exact (by decide)
theorem tbad_len : ∀ k, k < 11 → (tbad k).length < 9223372036854775807 := by
  intro k hk
  match k, hk with
  | 0, _ => exact (by decide)
  | 1, _ => exact (by decide)
  | 2, _ => exact (by decide)
  | 3, _ => exact (by decide)
  | 4, _ => exact (by decide)
  | 5, _ => exact (by decide)
  | 6, _ => exact (by decide)
  | 7, _ => exact (by decide)
  | 8, _ => exact (by decide)
  | 9, _ => exact (by decide)
  | 10, _ => exact (by decide)
theorem tgood_fit : ∀ k, k < 5 → ∀ j, j < (tgood k).length → ((tgood k).getD j default).age < 18446744073709551616 ∧ ((tgood k).getD j default).grain < 18446744073709551616 := by
  intro k hk
  match k, hk with
  | 0, _ => exact (by decide +kernel)
  | 1, _ => exact (by decide +kernel)
  | 2, _ => exact (by decide +kernel)
  | 3, _ => exact (by decide +kernel)
  | 4, _ => exact (by decide +kernel)
theorem tbad_fit : ∀ k, k < 11 → ∀ j, j < (tbad k).length → ((tbad k).getD j default).age < 18446744073709551616 ∧ ((tbad k).getD j default).grain < 18446744073709551616 := by
  intro k hk
  match k, hk with
  | 0, _ => exact (by decide +kernel)
  | 1, _ => exact (by decide +kernel)
  | 2, _ => exact (by decide +kernel)
  | 3, _ => exact (by decide +kernel)
  | 4, _ => exact (by decide +kernel)
  | 5, _ => exact (by decide +kernel)
  | 6, _ => exact (by decide +kernel)
  | 7, _ => exact (by decide +kernel)
  | 8, _ => exact (by decide +kernel)
  | 9, _ => exact (by decide +kernel)
  | 10, _ => exact (by decide +kernel)
def P5 : List Pt := [⟨1, 4607182418800017408, ⟨#[]⟩⟩, ⟨2, 4613937818241073152, ⟨#[109]⟩⟩, ⟨3, 4616189618054758400, ⟨#[]⟩⟩, ⟨4, 4621256167635550208, ⟨#[]⟩⟩, ⟨5, 4621537642612260864, ⟨#[]⟩⟩]
theorem may5 : MayP P5 := by decide +kernel
theorem fit5 : ∀ j, j < P5.length → PFit (P5.getD j default) := by decide +kernel
def gsl (B k : Nat) : Value := .slice (match k with | 0 => none | j + 1 => some ⟨B + j, 0, none⟩) (tgood k).length (tgood k).length
def bsl (B k : Nat) : Value := .slice (some ⟨B + 5 + k, 0, none⟩) (tbad k).length (tbad k).length
def kobj (B : Nat) : Nat → Obj
  | 0 => .cells (cellsT (tgood 1)).toArray 63
  | 1 => .cells (cellsT (tgood 2)).toArray 63
  | 2 => .cells (cellsT (tgood 3)).toArray 63
  | 3 => .cells (cellsT (tgood 4)).toArray 63
  | 4 => .cells #[gsl B 0, gsl B 1, gsl B 2, gsl B 3, gsl B 4] 54
  | 5 => .cells (cellsT (tbad 0)).toArray 63
  | 6 => .cells (cellsT (tbad 1)).toArray 63
  | 7 => .cells (cellsT (tbad 2)).toArray 63
  | 8 => .cells (cellsT (tbad 3)).toArray 63
  | 9 => .cells (cellsT (tbad 4)).toArray 63
  | 10 => .cells (cellsT (tbad 5)).toArray 63
  | 11 => .cells (cellsT (tbad 6)).toArray 63
  | 12 => .cells (cellsT (tbad 7)).toArray 63
  | 13 => .cells (cellsT (tbad 8)).toArray 63
  | 14 => .cells (cellsT (tbad 9)).toArray 63
  | 15 => .cells (cellsT (tbad 10)).toArray 63
  | 16 => .cells #[bsl B 0, bsl B 1, bsl B 2, bsl B 3, bsl B 4, bsl B 5, bsl B 6, bsl B 7, bsl B 8, bsl B 9, bsl B 10] 54
  | _ => .cells (cellsP P5).toArray 27
def kw (w : World) : Nat → World
  | 0 => w
  | k + 1 => (kw w k).alloc (kobj w.heap.size k)
theorem kobj17 (B : Nat) : kobj B 17 = .cells (cellsP P5).toArray 27 := rfl
theorem kw_size (w : World) : ∀ k, (kw w k).heap.size = w.heap.size + k
  | 0 => rfl
  | k + 1 => by show ((kw w k).alloc _).heap.size = _; simp [kw_size w k]; omega
theorem kw_below (w : World) (k : Nat) : ∀ m, Below (kw w k).heap.size (kw w k) (kw w (k + m))
  | 0 => Below.refl _ _
  | m + 1 => bal (kw_below w k m) _
theorem kw_good (w : World) {j : Nat} (hj : j < 4) : SlT (kw w (j + 1)) (.slice (some ⟨w.heap.size + j, 0, none⟩) (tgood (j + 1)).length (tgood (j + 1)).length) (tgood (j + 1)) := by
  rw [← kw_size w j]
  match j, hj with
  | 0, _ => exact slt_new (kw w 0) (cellsT (tgood 1)).toArray 63 (tgood 1) (by simp) (tgood_fit 1 (by decide)) _
  | 1, _ => exact slt_new (kw w 1) (cellsT (tgood 2)).toArray 63 (tgood 2) (by simp) (tgood_fit 2 (by decide)) _
  | 2, _ => exact slt_new (kw w 2) (cellsT (tgood 3)).toArray 63 (tgood 3) (by simp) (tgood_fit 3 (by decide)) _
  | 3, _ => exact slt_new (kw w 3) (cellsT (tgood 4)).toArray 63 (tgood 4) (by simp) (tgood_fit 4 (by decide)) _
theorem kw_bad (w : World) {j : Nat} (hj : j < 11) : SlT (kw w (5 + j + 1)) (bsl w.heap.size j) (tbad j) := by
  unfold bsl
  rw [show w.heap.size + 5 + j = (kw w (5 + j)).heap.size by rw [kw_size]; omega]
  match j, hj with
  | 0, _ => exact slt_new (kw w 5) (cellsT (tbad 0)).toArray 63 (tbad 0) (by simp) (tbad_fit 0 (by decide)) _
  | 1, _ => exact slt_new (kw w 6) (cellsT (tbad 1)).toArray 63 (tbad 1) (by simp) (tbad_fit 1 (by decide)) _
  | 2, _ => exact slt_new (kw w 7) (cellsT (tbad 2)).toArray 63 (tbad 2) (by simp) (tbad_fit 2 (by decide)) _
  | 3, _ => exact slt_new (kw w 8) (cellsT (tbad 3)).toArray 63 (tbad 3) (by simp) (tbad_fit 3 (by decide)) _
  | 4, _ => exact slt_new (kw w 9) (cellsT (tbad 4)).toArray 63 (tbad 4) (by simp) (tbad_fit 4 (by decide)) _
  | 5, _ => exact slt_new (kw w 10) (cellsT (tbad 5)).toArray 63 (tbad 5) (by simp) (tbad_fit 5 (by decide)) _
  | 6, _ => exact slt_new (kw w 11) (cellsT (tbad 6)).toArray 63 (tbad 6) (by simp) (tbad_fit 6 (by decide)) _
  | 7, _ => exact slt_new (kw w 12) (cellsT (tbad 7)).toArray 63 (tbad 7) (by simp) (tbad_fit 7 (by decide)) _
  | 8, _ => exact slt_new (kw w 13) (cellsT (tbad 8)).toArray 63 (tbad 8) (by simp) (tbad_fit 8 (by decide)) _
  | 9, _ => exact slt_new (kw w 14) (cellsT (tbad 9)).toArray 63 (tbad 9) (by simp) (tbad_fit 9 (by decide)) _
  | 10, _ => exact slt_new (kw w 15) (cellsT (tbad 10)).toArray 63 (tbad 10) (by simp) (tbad_fit 10 (by decide)) _
theorem kw18 (w : World) (v : Value) (L : List Pt) (h : SlP ((kw w 17).alloc (.cells (cellsP P5).toArray 27)) v L) : SlP (kw w 18) v L := by
  have e : kw w (17 + 1) = (kw w 17).alloc (kobj w.heap.size 17) := by rw [kw]
  rw [show (18 : Nat) = 17 + 1 from rfl, e, kobj17]
  exact h
theorem bsl_at (B : Nat) : ∀ k, k < 11 → (#[bsl B 0, bsl B 1, bsl B 2, bsl B 3, bsl B 4, bsl B 5, bsl B 6, bsl B 7, bsl B 8, bsl B 9, bsl B 10] : Array Value)[k]? = some (bsl B k) := by
  intro k hk
  match k, hk with
  | 0, _ => rfl
  | 1, _ => rfl
  | 2, _ => rfl
  | 3, _ => rfl
  | 4, _ => rfl
  | 5, _ => rfl
  | 6, _ => rfl
  | 7, _ => rfl
  | 8, _ => rfl
  | 9, _ => rfl
  | 10, _ => rfl
structure GK (B bg bb bp : Nat) (W : World) : Prop where
  g : ∀ k, k < 5 → W.cell? ⟨bg, k, none⟩ = some (gsl B k)
  gs : ∀ k, k < 5 → SlT W (gsl B k) (tgood k)
  b : ∀ k, k < 11 → W.cell? ⟨bb, k, none⟩ = some (bsl B k)
  bs : ∀ k, k < 11 → SlT W (bsl B k) (tbad k)
  p : SlP W (.slice (some ⟨bp, 0, none⟩) 5 5) P5
  lg : bg < W.heap.size
  lb : bb < W.heap.size
theorem GK.below {B bg bb bp : Nat} {W W' : World} (h : GK B bg bb bp W) (hb : Below W.heap.size W W') : GK B bg bb bp W' :=
  ⟨fun k hk => (hb.cell (p := ⟨bg, k, none⟩) h.lg).trans (h.g k hk), fun k hk => (h.gs k hk).below hb, fun k hk => (hb.cell (p := ⟨bb, k, none⟩) h.lb).trans (h.b k hk), fun k hk => (h.bs k hk).below hb, h.p.below hb, Nat.lt_of_lt_of_le h.lg hb.size, Nat.lt_of_lt_of_le h.lb hb.size⟩
theorem kw_to (w : World) {k : Nat} (hk : k ≤ 18) : Below (kw w k).heap.size (kw w k) (kw w 18) := by
  have := kw_below w k (18 - k)
  rwa [show k + (18 - k) = 18 by omega] at this
theorem GK_new (w : World) : GK w.heap.size (w.heap.size + 4) (w.heap.size + 16) (w.heap.size + 17) (kw w 18) := by
  refine ⟨fun k hk => ?_, fun k hk => ?_, fun k hk => ?_, fun k hk => (kw_bad w hk).below (kw_to w (by omega)), ?_, by rw [kw_size]; omega, by rw [kw_size]; omega⟩
  · refine ((kw_to w (k := 5) (by omega)).cell (p := ⟨w.heap.size + 4, k, none⟩) (by rw [kw_size]; show w.heap.size + 4 < _; omega)).trans ?_
    have : (kw w 5).cell? ⟨(kw w 4).heap.size, k, none⟩ = #[gsl w.heap.size 0, gsl w.heap.size 1, gsl w.heap.size 2, gsl w.heap.size 3, gsl w.heap.size 4][k]? := cell_new (kw w 4) _ _ _
    rw [kw_size] at this
    rw [this]
    match k, hk with
    | 0, _ => rfl
    | 1, _ => rfl
    | 2, _ => rfl
    | 3, _ => rfl
    | 4, _ => rfl
  · match k, hk with
    | 0, _ => exact slt_nil _ _ _
    | j + 1, hk => exact (kw_good w (by omega)).below (kw_to w (by omega))
  · refine ((kw_to w (k := 17) (by omega)).cell (p := ⟨w.heap.size + 16, k, none⟩) (by rw [kw_size]; show w.heap.size + 16 < _; omega)).trans ?_
    have : (kw w 17).cell? ⟨(kw w 16).heap.size, k, none⟩ = #[bsl w.heap.size 0, bsl w.heap.size 1, bsl w.heap.size 2, bsl w.heap.size 3, bsl w.heap.size 4, bsl w.heap.size 5, bsl w.heap.size 6, bsl w.heap.size 7, bsl w.heap.size 8, bsl w.heap.size 9, bsl w.heap.size 10][k]? := cell_new (kw w 16) _ _ _
    rw [kw_size] at this
    rw [this]
    exact bsl_at _ k hk
  · have := sl_new (kw w 17) (cellsP P5).toArray 27 P5 (by simp) fit5 5
    rw [kw_size, show P5.length = 5 from rfl] at this
    exact kw18 w _ _ this
theorem GK_below (w : World) : Below w.heap.size w (kw w 18) := kw_below w 0 18
theorem ten_T : T 4621819117588971520 := .inl (by decide)
theorem kr_good (k : Nat) (hk : k < 5) : (keepR (tgood k) 4621819117588971520 P5).2 = 0 := by
  unfold keepR
  rw [polB_true.2 (tgood_pol k hk), tmay_iff.2 ten_T, mayB_true.2 may5]; rfl
theorem kr_bad (k : Nat) (hk : k < 11) (now : Nat) : keepR (tbad k) now P5 = ([], 16) := by
  unfold keepR
  rw [tbad_pol k hk]; rfl
theorem kr_all : keepR [] 4621819117588971520 P5 = (P5, 0) := keepR_ok (by decide +kernel) ten_T may5 (by kernel_rfl)
def Kone : List Pt := [⟨2, 4613937818241073152, ⟨#[109]⟩⟩, ⟨5, 4621537642612260864, ⟨#[]⟩⟩]
def Ksome : List Pt := [⟨2, 4613937818241073152, ⟨#[109]⟩⟩, ⟨3, 4616189618054758400, ⟨#[]⟩⟩, ⟨4, 4621256167635550208, ⟨#[]⟩⟩, ⟨5, 4621537642612260864, ⟨#[]⟩⟩]
theorem kr_one : keepR [⟨0, 9218868437227405312⟩] 4621819117588971520 P5 = (Kone, 0) := keepR_ok (by decide +kernel) ten_T may5 (by kernel_rfl)
theorem kr_some : keepR [⟨4611686018427387904, 4617315517961601024⟩] 4621819117588971520 P5 = (Ksome, 0) := keepR_ok (by decide +kernel) ten_T may5 (by kernel_rfl)
theorem kr_now (now : Nat) (h : ¬ T now) : keepR [] now P5 = ([], 1) := by
  unfold keepR
  rw [pol0, tmay_false.2 h]; rfl
theorem kr_pt : keepR [] 4621819117588971520 [⟨0, 0, ⟨#[]⟩⟩] = ([], 1) := by
  unfold keepR
  rw [pol0, tmay_iff.2 ten_T, mayB_false.2 (by decide +kernel)]; rfl
set_option maxRecDepth 100000 in
set_option maxHeartbeats 4000000 in
theorem tierKnown_walk (w : World) :
    Calls Try.prog 17 #[] w fun e w' => e = .returned (.bool true) ∧ Below w.heap.size w w' := by
  have hmk := mk9
  go_enter Try.func17, Try.ntmps17
  go_wp2_with (first
    | (go_at_call 38; refine (awake19 _).mono ?_; rintro e w1 ⟨rfl, hB1⟩)
    | (go_at_call 32; refine (nan_any _).mono ?_; rintro e w' ⟨rfl, rfl⟩)
    | (go_at_call 33; refine (inf_any _).mono ?_; rintro e w' ⟨rfl, rfl⟩) | (go_at_call 34; refine (minus_any _).mono ?_; rintro e w' ⟨rfl, rfl⟩))
  clear hmk
  have HG : Hid (GK w1.heap.size (w1.heap.size + 1 + 1 + 1 + 1) (w1.heap.size + 1 + 1 + 1 + 1 + 1 + 1 + 1 + 1 + 1 + 1 + 1 + 1 + 1 + 1 + 1 + 1) (w1.heap.size + 1 + 1 + 1 + 1 + 1 + 1 + 1 + 1 + 1 + 1 + 1 + 1 + 1 + 1 + 1 + 1 + 1) (kw w1 18)) := Lib.hid (GK_new w1)
  have HC := Lib.hid (blw hB1 (GK_below w1))
  go_loopw [7] (fun i wr => ∃ k : Nat, k ≤ 5 ∧ i = .int .i64 (k : Int) ∧ Hid (GK w1.heap.size (w1.heap.size + 1 + 1 + 1 + 1) (w1.heap.size + 1 + 1 + 1 + 1 + 1 + 1 + 1 + 1 + 1 + 1 + 1 + 1 + 1 + 1 + 1 + 1) (w1.heap.size + 1 + 1 + 1 + 1 + 1 + 1 + 1 + 1 + 1 + 1 + 1 + 1 + 1 + 1 + 1 + 1 + 1) wr) ∧ Hid (Below w.heap.size w wr)) (fun i _ => 5 - (intOf i).toNat)
  case atStart => exact ⟨0, by omega, rfl, HG, HC⟩
  case round =>
    obtain ⟨k, hk, rfl, HG0, HC0⟩ := hrel
    clear HG HC
    by_cases hlt : k < 5
    · have hkl : (k : Int) < 5 := by omega
      have v2 : IntKind.i64.wrap ((k : Int) + 1) = (k : Int) + 1 := IntWalk.i64_in _ (by omega)
      obtain ⟨ga, hga⟩ : ∃ ga, gsl w1.heap.size k = .slice ga (tgood k).length (tgood k).length := ⟨_, rfl⟩
      have HGA := Lib.hid hga
      have x0 := HG0.out.g k hlt
      rw [hga] at x0
      have HS0 := Lib.hid (hga ▸ HG0.out.gs k hlt)
      have l0 := HG0.out.lg
      clear hga
      go_wp2_with (first
        | (go_at_call 39; refine (keep_any _ _ (tgood k) 4621819117588971520 _ 5 P5 _ HS0.out HG0.out.p (by decide) (tgood_len k hlt) (by decide) (by decide)).mono ?_; rw [kr_good k hlt]; rintro e w2 ⟨v, rfl, hS, ⟨va, vc, rfl, hle⟩, hB2⟩; have HG2 := Lib.hid (HG0.out.below hB2); have HC2 := Lib.hid (blw HC0.out hB2); clear hS hle hB2; have x2 := HG2.out.g k hlt; rw [HGA.out] at x2; have l2 := HG2.out.lg)
        | (go_at_call 42; refine (tiermay_any _ _ (tgood k) _ (HGA.out ▸ HG2.out.gs k hlt) (tgood_len k hlt)).mono ?_; rintro e w3 ⟨rfl, hB3⟩; rw [polB_true.2 (tgood_pol k hlt)]; have HG3 := Lib.hid (HG2.out.below hB3); have HC3 := Lib.hid (blw HC2.out hB3); clear hB3))
      exact ⟨⟨k + 1, by omega, by go_num, HG3, HC3⟩, by simp [intOf]; omega⟩
    · have hlt' : decide ((k : Int) < 5) = false := decide_eq_false (by omega)
      go_wp2
      go_loopg [10] 11 (fun g i wr => ∃ k : Nat, k + g = 11 ∧ i = .int .i64 (k : Int) ∧ Hid (GK w1.heap.size (w1.heap.size + 1 + 1 + 1 + 1) (w1.heap.size + 1 + 1 + 1 + 1 + 1 + 1 + 1 + 1 + 1 + 1 + 1 + 1 + 1 + 1 + 1 + 1) (w1.heap.size + 1 + 1 + 1 + 1 + 1 + 1 + 1 + 1 + 1 + 1 + 1 + 1 + 1 + 1 + 1 + 1 + 1) wr) ∧ Hid (Below w.heap.size w wr))
      case atStart => exact ⟨0, by omega, rfl, HG0, HC0⟩
      case round =>
        clear HG0 HC0 hlt' hlt hk
        obtain ⟨k, hk, rfl, HG0, HC0⟩ := hrel
        by_cases hlt : k < 11
        · have hkl : (k : Int) < 11 := by omega
          have v2 : IntKind.i64.wrap ((k : Int) + 1) = (k : Int) + 1 := IntWalk.i64_in _ (by omega)
          have x0 := HG0.out.b k hlt
          unfold bsl at x0
          have l0 := HG0.out.lb
          go_wp2_with (first
            | (go_at_call 39; refine (keep_any _ _ (tbad k) 9221120237041090561 _ 5 P5 _ (HG0.out.bs k hlt) HG0.out.p (by decide) (tbad_len k hlt) (by decide) (by decide)).mono ?_; rw [kr_bad k hlt]; rintro e w2 ⟨v, rfl, hS, ⟨va, vc, rfl, hle⟩, hB2⟩; have HG2 := Lib.hid (HG0.out.below hB2); have HC2 := Lib.hid (blw HC0.out hB2); clear hS hle hB2; have x2 := HG2.out.b k hlt; unfold bsl at x2; have l2 := HG2.out.lb)
            | (go_at_call 42; refine (tiermay_any _ _ (tbad k) _ (HG2.out.bs k hlt) (tbad_len k hlt)).mono ?_; rintro e w3 ⟨rfl, hB3⟩; rw [tbad_pol k hlt]; have HG3 := Lib.hid (HG2.out.below hB3); have HC3 := Lib.hid (blw HC2.out hB3); clear hB3))
          go_roundg (11 - (k + 1))
          case measure => omega
          case rel => exact ⟨k + 1, by omega, by first | rfl | go_num, HG3, HC3⟩
        · have hlt' : decide ((k : Int) < 11) = false := decide_eq_false (by omega)
          obtain rfl : k = 11 := by omega
          have HP := Lib.hid HG0.out.p
          go_wp2_with (go_at_call 39; first
              | (have h6 := hC6.out; refine (keep_any none 0 [] 4621819117588971520 _ 1 [⟨0, 0, ⟨#[]⟩⟩] _ (slt_nil _ _ _) (sl_new w6 #[.int .i64 0, .float .f64 0, .string ⟨#[]⟩] 27 [⟨0, 0, ⟨#[]⟩⟩] rfl (by decide +kernel) 1) (by decide) (by decide) (by decide) (by decide)).mono ?_; rw [kr_pt]; rintro e w7 ⟨v, rfl, hS, ⟨va7, vc7, rfl, hle⟩, hB7⟩; have hC7 := Lib.hid (blw (bal h6 (.cells #[.int .i64 0, .float .f64 0, .string ⟨#[]⟩] 27)) hB7)
                 have hO := (HO6.out.below (bal (Below.refl _ w6) (.cells #[.int .i64 0, .float .f64 0, .string ⟨#[]⟩] 27))).below hB7; have hM := (HM6.out.below (bal (Below.refl _ w6) (.cells #[.int .i64 0, .float .f64 0, .string ⟨#[]⟩] 27))).below hB7
                 obtain ⟨ob, oo, rfl, hro⟩ : ∃ b off, oa = some ⟨b, off, none⟩ ∧ RdP w7 b off Kone := by
                   rcases hO with ⟨a', cap', e, h0⟩ | ⟨b, off, cap', e, hr⟩
                   · cases h0
                   · exact ⟨b, off, (Value.slice.inj e).1, hr⟩
                 obtain ⟨mb, mo, rfl, hrm⟩ : ∃ b off, ma = some ⟨b, off, none⟩ ∧ RdP w7 b off Ksome := by
                   rcases hM with ⟨a', cap', e, h0⟩ | ⟨b, off, cap', e, hr⟩
                   · cases h0
                   · exact ⟨b, off, (Value.slice.inj e).1, hr⟩
                 obtain ⟨o0, _, _⟩ := pcs hro (k := 0) (by decide) rfl
                 obtain ⟨o1, _, _⟩ := pcs hro (k := 1) (by decide) rfl
                 obtain ⟨m0, _, _⟩ := pcs hrm (k := 0) (by decide) rfl
                 obtain ⟨m1, _, _⟩ := pcs hrm (k := 1) (by decide) rfl
                 simp only [Nat.zero_mul, Nat.add_zero, Nat.one_mul] at o0 o1 m0 m1
                 have ol := hro.lt; have ml := hrm.lt
                 clear hS hle hB7 h6 hO hM hro hrm)
              | (have h5 := hC5.out; refine (keep_any none 0 [] 9218868437227405312 _ 5 P5 _ (slt_nil _ _ _) HP5.out (by decide) (by decide) (by decide) (by decide)).mono ?_; rw [kr_now 9218868437227405312 (by unfold T; decide)]; rintro e w6 ⟨v, rfl, hS, ⟨va6, vc6, rfl, hle⟩, hB6⟩; have HP6 := Lib.hid (HP5.out.below hB6); have HO6 := Lib.hid (HO5.out.below hB6); have HM6 := Lib.hid (HM5.out.below hB6); have hC6 := Lib.hid (blw hC5.out hB6); clear hS hle hB6 h5)
              | (have h4 := hC4.out; refine (keep_any none 0 [] 9221120237041090561 _ 5 P5 _ (slt_nil _ _ _) HP4.out (by decide) (by decide) (by decide) (by decide)).mono ?_; rw [kr_now 9221120237041090561 (by unfold T; decide)]; rintro e w5 ⟨v, rfl, hS, ⟨va5, vc5, rfl, hle⟩, hB5⟩; have HP5 := Lib.hid (HP4.out.below hB5); have HO5 := Lib.hid (HO4.out.below hB5); have HM5 := Lib.hid (HM4.out.below hB5); have hC5 := Lib.hid (blw hC4.out hB5); clear hS hle hB5 h4)
              | (have h3 := hC3.out; have h3b := bal (Below.refl _ w3) (.cells #[.float .f64 4611686018427387904, .float .f64 4617315517961601024] 63); refine (keep_any _ 1 [⟨4611686018427387904, 4617315517961601024⟩] 4621819117588971520 _ 5 P5 _ (slt_new w3 #[.float .f64 4611686018427387904, .float .f64 4617315517961601024] 63 [⟨4611686018427387904, 4617315517961601024⟩] rfl (by decide) 1) (HP3.out.below h3b) (by decide) (by decide) (by decide) (by decide)).mono ?_; rw [kr_some]; rintro e w4 ⟨v, rfl, hS, ⟨ma, mc, rfl, hle⟩, hB4⟩; rw [show Ksome.length = 4 from rfl]; have HM4 := Lib.hid hS; have HP4 := Lib.hid ((HP3.out.below h3b).below hB4); have HO4 := Lib.hid ((HO3.out.below h3b).below hB4); have hC4 := Lib.hid (blw (bal h3 (.cells #[.float .f64 4611686018427387904, .float .f64 4617315517961601024] 63)) hB4); clear hS hle hB4 h3 h3b)
              | (have h2 := hC2.out; have h2b := bal (Below.refl _ w2) (.cells #[.float .f64 0, .float .f64 9218868437227405312] 63); refine (keep_any _ 1 [⟨0, 9218868437227405312⟩] 4621819117588971520 _ 5 P5 _ (slt_new w2 #[.float .f64 0, .float .f64 9218868437227405312] 63 [⟨0, 9218868437227405312⟩] rfl (by decide) 1) (HP2.out.below h2b) (by decide) (by decide) (by decide) (by decide)).mono ?_; rw [kr_one]; rintro e w3 ⟨v, rfl, hS, ⟨oa, oc, rfl, hle⟩, hB3⟩; rw [show Kone.length = 2 from rfl]; have HO3 := Lib.hid hS; have HP3 := Lib.hid ((HP2.out.below h2b).below hB3); have hC3 := Lib.hid (blw (bal h2 (.cells #[.float .f64 0, .float .f64 9218868437227405312] 63)) hB3); clear hS hle hB3 h2 h2b)
              | (refine (keep_any none 0 [] 4621819117588971520 _ 5 P5 _ (slt_nil _ _ _) HP.out (by decide) (by decide) (by decide) (by decide)).mono ?_; rw [kr_all]; rintro e w2 ⟨v, rfl, hS, ⟨aa, ac, rfl, hle⟩, hB2⟩; rw [show P5.length = 5 from rfl]; have HP2 := Lib.hid (HP.out.below hB2); have hC2 := Lib.hid (blw HC0.out hB2); clear hS hle hB2))
          go_ret
          exact ⟨rfl, hC7.out⟩
end Go.Proofs.Ytddnhjpclglclaa
