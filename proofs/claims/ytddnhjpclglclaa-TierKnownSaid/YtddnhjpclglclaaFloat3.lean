/- Doubles as the walk meets them: comparisons as Bools, operations as runs. No program in sight. -/
import Derived.Test.YtddnhjpclglclaaFloat2
import Derived.Laws.FloatArith
namespace Go.Proofs.Ytddnhjpclglclaa.Fl
open Ieee

theorem fo_nn {a b : Nat} (ha : NN a) (hb : NN b) : FloatKind.f64.format.order a b = some (compare (key a) (key b)) := order_nn ha hb
theorem cmp_cases (a b : Nat) : (compare a b == .lt) = decide (a < b) ∧ (compare a b == .eq) = decide (a = b) ∧ (compare a b == .gt) = decide (b < a) := by
  rcases Nat.lt_trichotomy a b with h | h | h
  · rw [compare_of_lt h]; refine ⟨?_, ?_, ?_⟩ <;> simp <;> omega
  · rw [compare_of_eq h]; refine ⟨?_, ?_, ?_⟩ <;> simp <;> omega
  · rw [compare_of_gt h]; refine ⟨?_, ?_, ?_⟩ <;> simp <;> omega
theorem f_lss {a b : Nat} (ha : NN a) (hb : NN b) : (FloatKind.f64.format.order a b == some .lt) = decide (key a < key b) := by
  rw [fo_nn ha hb]; exact (cmp_cases _ _).1
theorem f_eql {a b : Nat} (ha : NN a) (hb : NN b) : (FloatKind.f64.format.order a b == some .eq) = decide (key a = key b) := by
  rw [fo_nn ha hb]; exact (cmp_cases _ _).2.1
theorem f_gtr {a b : Nat} (ha : NN a) (hb : NN b) : (FloatKind.f64.format.order a b == some .gt) = decide (key b < key a) := by
  rw [fo_nn ha hb]; exact (cmp_cases _ _).2.2
theorem f_neq {a b : Nat} (ha : NN a) (hb : NN b) : (FloatKind.f64.format.order a b != some .eq) = decide (key a ≠ key b) := by
  rw [bne, f_eql ha hb]; simp
theorem f_leq {a b : Nat} (ha : NN a) (hb : NN b) : (FloatKind.f64.format.order a b == some .lt || FloatKind.f64.format.order a b == some .eq) = decide (key a ≤ key b) := by
  rw [f_lss ha hb, f_eql ha hb, ← Bool.decide_or]; congr 1; simp; omega
theorem f_geq {a b : Nat} (ha : NN a) (hb : NN b) : (FloatKind.f64.format.order a b == some .gt || FloatKind.f64.format.order a b == some .eq) = decide (key b ≤ key a) := by
  rw [f_gtr ha hb, f_eql ha hb, ← Bool.decide_or]; congr 1; simp; omega
theorem nn_zero : NN 0 := .inl (by decide)
theorem T_zero : T 0 := .inl (by decide)
theorem key_zero : key 0 = 0 := rfl

/-- What is no number from nought on: neither '>=' nor '>' holds of it against any that is. -/
theorem f_geq_bad {a b : Nat} (ha : a < 18446744073709551616) (h : ¬ NN a) (hb : NN b) : (FloatKind.f64.format.order a b == some .gt || FloatKind.f64.format.order a b == some .eq) = false := by
  have := not_nn_any ha h hb
  simp only [Bool.or_eq_false_iff, beq_eq_false_iff_ne]
  exact this
theorem f_gtr_bad {a b : Nat} (ha : a < 18446744073709551616) (h : ¬ NN a) (hb : NN b) : (FloatKind.f64.format.order a b == some .gt) = false := by
  have := not_nn_any ha h hb
  simp only [beq_eq_false_iff_ne]
  exact this.1

theorem max_nn : NN 9218868437227405311 := .inl (by decide)
theorem max_key : key 9218868437227405311 = 9218868437227405311 := rfl
theorem T_iff {a : Nat} : T a ↔ NN a ∧ key a ≤ 9218868437227405311 := by
  constructor
  · intro h; have := key_lt h; exact ⟨h.nn, by omega⟩
  · rintro ⟨h, k⟩; exact nn_T h (by omega)
/-- 'a >= 0' and not beyond the greatest number: a time. -/
theorem f_may {a : Nat} (ha : a < 18446744073709551616) : (FloatKind.f64.format.order a 0 == some .gt || FloatKind.f64.format.order a 0 == some .eq) = decide (NN a) := by
  by_cases h : NN a
  · rw [f_geq h nn_zero]; simp [h, key_zero]
  · rw [f_geq_bad ha h nn_zero]; simp [h]

def ageOf (a b : Nat) : Nat := if T a ∧ T b ∧ key b < key a then rnd (tv a - tv b) else 0
def afterV (a b : Nat) : Nat := if T a ∧ T b ∧ rnd (tv a + tv b) < 9218868437227405312 then rnd (tv a + tv b) else 0
def afterE (a b : Nat) : Int := if T a ∧ T b ∧ rnd (tv a + tv b) < 9218868437227405312 then 0 else 1
/-- The floor of the quotient. -/
def bk (t g : Nat) : Nat := if g = 9218868437227405312 then 0 else D.write ((D.read ((D.div t g).getD 0)).integral .down)

section
variable {P : Program} (w : World) (t : TypeId)
theorem run_sub {a b : Nat} (ha : T a) (hb : T b) (h : key b < key a) : (binOp .sub t (.float .f64 a) (.float .f64 b)).run P w = .ok (.float .f64 (rnd (tv a - tv b))) w :=
  run_float_arith w .sub t .f64 a b _ (sub_T ha hb (V_lt h))
theorem run_add {a b : Nat} (ha : T a) (hb : T b) (hz : a ≠ 9223372036854775808) : (binOp .add t (.float .f64 a) (.float .f64 b)).run P w = .ok (.float .f64 (rnd (tv a + tv b))) w :=
  run_float_arith w .add t .f64 a b _ (by show D.add a b = _; rw [add_T ha hb, if_neg (fun h => hz h.1)])
theorem run_add_any {a b : Nat} (ha : T a) (hb : T b) : ∃ r, (∀ w : World, (binOp .add t (.float .f64 a) (.float .f64 b)).run P w = .ok (.float .f64 r) w) ∧ NN r ∧ key r = rnd (tv a + tv b) ∧ (r = 9223372036854775808 ∨ r = rnd (tv a + tv b)) := by
  by_cases hz : a = 9223372036854775808 ∧ b = 9223372036854775808
  · refine ⟨9223372036854775808, fun w => run_float_arith w .add t .f64 a b _ (by show D.add a b = _; rw [add_T ha hb, if_pos hz]), .inr rfl, ?_, .inl rfl⟩
    obtain ⟨rfl, rfl⟩ := hz; decide
  · refine ⟨rnd (tv a + tv b), fun w => run_float_arith w .add t .f64 a b _ (by show D.add a b = _; rw [add_T ha hb, if_neg hz]), .inl (rnd_le _), key_of_le (rnd_le _), .inr rfl⟩
theorem run_add_ask (a b : Nat) : ∃ r w', (binOp .add t (.float .f64 a) (.float .f64 b)).run P w = .ok (.float .f64 r) w' ∧ (w' = w ∨ w' = w.drew) := by
  cases h : floatBits .add .f64 a b with
  | some r => exact ⟨r, w, run_float_arith w .add t .f64 a b _ h, .inl rfl⟩
  | none =>
    unfold floatBits at h
    simp only at h
    refine ⟨(Question.nanBits .f64 a b).cut (w.tape w.drawn (.nanBits .f64 a b)), w.drew, ?_, .inr rfl⟩
    simp [binOp, Op.floatArith, h, choose, Sem.run, Question.forced]
end

/-! ### Quotients and their floors are never NaNs -/
theorem div_nn {t g : Nat} (ht : T t) (hg : NN g) (h0 : 0 < key g) (hi : g ≠ 9218868437227405312) : ∃ q, D.div t g = some q ∧ NN q := by
  have gl : g < 9218868437227405312 := by
    rcases hg with h | h
    · omega
    · subst h; exact absurd h0 (by decide)
  have g0 : 0 < g := by unfold key at h0; split at h0 <;> omega
  rcases ht with h | h
  · refine ⟨_, div_fin h gl g0, .inl ?_⟩
    rw [nearest_eq]; exact nr_le _ _
  · subst h; exact ⟨_, div_mz gl g0, .inr rfl⟩
theorem floor_nn {q : Nat} (h : NN q) : NN (D.write ((D.read q).integral .down)) ∧ ∀ s u, D.read q ≠ .nan s u := by
  rcases h with h | h
  · by_cases hi : q = 9218868437227405312
    · subst hi; rw [floor_inf]; exact ⟨.inl (Nat.le_refl _), by intro s u h; cases h⟩
    · rw [floor_fin (by omega)]
      exact ⟨.inl (rnd_le _), by intro s u; rw [read_fin (by omega)]; simp⟩
  · subst h; rw [floor_mz]; exact ⟨.inr rfl, by intro s u h; cases h⟩
theorem bk_nn {t g : Nat} (ht : T t) (hg : NN g) (h0 : 0 < key g) : NN (bk t g) := by
  unfold bk
  split
  · exact nn_zero
  · rename_i hi
    obtain ⟨q, hq, nq⟩ := div_nn ht hg h0 hi
    rw [hq]; exact (floor_nn nq).1
theorem run_quo {P : Program} (t : TypeId) {a b q : Nat} (h : D.div a b = some q) (w : World) : (binOp .quo t (.float .f64 a) (.float .f64 b)).run P w = .ok (.float .f64 q) w :=
  run_float_arith w .quo t .f64 a b _ h
theorem run_mul {P : Program} (t : TypeId) {a b q : Nat} (h : D.mul a b = some q) (w : World) : (binOp .mul t (.float .f64 a) (.float .f64 b)).run P w = .ok (.float .f64 q) w :=
  run_float_arith w .mul t .f64 a b _ h
theorem run_floor {P : Program} {q : Nat} (h : NN q) (w : World) : (Extern.MathFloor.toIntegral "math.archFloor" .down #[.float .f64 q]).run P w = .ok (.float .f64 (D.write ((D.read q).integral .down))) w := by
  have hn := (floor_nn h).2
  change Sem.run P (match D.read q with
    | .nan s t => (if FloatKind.f64.format.quiet t = t then pure (Value.float .f64 q) else do
        let kept ← choose (.extern "math.Floor,Ceil,Trunc,RoundToEven.signallingNaN kept" 2)
        pure (Value.float .f64 (if kept == 1 then q else FloatKind.f64.encode (.nan s (FloatKind.f64.format.quiet t)))) : Sem Value)
    | d => pure (Value.float .f64 (FloatKind.f64.encode (d.integral .down)))) w = _
  cases hr : D.read q with
  | nan s u => exact absurd hr (hn s u)
  | number s m p => rfl
  | infinity s => rfl

/-! ### Integers as doubles -/
theorem floatOfInt_nat (n : Nat) : floatOfInt .f64 (n : Int) = dy n 0 := by
  unfold floatOfInt FloatKind.nearest FloatKind.encode
  have h1 : decide ((n : Int) < 0) = false := by simp
  rw [h1, Int.natAbs_natCast]
  show D.nearest false n 0 = _
  rw [nearest_eq]
  have e0 : (-1074 - (0 : Int)).toNat = 0 := rfl
  have e1 : ((0 : Int) + 1074).toNat = 1074 := rfl
  rw [e0, e1]
  unfold dy rnd
  rw [Nat.sub_zero]
theorem key_dy {k s : Nat} (hk : k < 9007199254740992) : key (dy k s) = dy k s := key_of_lt (dy_spec hk).1
theorem rnd_add_dy {a b s : Nat} (h : a + b < 9007199254740992) : rnd (tv (dy a s) + tv (dy b s)) = dy (a + b) s := by
  rw [dy_tv (by omega), dy_tv (by omega), ← Nat.add_mul]; rfl
theorem rnd_sub_dy {a b s : Nat} (ha : a < 9007199254740992) (hb : b ≤ a) : rnd (tv (dy a s) - tv (dy b s)) = dy (a - b) s := by
  rw [dy_tv (by omega), dy_tv (by omega), ← Nat.sub_mul]; rfl
theorem dy_zero (s : Nat) : dy 0 s = 0 := by unfold dy; rw [Nat.zero_mul]; exact nr_zero 0
theorem wf_lt {b : Nat} (h : (Lit.float .f64 b).wf = true) : b < 18446744073709551616 := by
  simpa [Lit.wf] using h
end Go.Proofs.Ytddnhjpclglclaa.Fl
