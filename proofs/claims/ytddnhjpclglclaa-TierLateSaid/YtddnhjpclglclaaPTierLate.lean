/- Thinned later, with the same policy, no point comes back, and none that is still too young for any tier is lost: for every input, no condition. -/
import Derived.Test.YtddnhjpclglclaaPTLate
import Derived.Test.YtddnhjpclglclaaFrame
import Derived.Test.YtddnhjpclglclaaLaw
namespace Go.Proofs.Ytddnhjpclglclaa.tierLate
open Go.ChangeShapes Go.WideShapes Go.ChangeAt Go.RowKit
set_option linter.unusedVariables false

theorem hp : ∀ t ∈ Try.f16.params.toList, Try.prog.readableRec t = true ∧ t < Try.prog.types.size := by
  have h : (Try.f16.params.toList.all fun t => Try.prog.readableRec t && decide (t < Try.prog.types.size)) = true := by kernel_rfl
  intro t ht
  have := List.all_eq_true.1 h t ht
  simpa using this

set_option maxRecDepth 100000 in
theorem lifted (os : Os) (started : os.Started) (H : Type) (enc : TypeId × Value → H) :
    ReturnsInHanded {} Try.checked os 16 .any (Rows.tierLateSpec.pre6 enc Try.prog Try.f16 Rows.tierLateRow.domain false) (Rows.tierLateSpec.post enc Try.prog Try.f16 false true false false) := by
  refine returnsInHanded_of_change (C := Try.checked) own_knob started (by kernel_rfl) Try.func16
    (ChangeSpec.witness6 (enc := enc) (C := Try.checked) false ⟨#[], #[.slice none 0 0, .agg #[.int .u8 0, .int .u8 0], .slice none 0 0], []⟩ 8 (by kernel_rfl) (by kernel_rfl) (by kernel_rfl) (by kernel_rfl)) ?_
  intro W base args ds gs before hval0 hW hcnd _
  have hval : ∀ (j : Nat) t v, Try.f16.params[j]? = some t → args[j]? = some v → Value.okWide Try.prog W .any base t v := hval0
  have hW' := hW
  obtain ⟨p, q, hA0, hV, rfl, hfz, hnd⟩ := hW
  have hA : DataW.TrodAll enc Try.prog W 0 (fun _ => true) true Try.f16.params.toList args.toList ds p := hA0
  rw [Try.params16] at hA hval
  obtain ⟨v0, vs0, d0, ds0, p0, q0, hargs, rfl, rfl, h0, r0⟩ := trodAll_cons hA
  obtain ⟨v1, vs1, d1, ds1, p1, q1, rfl, rfl, rfl, h1, r1⟩ := trodAll_cons r0
  obtain ⟨v2, vs2, d2, ds2, p2, q2, rfl, rfl, rfl, h2, r2⟩ := trodAll_cons r1
  obtain ⟨rfl, rfl, rfl⟩ := trodAll_nil r2
  obtain rfl : args = #[v0, v1, v2] := by cases args; simp_all
  obtain ⟨rfl, rfl⟩ := trodVars_none hV
  obtain ⟨s0, a0, c0, rfl, i0, w0, x0⟩ := open_trs (hval 0 54 v0 rfl rfl) h0
  obtain ⟨a1, b1, rfl, w1, x1⟩ := open_twou8 (hval 1 67 v1 rfl rfl) h1
  obtain ⟨s2, a2, c2, rfl, i2, w2, x2⟩ := open_pts (hval 2 22 v2 rfl rfl) h2
  refine (Calls.mono (tierLate_walk s0 c0 a0 a1 b1 s2 c2 a2 W i0 w0 x0 i2 w2 w1 x1) (fun _ _ h => h)).mono fun e W' ⟨he, hb⟩ => ?_
  subst he
  exact ⟨_, rfl, law_post laid_out hp rfl Try.underlying4 rfl hW' hb rfl rfl rfl⟩

theorem over : Rows.tierLateRow.holds Try.pinned (OpenSpec.ofChange Rows.tierLateSpec) :=
  OpenClaim.holds_of_wide 16 Try.f16 rfl rfl rfl rfl rfl rfl rfl ⟨rfl, rfl, rfl, rfl, rfl⟩ rfl rfl rfl rfl rfl (by kernel_rfl) Try.func16 (by kernel_rfl)
    (of_decide_eq_true (by kernel_rfl)) (by unfold Func.isWrapper; first | (rw [if_pos (by decide +kernel)]; kernel_rfl) | (rw [if_neg (by decide +kernel)]; exact ⟨rfl, rfl⟩))
    (fun os started H enc _ => lifted os started H enc)

/-- THE STATEMENT. -/
theorem proved : Rows.TierLateSaid :=
  over
#print axioms proved
end Go.Proofs.Ytddnhjpclglclaa.tierLate
