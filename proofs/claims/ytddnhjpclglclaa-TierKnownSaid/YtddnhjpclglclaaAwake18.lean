/- treeringlaw18.awake. -/
import Derived.Test.YtddnhjpclglclaaPtsL
import Derived.Deep.QuietTactic
import Derived.BigQuiet
namespace Go.Proofs.Ytddnhjpclglclaa
open Go.RowKit Fl

theorem blw {a b c : World} (h : Below a.heap.size a b) (k : Below b.heap.size b c) : Below a.heap.size a c := h.trans (k.mono h.size)
theorem bal {a b : World} (h : Below a.heap.size a b) (o : Obj) : Below a.heap.size a (b.alloc o) := h.alloc h.size o
@[go_sem] theorem run_equalIn_float {P : Program} {w : World} (d : Nat) (t : TypeId) (k k' : FloatKind) (a b : Nat) (h : P.underlying t = some (.float k')) : (Op.equalIn (d + 1) t (.float k a) (.float k b)).run P w = .ok (k.format.order a b == some .eq) w := by
  simp [Op.equalIn, run_underlying h, Op.floatEq]
instance (p : Pt) : Decidable (ok1 p) := by unfold ok1; infer_instance
instance (L : List Pt) (i : Nat) : Decidable (ok2 L i) := by unfold ok2; infer_instance
instance (L : List Pt) (i j : Nat) : Decidable (ok3 L i j) := by unfold ok3; infer_instance
instance (L : List Pt) (i : Nat) : Decidable (okAt L i) := by unfold okAt; infer_instance
instance (L : List Pt) : Decidable (MayP L) := by unfold MayP; infer_instance

theorem cell_new (w : World) (cs : Array Value) (t : TypeId) (o : Nat) : (w.alloc (.cells cs t)).cell? ⟨w.heap.size, o, none⟩ = cs[o]? := by
  simp only [World.cell?, World.alloc_heap_new]; rfl
/-- Points as their cells. -/
def cellsP (L : List Pt) : List Value := L.flatMap fun p => [.int .i64 p.seq, .float .f64 p.st, .string p.mark]
theorem sl_new (w : World) (cs : Array Value) (t : TypeId) (L : List Pt) (h : cs.toList = cellsP L) (hf : ∀ k, k < L.length → PFit (L.getD k default)) (cap : Nat) : SlP (w.alloc (.cells cs t)) (.slice (some ⟨w.heap.size, 0, none⟩) L.length cap) L := by
  refine .inr ⟨w.heap.size, 0, cap, rfl, ⟨fun k hk => ?_, by simp, hf⟩⟩
  have e : ∀ (M : List Pt) (k j : Nat), k < M.length → j < 3 → (cellsP M)[k * 3 + j]? = [Value.int .i64 (M.getD k default).seq, .float .f64 (M.getD k default).st, .string (M.getD k default).mark][j]? := by
    intro M
    induction M with
    | nil => intro k j h; simp at h
    | cons q M ih =>
      intro k j hk hj
      cases k with
      | zero =>
        simp only [cellsP, List.flatMap_cons, List.cons_append, List.nil_append]
        match j, hj with
        | 0, _ => rfl
        | 1, _ => rfl
        | 2, _ => rfl
      | succ k =>
        have := ih k j (by simpa using hk) hj
        simp only [cellsP, List.flatMap_cons, List.cons_append, List.nil_append] at this ⊢
        rw [show (k + 1) * 3 + j = (k * 3 + j) + 1 + 1 + 1 by omega]
        simpa using this
  have hx : ∀ i : Nat, cs[i]? = (cellsP L)[i]? := by intro i; rw [← h]; simp
  refine ⟨?_, ?_, ?_⟩
  · rw [cell_new, hx, Nat.zero_add]; exact e L k 0 hk (by omega)
  · rw [cell_new, hx, Nat.zero_add]; exact e L k 1 hk (by omega)
  · rw [cell_new, hx, Nat.zero_add]; exact e L k 2 hk (by omega)

def L0 : List Pt := [⟨1, 4607182418800017408, ⟨#[]⟩⟩, ⟨2, 4611686018427387904, ⟨#[]⟩⟩, ⟨4, 4611686018427387904, ⟨#[109]⟩⟩, ⟨5, 4617315517961601024, ⟨#[]⟩⟩]
theorem may0 : mayB L0 = true := mayB_true.2 (by decide +kernel)
theorem at0 : askR (phi_at 4611686018427387904) L0 = (⟨4, 4611686018427387904, ⟨#[109]⟩⟩, 0) := by
  have : L0.reverse.find? (phi_at 4611686018427387904) = some ⟨4, 4611686018427387904, ⟨#[109]⟩⟩ := by kernel_rfl
  simp [askR, may0, this]
theorem mark0 : askR (phi_mark ⟨#[109]⟩) L0 = (⟨4, 4611686018427387904, ⟨#[109]⟩⟩, 0) := by
  have : L0.reverse.find? (phi_mark ⟨#[109]⟩) = some ⟨4, 4611686018427387904, ⟨#[109]⟩⟩ := by kernel_rfl
  simp [askR, may0, this]
theorem fit0 : ∀ k, k < L0.length → PFit (L0.getD k default) := by
  intro k hk
  match k, hk with
  | 0, _ => exact ⟨by decide, by decide, by decide⟩
  | 1, _ => exact ⟨by decide, by decide, by decide⟩
  | 2, _ => exact ⟨by decide, by decide, by decide⟩
  | 3, _ => exact ⟨by decide, by decide, by decide⟩

set_option maxRecDepth 100000 in
set_option maxHeartbeats 2000000 in
theorem awake18 (w : World) : Calls Try.prog 18 #[] w fun e w' => e = .returned (.bool true) ∧ Below w.heap.size w w' := by
  obtain ⟨W, hW⟩ : ∃ W, W = w.alloc (.cells #[.int .i64 1, .float .f64 4607182418800017408, .string ⟨#[]⟩, .int .i64 2, .float .f64 4611686018427387904, .string ⟨#[]⟩, .int .i64 4, .float .f64 4611686018427387904, .string ⟨#[109]⟩, .int .i64 5, .float .f64 4617315517961601024, .string ⟨#[]⟩] 27) := ⟨_, rfl⟩
  have hI0 : SlP W (.slice (some ⟨w.heap.size, 0, none⟩) 4 4) L0 := by rw [hW]; exact sl_new w _ _ L0 rfl fit0 4
  have hB0 : Below w.heap.size w W := by rw [hW]; exact (Below.refl _ w).alloc (Nat.le_refl _) _
  have HW := Lib.hid hW
  have hS0 : w.heap.size < W.heap.size := by rw [hW]; simp
  clear hW
  have o0 : (FloatKind.f64.format.order 4611686018427387904 4611686018427387904 == some .eq) = true := by decide +kernel
  go_enter Try.func18, Try.ntmps18
  go_wp2_with (first
    | (go_at_call 20; rw [← HW.out]; refine (pat_any 4611686018427387904 _ _ L0 _ hI0 (by decide)).mono ?_; rintro e w1 ⟨rfl, hB1⟩; rw [at0]; dsimp only [askV]
       have hS1 : w.heap.size < w1.heap.size := Nat.lt_of_lt_of_le hS0 hB1.size)
    | (go_at_call 29; refine (pmark_any ⟨#[109]⟩ _ _ L0 _ ((hI0.below hB1).below ((Below.refl _ _).alloc (Nat.le_refl _) _)) (by decide)).mono ?_; rintro e w2 ⟨rfl, hB2⟩; rw [mark0]; dsimp only [askV]
       obtain ⟨q0, q1, q2, _⟩ := pt_cells (p := ⟨4, 4611686018427387904, ⟨#[109]⟩⟩) ((hB2.block w1.heap.size (by simp)).trans (World.alloc_heap_new w1 _))
       have hS2 : w1.heap.size < w2.heap.size := by have := hB2.size; simp at this; omega)
    | (go_at_call 22; refine (pmay_sl _ _ L0 _ (((hI0.below hB1).below ((Below.refl _ _).alloc (Nat.le_refl _) _)).below (hB2.alloc hB2.size _)) (by decide)).mono ?_; rintro e w3 ⟨rfl, hB3⟩; rw [may0])
    | (go_at_call 21; refine (psame_any _ _ L0 _ _ L0 _ ((((hI0.below hB1).below ((Below.refl _ _).alloc (Nat.le_refl _) _)).below (hB2.alloc hB2.size _)).below hB3) ((((hI0.below hB1).below ((Below.refl _ _).alloc (Nat.le_refl _) _)).below (hB2.alloc hB2.size _)).below hB3) (by decide) (by decide)).mono ?_; rintro e w4 ⟨rfl, hB4⟩; rw [same_self may0]))
  go_ret
  exact ⟨rfl, blw (blw (bal (blw (bal (blw hB0 hB1) _) hB2) _) hB3) hB4⟩
end Go.Proofs.Ytddnhjpclglclaa
