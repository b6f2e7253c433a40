/- points.last with each of its three tests: a range over slices.Backward whose body returns. -/
import Derived.Test.YtddnhjpclglclaaBack
import Derived.Test.YtddnhjpclglclaaMay
namespace Go.Proofs.Ytddnhjpclglclaa
open Go.RowKit Go.Shelf Fl
attribute [local go_sem] Oper.semAt_some

theorem cells_own {β : Type} (B : Nat) (f : β → Obj) (hf : ∀ s, (f s).isCells = true) : Own (fun s W => W.heap[B]? = some (f s)) := fun s X Y row hs hg hrow => by
  have hlt : B < X.heap.size := (Array.getElem?_eq_some_iff.1 hs).1
  refine (hg.block B hlt fun e => ?_).trans hs
  obtain ⟨o, ho, hc⟩ := hrow B e.symm
  have e2 : f s = o := by rw [hs] at ho; exact Option.some.inj ho
  rw [← e2, hf s] at hc
  cases hc
def ptObj (p : Pt) : Obj := .cells #[.int .i64 p.seq, .float .f64 p.st, .string p.mark] 27
theorem cells_one {W : World} {B : Nat} {v : Value} {t : TypeId} (h : W.heap[B]? = some (.cells #[v] t)) : W.cell? ⟨B, 0, none⟩ = some v := by simp [World.cell?, h]
theorem pt_cells {W : World} {B : Nat} {p : Pt} (h : W.heap[B]? = some (ptObj p)) : W.cell? ⟨B, 0, none⟩ = some (.int .i64 p.seq) ∧ W.cell? ⟨B, 1, none⟩ = some (.float .f64 p.st) ∧ W.cell? ⟨B, 2, none⟩ = some (.string p.mark) ∧ (∀ i, W.frozen? ⟨B, i, none⟩ = false) :=
  ⟨by simp [World.cell?, h, ptObj], by simp [World.cell?, h, ptObj], by simp [World.cell?, h, ptObj], fun i => by simp [World.frozen?, h, ptObj]⟩
theorem three_set {W : World} {B : Nat} {a b c : Value} {t : TypeId} (h : W.heap[B]? = some (.cells #[a, b, c] t)) (v : Value) : (W.setCell ⟨B, 0, none⟩ v).heap[B]? = some (.cells #[v, b, c] t) ∧ (W.setCell ⟨B, 1, none⟩ v).heap[B]? = some (.cells #[a, v, c] t) ∧ (W.setCell ⟨B, 2, none⟩ v).heap[B]? = some (.cells #[a, b, v] t) := by
  obtain ⟨hlt, hk⟩ := Array.getElem?_eq_some_iff.1 h
  refine ⟨?_, ?_, ?_⟩
  all_goals
    show (W.heap.modify B _)[B]? = _
    rw [Array.getElem?_eq_getElem (by rw [Array.size_modify]; exact hlt), Array.getElem_modify_self, hk]
    rfl
theorem three_cells {W : World} {B : Nat} {a b c : Value} {t : TypeId} (h : W.heap[B]? = some (.cells #[a, b, c] t)) : W.cell? ⟨B, 0, none⟩ = some a ∧ W.cell? ⟨B, 1, none⟩ = some b ∧ W.cell? ⟨B, 2, none⟩ = some c ∧ (∀ i, W.frozen? ⟨B, i, none⟩ = false) :=
  ⟨by simp [World.cell?, h], by simp [World.cell?, h], by simp [World.cell?, h], fun i => by simp [World.frozen?, h]⟩
/-- The world when a point is stored over one. -/
def stPt (W : World) (B : Nat) (q : Pt) : World := ((W.setCell ⟨B, 0, none⟩ (.int .i64 q.seq)).setCell ⟨B, 1, none⟩ (.float .f64 q.st)).setCell ⟨B, 2, none⟩ (.string q.mark)
theorem stPt_heap {W : World} {B : Nat} {p : Pt} (h : W.heap[B]? = some (ptObj p)) (q : Pt) : (stPt W B q).heap[B]? = some (ptObj q) :=
  (three_set (three_set (three_set h _).1 _).2.1 _).2.2
theorem run_stPt {W : World} {B : Nat} {p : Pt} (h : W.heap[B]? = some (ptObj p)) (q : Pt) : (storeVar 27 ⟨B, 0, none⟩ (.agg #[.int .i64 q.seq, .float .f64 q.st, .string q.mark])).run Try.prog W = .ok () (stPt W B q) := by
  obtain ⟨a0, _, _, a3⟩ := three_cells h
  obtain ⟨_, b1, _, b3⟩ := three_cells (three_set h (.int .i64 q.seq)).1
  obtain ⟨_, _, c2, c3⟩ := three_cells (three_set (three_set h (.int .i64 q.seq)).1 (.float .f64 q.st)).2.1
  simp [go_sem, a0, a3, b1, b3, c2, c3, stPt]
theorem stPt_other (W : World) (B : Nat) (q : Pt) {k : Nat} (hk : k ≠ B) : (stPt W B q).heap[k]? = W.heap[k]? := by
  unfold stPt
  rw [Below.heap_setCell _ _ _ k hk, Below.heap_setCell _ _ _ k hk, Below.heap_setCell _ _ _ k hk]
def ptZero : Pt := ⟨0, 0, ⟨#[]⟩⟩

/-- The zero point stored over a zero point: what each step meets. -/
theorem zfacts {W : World} {B : Nat} {v : Value} (h1 : W.heap[B]? = some (ptObj ptZero)) (h2 : Boxed W (B + 1) 28 v) :
    (W.cell? ⟨B, 0, none⟩ = some (.int .i64 0) ∧ W.frozen? ⟨B, 0, none⟩ = false) ∧ ((W.setCell ⟨B, 0, none⟩ (.int .i64 0)).cell? ⟨B, 1, none⟩ = some (.float .f64 0) ∧ (W.setCell ⟨B, 0, none⟩ (.int .i64 0)).frozen? ⟨B, 1, none⟩ = false) ∧
    (((W.setCell ⟨B, 0, none⟩ (.int .i64 0)).setCell ⟨B, 1, none⟩ (.float .f64 0)).cell? ⟨B, 2, none⟩ = some (.string ⟨#[]⟩) ∧ ((W.setCell ⟨B, 0, none⟩ (.int .i64 0)).setCell ⟨B, 1, none⟩ (.float .f64 0)).frozen? ⟨B, 2, none⟩ = false) ∧
    ((((W.setCell ⟨B, 0, none⟩ (.int .i64 0)).setCell ⟨B, 1, none⟩ (.float .f64 0)).setCell ⟨B, 2, none⟩ (.string ⟨#[]⟩)).cell? ⟨B + 1, 0, none⟩ = some v ∧ (((W.setCell ⟨B, 0, none⟩ (.int .i64 0)).setCell ⟨B, 1, none⟩ (.float .f64 0)).setCell ⟨B, 2, none⟩ (.string ⟨#[]⟩)).frozen? ⟨B + 1, 0, none⟩ = false) := by
  obtain ⟨a0, _, _, a3⟩ := three_cells h1
  obtain ⟨_, b1, _, b3⟩ := three_cells (three_set h1 (.int .i64 ptZero.seq)).1
  obtain ⟨_, _, c2, c3⟩ := three_cells (three_set (three_set h1 (.int .i64 ptZero.seq)).1 (.float .f64 ptZero.st)).2.1
  have hst2 : Boxed (stPt W B ptZero) _ _ _ := (stPt_other _ _ _ (by omega)).trans h2
  exact ⟨⟨a0, a3 0⟩, ⟨b1, b3 1⟩, ⟨c2, c3 2⟩, hst2.cell, hst2.frozen⟩
/-- And what stands then. -/
theorem zend {W : World} {B n : Nat} {v : Value} {c : Int} (h1 : W.heap[B]? = some (ptObj ptZero)) (h2 : Boxed W (B + 1) 28 v) (hB : n ≤ B) :
    let W4 := (((W.setCell ⟨B, 0, none⟩ (.int .i64 0)).setCell ⟨B, 1, none⟩ (.float .f64 0)).setCell ⟨B, 2, none⟩ (.string ⟨#[]⟩)).setCell ⟨B + 1, 0, none⟩ (.int .i64 c)
    (W4.cell? ⟨B, 0, none⟩ = some (.int .i64 0) ∧ W4.cell? ⟨B, 1, none⟩ = some (.float .f64 0) ∧ W4.cell? ⟨B, 2, none⟩ = some (.string ⟨#[]⟩)) ∧ W4.cell? ⟨B + 1, 0, none⟩ = some (.int .i64 c) ∧ (∀ {w}, Below n w W → Below n w W4) := by
  have hst2 : Boxed (stPt W B ptZero) _ _ _ := (stPt_other _ _ _ (by omega)).trans h2
  have g1 := (Below.heap_setCell (stPt W B ptZero) ⟨B + 1, 0, none⟩ (.int .i64 c) B (by simp)).trans (stPt_heap h1 ptZero)
  obtain ⟨u0, u1, u2, _⟩ := three_cells g1
  exact ⟨⟨u0, u1, u2⟩, (hst2.set (.int .i64 c)).cell, fun h => (((h.setCell (p := ⟨B, 0, none⟩) hB _).setCell (p := ⟨B, 1, none⟩) hB _).setCell (p := ⟨B, 2, none⟩) hB _).setCell (p := ⟨B + 1, 0, none⟩) (by simp; omega) _⟩
/-- A point stored over another: what each step meets, and what stands then. -/
theorem sfacts {W : World} {B : Nat} {p : Pt} (h1 : W.heap[B]? = some (ptObj p)) (qs : Int) (qt : Nat) :
    (W.cell? ⟨B, 0, none⟩ = some (.int .i64 p.seq) ∧ W.frozen? ⟨B, 0, none⟩ = false) ∧ ((W.setCell ⟨B, 0, none⟩ (.int .i64 qs)).cell? ⟨B, 1, none⟩ = some (.float .f64 p.st) ∧ (W.setCell ⟨B, 0, none⟩ (.int .i64 qs)).frozen? ⟨B, 1, none⟩ = false) ∧
    (((W.setCell ⟨B, 0, none⟩ (.int .i64 qs)).setCell ⟨B, 1, none⟩ (.float .f64 qt)).cell? ⟨B, 2, none⟩ = some (.string p.mark) ∧ ((W.setCell ⟨B, 0, none⟩ (.int .i64 qs)).setCell ⟨B, 1, none⟩ (.float .f64 qt)).frozen? ⟨B, 2, none⟩ = false) := by
  obtain ⟨a0, _, _, a3⟩ := three_cells h1
  obtain ⟨_, b1, _, b3⟩ := three_cells (three_set h1 (.int .i64 qs)).1
  obtain ⟨_, _, c2, c3⟩ := three_cells (three_set (three_set h1 (.int .i64 qs)).1 (.float .f64 qt)).2.1
  exact ⟨⟨a0, a3 0⟩, ⟨b1, b3 1⟩, ⟨c2, c3 2⟩⟩
theorem send {W : World} {B n : Nat} {p : Pt} (h1 : W.heap[B]? = some (ptObj p)) (hB : n ≤ B) (qs : Int) (qt : Nat) (qm : ByteArray) :
    let W4 := ((W.setCell ⟨B, 0, none⟩ (.int .i64 qs)).setCell ⟨B, 1, none⟩ (.float .f64 qt)).setCell ⟨B, 2, none⟩ (.string qm)
    (W4.cell? ⟨B, 0, none⟩ = some (.int .i64 qs) ∧ W4.cell? ⟨B, 1, none⟩ = some (.float .f64 qt) ∧ W4.cell? ⟨B, 2, none⟩ = some (.string qm)) ∧ (∀ {w}, Below n w W → Below n w W4) := by
  obtain ⟨u0, u1, u2, _⟩ := three_cells (stPt_heap h1 ⟨qs, qt, qm⟩)
  exact ⟨⟨u0, u1, u2⟩, fun h => ((h.setCell (p := ⟨B, 0, none⟩) hB _).setCell (p := ⟨B, 1, none⟩) hB _).setCell (p := ⟨B, 2, none⟩) hB _⟩
/-- What is answered: the point, the code. -/
noncomputable def askR (φ : Pt → Bool) (L : List Pt) : Pt × Int := if mayB L then (match L.reverse.find? φ with | some p => (p, 0) | none => (ptZero, 14)) else (ptZero, 1)
def askV (r : Pt × Int) : Value := .tuple #[.agg #[.int .i64 r.1.seq, .float .f64 r.1.st, .string r.1.mark], .int .i64 r.2]
theorem mayB_nil : mayB [] = true := mayB_true.2 fun _ h => absurd h (Nat.not_lt_zero _)
set_option maxRecDepth 100000 in
set_option maxHeartbeats 1000000 in
theorem pmay_nil (a : Option Addr) (cap : Nat) (w : World) :
    Calls Try.prog 22 #[.slice a 0 cap] w fun e w' => e = .returned (.bool true) ∧ Below w.heap.size w w' := by
  have hmm := @run_makeMap Try.prog
  go_enter Try.func22, Try.ntmps22
  go_wp2
  go_loopw [3, 4, 11] (fun sv tv i wr => i = .int .i64 0 ∧ Below w.heap.size w wr) (fun _ _ _ _ => 0)
  case atStart => exact ⟨rfl, (Below.refl _ _).alloc (Nat.le_refl _) _⟩
  case round =>
    obtain ⟨rfl, hB⟩ := hrel
    go_wp2
    go_ret
    exact ⟨rfl, hB⟩
theorem pmay_sl (a : Option Addr) (cap : Nat) (L : List Pt) (w : World) (hI : SlP w (.slice a L.length cap) L) (hn : L.length < 9223372036854775807) :
    Calls Try.prog 22 #[.slice a L.length cap] w fun e w' => e = .returned (.bool (mayB L)) ∧ Below w.heap.size w w' := by
  rcases hI with ⟨a', cap', e, rfl⟩ | ⟨b, off, cap', e, hr⟩
  · rw [mayB_nil]; exact pmay_nil a cap w
  · cases e; exact pmay_any b off cap L w hr hn

/-- The last point that a test lets by. -/
def lastOf (φ : Pt → Bool) (L : List Pt) : Option Pt := L.reverse.find? φ
theorem fromBack_all (L : List Pt) : (fromBack L L.length).map (·.2) = L.reverse := by
  apply List.ext_getElem
  · simp [fromBack]
  · intro i h1 _
    have hi : i < L.length := by simpa [fromBack] using h1
    simp [fromBack]
    rw [List.getElem?_eq_getElem (by omega)]; rfl
theorem fromBack_take (L : List Pt) {k : Nat} (hk : k ≤ L.length) : (fromBack L k).map (·.2) = L.reverse.take k := by
  rw [← fromBack_all, ← List.map_take]
  congr 1
  unfold fromBack
  rw [← List.map_take, List.take_range, Nat.min_eq_left hk]
theorem lastOf_none {φ : Pt → Bool} {L : List Pt} (h : ∀ x ∈ fromBack L L.length, φ x.2 = false) : lastOf φ L = none := by
  unfold lastOf
  rw [List.find?_eq_none, ← fromBack_all]
  intro p hp
  obtain ⟨x, hx, rfl⟩ := List.mem_map.1 hp
  simp [h x hx]
theorem lastOf_some {φ : Pt → Bool} {L : List Pt} {k : Nat} {ini : List (Int × Pt)} {x : Int × Pt} (hk : k ≤ L.length) (e : fromBack L k = ini ++ [x]) (h : ∀ y ∈ ini, φ y.2 = false) (hx : φ x.2 = true) : lastOf φ L = some x.2 := by
  unfold lastOf
  have h1 : L.reverse.take k = ini.map (·.2) ++ [x.2] := by rw [← fromBack_take L hk, e]; simp
  rw [← List.take_append_drop k L.reverse, h1, List.append_assoc, List.find?_append, List.find?_eq_none.2]
  · simp [hx]
  · intro p hp
    obtain ⟨y, hy, rfl⟩ := List.mem_map.1 hp
    simp [h y hy]

/-! ### at -/
def phi_at (t : Nat) : Pt → Bool := fun p => FloatKind.f64.format.order p.st t == some .lt || FloatKind.f64.format.order p.st t == some .eq
set_option maxHeartbeats 400000 in
theorem fits_at (t : Nat) (p : Pt) (cb : Nat) (w : World) (hc : w.cell? ⟨cb, 0, none⟩ = some (.float .f64 t)) (hcb : cb < w.heap.size) :
    Calls Try.prog 51 #[.agg #[.int .i64 p.seq, .float .f64 p.st, .string p.mark], .pointer (some ⟨cb, 0, none⟩)] w fun e w' => e = .returned (.bool (phi_at t p)) ∧ w' = w.alloc (ptObj p) := by
  unfold phi_at
  go_enter Try.func51, Try.ntmps51
  go_wp2
  go_ret
  exact ⟨rfl, rfl⟩

set_option maxRecDepth 100000 in
set_option maxHeartbeats 4000000 in
theorem last_at (t : Nat) (cb : Nat) (a : Option Addr) (cap : Nat) (L : List Pt) (w : World) (hI : SlP w (.slice a L.length cap) L) (hn : L.length < 9223372036854775807) (hc : w.cell? ⟨cb, 0, none⟩ = some (.float .f64 t)) (hcb : cb < w.heap.size) (hm : MayP L) :
    Calls Try.prog 50 #[.slice a L.length cap, .func (.func 51) #[] #[.pointer (some ⟨cb, 0, none⟩)]] w fun e w' =>
      (∃ p c, e = .returned (.tuple #[.agg #[.int .i64 p.seq, .float .f64 p.st, .string p.mark], .int .i64 c]) ∧ ((lastOf (phi_at t) L = some p ∧ c = 0) ∨ (lastOf (phi_at t) L = none ∧ p = ptZero ∧ c = 14))) ∧ Below w.heap.size w w' := by
  have hmay : mayB L = true := mayB_true.2 hm
  have HM := Lib.hid hm
  clear hm
  refine (callsIn_wide (n := 5)).1 ?_
  have hro : Fence.wide.round = none := rfl
  have h1 : 1 ≤ 5 := by omega
  refine callsIn_of_wp_marks Try.func50 rfl trivial ?_ hro
  simp only [Try.ntmps50, List.size_toArray, List.length_cons, List.length_nil, Nat.reduceAdd, Nat.reduceSub, Array.replicate_succ, Array.replicate_zero, List.push_toArray, List.append_toArray, List.nil_append, List.cons_append]
  gi_wp2_with (first | (refine ⟨trivial, ?_⟩; gi_at_call 22; refine (callsIn_wide.2 (pmay_sl _ _ _ _ (hI.below ((((Below.refl _ w).alloc (Nat.le_refl _) _).alloc (by simp) _).alloc (by simp; omega) _)) hn)).mono ?_; rintro e w1 ⟨rfl, hB1⟩; rw [hmay]) | (refine ⟨trivial, ?_⟩; gi_at_call 62; refine (back_in Fence.wide (5 - 1) trivial hro _ _ _ _).mono ?_; rintro e w' ⟨rfl, rfl⟩))
  have hBA : Below w.heap.size w w1 := ((((Below.refl _ w).alloc (Nat.le_refl _) _).alloc (by simp) _).alloc (by simp; omega) _).trans (hB1.mono (by simp; omega))
  have hS0 : w1.heap[w.heap.size]? = some (.cells #[.func (.func 51) #[] #[.pointer (some ⟨cb, 0, none⟩)]] 72) := (hB1.block _ (by simp; omega)).trans ((Below.heap_alloc _ _ _ (by simp; omega)).trans ((Below.heap_alloc _ _ _ (by simp)).trans (World.alloc_heap_new w _)))
  have hS1 : w1.heap[w.heap.size + 1]? = some (ptObj ptZero) := (hB1.block _ (by simp)).trans ((Below.heap_alloc _ _ _ (by simp)).trans (by have := World.alloc_heap_new (w.alloc (.cells #[.func (.func 51) #[] #[.pointer (some ⟨cb, 0, none⟩)]] 72)) (ptObj ptZero); rwa [World.size_alloc] at this))
  have hS2 : Boxed w1 (w.heap.size + 2) 28 (.int .i64 0) := (hB1.block _ (by simp)).trans (by have := World.alloc_heap_new ((w.alloc (.cells #[.func (.func 51) #[] #[.pointer (some ⟨cb, 0, none⟩)]] 72)).alloc (ptObj ptZero)) (.cells #[.int .i64 0] 28); rwa [World.size_alloc, World.size_alloc] at this)
  have hw1 : w.heap.size + 3 ≤ w1.heap.size := by have := hB1.size; simp at this; omega
  clear hB1
  have hBox := Boxed.new w1 22 (.slice a L.length cap)
  obtain ⟨W0, hW0⟩ : ∃ W0, w1.alloc (.cells #[.slice a L.length cap] 22) = W0 := ⟨_, rfl⟩
  have hg := World.grownBy_alloc w1 (.cells #[.slice a L.length cap] 22) none
  have hB0 := hBA.alloc hBA.size (.cells #[.slice a L.length cap] 22)
  rw [hW0] at hBox hg hB0 ⊢
  have hT0 : W0.heap[w.heap.size]? = some (.cells #[.func (.func 51) #[] #[.pointer (some ⟨cb, 0, none⟩)]] 72) := (hg.block _ (by omega) (by simp)).trans hS0
  have hT1 : W0.heap[w.heap.size + 1]? = some (ptObj ptZero) := (hg.block _ (by omega) (by simp)).trans hS1
  have hT2 : Boxed W0 (w.heap.size + 2) 28 (.int .i64 0) := (hg.block _ (by omega) (by simp)).trans hS2
  have hsz : W0.heap.size = w1.heap.size + 1 := by rw [← hW0]; simp
  clear hW0 hg hS0 hS1 hS2
  refine wpIn_rangeFunc_ownH hro h1 (gf := 65) (lb := #[.pointer (some ⟨w1.heap.size, 0, none⟩)]) rfl trivial (enters_of Try.func65 (by kernel_rfl) rfl)
    (back_stops Fence.wide (5 - 1) trivial hro (by omega) w1.heap.size _ L hn W0 (by omega) hBox.cell (hI.below hB0)) belowK_t (belowK_b (Nat.le_refl _)) (Below.refl _ _) (fun _ => rfl)
    (fun pre W => Below W0.heap.size W0 W ∧ (∀ y ∈ pre, phi_at t y.2 = false))
    (fun c pre W => (∃ ini x, pre = ini ++ [x] ∧ (∀ y ∈ ini, phi_at t y.2 = false) ∧ phi_at t x.2 = true ∧ W.heap[w.heap.size + 1]? = some (ptObj x.2)) ∧ Boxed W (w.heap.size + 2) 28 (.int .i64 0) ∧ Below w.heap.size w W ∧ c = .ret)
    (OwnFrom.and (ownFrom_below (Nat.le_refl _) (Nat.le_refl _)) (fun _ _ _ _ hs _ _ => hs))
    (fun c => OwnFrom.and (fun s A B row hs hg hr => by obtain ⟨ini, x, e1, e2, e3, e4⟩ := hs; exact ⟨ini, x, e1, e2, e3, cells_own _ (fun _ => _) (fun _ => rfl) () A B row e4 hg (fun r e => (hr r e).2)⟩) (OwnFrom.and (Own.from (cells_own _ (fun _ => _) (fun _ => rfl)) _) (OwnFrom.and (ownFrom_below (Nat.le_refl _) (by omega)) (fun _ _ _ _ hs _ _ => hs))))
    ⟨Below.refl _ _, by simp⟩
    (fun x a' W => ∃ Bx, w.heap.size + 2 < Bx ∧ W.heap[Bx]? = some (ptObj x.2) ∧ a' = { tmps := #[.slice a L.length cap, .func (.func 51) #[] #[.pointer (some ⟨cb, 0, none⟩)], undef, .pointer (some ⟨w.heap.size, 0, none⟩), .pointer (some ⟨w.heap.size + 1, 0, none⟩), .pointer (some ⟨w.heap.size + 1 + 1, 0, none⟩), undef, .pointer (some ⟨Bx, 0, none⟩), .slice a L.length cap, .bool true, .bool false, undef, .slice a L.length cap, .func (.func 65) #[] #[.pointer (some ⟨w1.heap.size, 0, none⟩)], .int .i64 x.1, .agg #[.int .i64 x.2.seq, .float .f64 x.2.st, .string x.2.mark], undef, undef, undef, undef, undef], defers := [] })
    (fun x a' _ X Y row hs hg hr => by obtain ⟨Bx, h1, h2, h3⟩ := hs; exact ⟨Bx, h1, cells_own Bx (fun (_ : Unit) => ptObj x.2) (fun _ => rfl) () X Y row h2 hg (fun r e => (hr r e).2), h3⟩)
    ?assign ?body ?done ?stop
  case assign =>
    rintro l pre x W K ⟨hB, hall⟩ hK
    dsimp only [encP]
    gi_wp2
    exact hK _ _ ((KeepsOthers.alloc _ _).from _) ((Below.refl _ W).alloc hB.size _) ⟨hB.alloc hB.size _, hall⟩ ⟨W.heap.size, by have := hB.size; omega, World.alloc_heap_new W _, rfl⟩
  case body =>
    rintro l pre x a' W hl ⟨r, hr⟩ ⟨hB, hall⟩ ⟨Bx, hBx, hX, rfl⟩ hlt
    have h0 := (hB.block _ (by omega)).trans hT0
    have h1 := (hB.block _ (by omega)).trans hT1
    have h2 : Boxed W _ _ _ := (hB.block _ (by omega)).trans hT2
    have hsW := hB.size
    obtain ⟨x0, x1, x2, x3⟩ := pt_cells hX
    have hBxl : Bx < W.heap.size := (Array.getElem?_eq_some_iff.1 hX).1
    have hf := cells_one h0
    obtain ⟨r0, r1, r2, r3⟩ := pt_cells h1
    have f2 := h2.frozen
    have hc' : W.cell? ⟨cb, 0, none⟩ = some (.float .f64 t) := (hB.cell (p := ⟨cb, 0, none⟩) (show cb < W0.heap.size by omega)).trans ((hB0.cell (p := ⟨cb, 0, none⟩) hcb).trans hc)
    have hcb' : cb < W.heap.size := by omega
    obtain ⟨X, hXe⟩ : ∃ X, X = W.alloc (ptObj x.2) := ⟨_, rfl⟩
    have hBX : Below W.heap.size W X := by rw [hXe]; exact (Below.refl _ W).alloc (Nat.le_refl _) _
    have h1' := (hBX.block (w.heap.size + 1) (by omega)).trans h1
    have h2' : Boxed X _ _ _ := (hBX.block (w.heap.size + 2) (by omega)).trans h2
    obtain ⟨y0, y1, y2, y3⟩ := pt_cells ((hBX.block Bx hBxl).trans hX)
    obtain ⟨a0, _, _, a3⟩ := three_cells h1'
    obtain ⟨_, b1, _, b3⟩ := three_cells (three_set h1' (.int .i64 x.2.seq)).1
    obtain ⟨_, _, c2, c3⟩ := three_cells (three_set (three_set h1' (.int .i64 x.2.seq)).1 (.float .f64 x.2.st)).2.1
    have hst2 : Boxed (stPt X (w.heap.size + 1) x.2) _ _ _ := (stPt_other _ _ _ (by omega)).trans h2'
    have d2 := hst2.cell
    have d3 := hst2.frozen
    unfold stPt at d2 d3
    have a3 := a3 0
    have b3 := b3 1
    have c3 := c3 2
    have HX := Lib.hid hXe
    clear r0 r1 r2 r3 f2 x3 y3 hXe hX
    gi_wp2_with (refine ⟨trivial, ?_⟩; gi_at_call 51; refine (CallsIn.inRound l (callsIn_wide.2 (fits_at t x.2 cb W hc' hcb'))).mono ?_; rintro e w' ⟨rfl, rfl⟩; rw [← HX.out])
    · have hx : phi_at t x.2 = true := by assumption
      have hbw := ((hB0.trans (hB.mono (by omega))).trans (hBX.mono (by omega)))
      exact ⟨((((((KeepsFrom.refl _ _).trans (by rw [HX.out]; exact (KeepsOthers.alloc _ _).from _)).trans ((KeepsOthers.setCell _ _ _).from _)).trans ((KeepsOthers.setCell _ _ _).from _)).trans ((KeepsOthers.setCell _ _ _).from _)).trans ((KeepsOthers.setCell _ _ _).from _)),
        ⟨pre, x, rfl, hall, hx, (Below.heap_setCell _ _ _ _ (by simp)).trans (stPt_heap h1' x.2)⟩, hst2.set _, (((hbw.setCell (p := ⟨w.heap.size + 1, 0, none⟩) (by simp) _).setCell (p := ⟨w.heap.size + 1, 1, none⟩) (by simp) _).setCell (p := ⟨w.heap.size + 1, 2, none⟩) (by simp) _).setCell (p := ⟨w.heap.size + 1 + 1, 0, none⟩) (by simp; omega) _, rfl⟩
    · have hx : phi_at t x.2 = false := by assumption
      exact ⟨(by rw [HX.out]; exact (KeepsOthers.alloc _ _).from _), hBX.mono hsW, hB.trans (hBX.mono hsW), fun p hp' => (List.mem_append.1 hp').elim (hall p) (fun e => by simp at e; subst e; exact hx)⟩
  case done =>
    rintro D ys W hD hys ⟨hB, hall⟩ hK
    have h1 := (hB.block _ (by omega)).trans hT1
    have h2 : Boxed W _ _ _ := (hB.block _ (by omega)).trans hT2
    have hsW := hB.size
    obtain ⟨a0, _, _, a3⟩ := three_cells h1
    obtain ⟨_, b1, _, b3⟩ := three_cells (three_set h1 (.int .i64 ptZero.seq)).1
    obtain ⟨_, _, c2, c3⟩ := three_cells (three_set (three_set h1 (.int .i64 ptZero.seq)).1 (.float .f64 ptZero.st)).2.1
    have hst1 := stPt_heap h1 ptZero
    have hst2 : Boxed (stPt W (w.heap.size + 1) ptZero) _ _ _ := (stPt_other _ _ _ (by omega)).trans h2
    have hD1 : D ≠ w.heap.size + 1 := by omega
    have hD2 : D ≠ w.heap.size + 2 := by omega
    have HstD := Lib.hid ((stPt_other W (w.heap.size + 1) ptZero hD1).trans hK)
    have d2 := hst2.cell
    have d3 := hst2.frozen
    unfold stPt ptZero at d2 d3
    dsimp only [ptZero] at a0 b1 b3 c2 c3
    have a3 := a3 0
    have b3 := b3 1
    have c3 := c3 2
    gi_wp2
    have h1z := (Below.heap_setCell (stPt W (w.heap.size + 1) ptZero) ⟨w.heap.size + 1 + 1, 0, none⟩ (.int .i64 14) (w.heap.size + 1) (by simp)).trans hst1
    have h2z := hst2.set (.int .i64 14)
    have hKz := (Below.heap_setCell (stPt W (w.heap.size + 1) ptZero) ⟨w.heap.size + 1 + 1, 0, none⟩ (.int .i64 14) D (by simp; omega)).trans HstD.out
    have hBz := ((((hB0.trans (hB.mono (by omega))).setCell (p := ⟨w.heap.size + 1, 0, none⟩) (by simp) (.int .i64 0)).setCell (p := ⟨w.heap.size + 1, 1, none⟩) (by simp) (.float .f64 0)).setCell (p := ⟨w.heap.size + 1, 2, none⟩) (by simp) (.string ⟨#[]⟩)).setCell (p := ⟨w.heap.size + 1 + 1, 0, none⟩) (by simp; omega) (.int .i64 14)
    have g1 := cells_own _ (fun (_ : Unit) => ptObj ptZero) (fun _ => rfl) () _ _ _ h1z (grownBy_putObj' _ D (.deferred none)) (fun r e => by cases e; exact ⟨_, hKz, rfl⟩)
    have g2 : Boxed _ _ _ _ := cells_own _ (fun (_ : Unit) => Obj.cells #[Value.int .i64 14] 28) (fun _ => rfl) () _ _ _ h2z (grownBy_putObj' _ D (.deferred none)) (fun r e => by cases e; exact ⟨_, hKz, rfl⟩)
    obtain ⟨u0, u1, u2, _⟩ := three_cells g1
    have u3 := g2.cell
    refine ⟨by simp, .inl ⟨_, _, rfl, run_takeDeferred hKz, ?_⟩⟩
    refine ⟨.tuple #[.agg #[.int .i64 (ptZero).seq, .float .f64 (ptZero).st, .string (ptZero).mark], .int .i64 14], ?_, ⟨ptZero, 14, rfl, .inr ⟨lastOf_none fun y hy => hall y (by rw [hys]; exact hy), rfl, rfl⟩⟩, hBz.trans (belowK_b (w := w) (Nat.le_refl _) _ D _ _ (by omega) hKz rfl rfl)⟩
    simp only [stPt, ptZero] at u0 u1 u2 u3
    simp [results, Try.f50, go_sem, u0, u1, u2, u3, ptZero]
  case stop =>
    rintro D c pre W hD ⟨k, hk, rfl⟩ ⟨⟨ini, x, e1, e2, e3, h1⟩, h2, hB, rfl⟩ hK
    gi_wp2
    have g1 := cells_own _ (fun (_ : Unit) => ptObj x.2) (fun _ => rfl) () _ _ _ h1 (grownBy_putObj' _ D (.deferred none)) (fun r e => by cases e; exact ⟨_, hK, rfl⟩)
    have g2 : Boxed _ _ _ _ := cells_own _ (fun (_ : Unit) => Obj.cells #[Value.int .i64 0] 28) (fun _ => rfl) () _ _ _ h2 (grownBy_putObj' _ D (.deferred none)) (fun r e => by cases e; exact ⟨_, hK, rfl⟩)
    obtain ⟨u0, u1, u2, _⟩ := three_cells g1
    have u3 := g2.cell
    refine ⟨by simp, .inl ⟨_, _, rfl, run_takeDeferred hK, ?_⟩⟩
    refine ⟨.tuple #[.agg #[.int .i64 (x.2).seq, .float .f64 (x.2).st, .string (x.2).mark], .int .i64 0], ?_, ⟨x.2, 0, rfl, .inl ⟨lastOf_some hk e1 e2 e3, rfl⟩⟩, hB.trans (belowK_b (w := w) (Nat.le_refl _) _ D _ _ (by omega) hK rfl rfl)⟩
    simp [results, Try.f50, go_sem, u0, u1, u2, u3]

set_option maxRecDepth 100000 in
set_option maxHeartbeats 2000000 in
theorem lastbad_at (cb : Nat) (a : Option Addr) (cap : Nat) (L : List Pt) (w : World) (hI : SlP w (.slice a L.length cap) L) (hn : L.length < 9223372036854775807) (hmay : mayB L = false) :
    Calls Try.prog 50 #[.slice a L.length cap, .func (.func 51) #[] #[.pointer (some ⟨cb, 0, none⟩)]] w fun e w' =>
      e = .returned (.tuple #[.agg #[.int .i64 0, .float .f64 0, .string ⟨#[]⟩], .int .i64 1]) ∧ Below w.heap.size w w' := by
  go_enter Try.func50, Try.ntmps50
  go_wp2_with
     (go_at_call 22; refine (pmay_sl _ _ _ _ (hI.below ((((Below.refl _ w).alloc (Nat.le_refl _) _).alloc (by simp) _).alloc (by simp; omega) _)) hn).mono ?_; rintro e w1 ⟨rfl, hB1⟩; rw [hmay]
      have hBA : Below w.heap.size w w1 := ((((Below.refl _ w).alloc (Nat.le_refl _) _).alloc (by simp) _).alloc (by simp; omega) _).trans (hB1.mono (by simp; omega))
      have hS1 : w1.heap[w.heap.size + 1]? = some (ptObj ptZero) := (hB1.block _ (by simp)).trans ((Below.heap_alloc _ _ _ (by simp)).trans (by have := World.alloc_heap_new (w.alloc (.cells #[.func (.func 51) #[] #[.pointer (some ⟨cb, 0, none⟩)]] 72)) (ptObj ptZero); rwa [World.size_alloc] at this))
      have hS2 : Boxed w1 (w.heap.size + 2) 28 (.int .i64 0) := (hB1.block _ (by simp)).trans (by have := World.alloc_heap_new ((w.alloc (.cells #[.func (.func 51) #[] #[.pointer (some ⟨cb, 0, none⟩)]] 72)).alloc (ptObj ptZero)) (.cells #[.int .i64 0] 28); rwa [World.size_alloc, World.size_alloc] at this)
      obtain ⟨⟨a0, a1⟩, ⟨b0, b1⟩, ⟨c0, c1⟩, d0, d1⟩ := zfacts hS1 hS2
      have hz := zend (c := 1) (n := w.heap.size) hS1 hS2 (by omega)
      obtain ⟨⟨u0, u1, u2⟩, u3, hBz⟩ := hz
      have hBw := Lib.hid (hBz hBA)
      clear hS1 hS2 hB1 hBA hBz)
  refine bodyPost_ret (v := .tuple #[.agg #[.int .i64 0, .float .f64 0, .string ⟨#[]⟩], .int .i64 1]) (by simp [results, Try.f50, go_sem, u0, u1, u2, u3]) rfl ⟨rfl, hBw.out⟩
theorem lastq_at (t : Nat) (cb : Nat) (a : Option Addr) (cap : Nat) (L : List Pt) (w : World) (hI : SlP w (.slice a L.length cap) L) (hn : L.length < 9223372036854775807) (hc : w.cell? ⟨cb, 0, none⟩ = some (.float .f64 t)) (hcb : cb < w.heap.size) :
    Calls Try.prog 50 #[.slice a L.length cap, .func (.func 51) #[] #[.pointer (some ⟨cb, 0, none⟩)]] w fun e w' => e = .returned (askV (askR (phi_at t) L)) ∧ Below w.heap.size w w' := by
  cases hm : mayB L
  · refine (lastbad_at cb a cap L w hI hn hm).mono ?_
    rintro e w' ⟨rfl, hB⟩
    exact ⟨by simp [askR, hm, askV, ptZero], hB⟩
  · refine (last_at t cb a cap L w hI hn hc hcb (mayB_true.1 hm)).mono ?_
    rintro e w' ⟨⟨p, c, rfl, h⟩, hB⟩
    refine ⟨?_, hB⟩
    rcases h with ⟨h, rfl⟩ | ⟨h, rfl, rfl⟩ <;> (unfold lastOf at h; simp [askR, hm, h, askV])
/-! ### seq -/
def phi_seq (n : Int) : Pt → Bool := fun p => decide (p.seq = n)
set_option maxHeartbeats 400000 in
theorem fits_seq (n : Int) (p : Pt) (cb : Nat) (w : World) (hc : w.cell? ⟨cb, 0, none⟩ = some (.int .i64 n)) (hcb : cb < w.heap.size) :
    Calls Try.prog 56 #[.agg #[.int .i64 p.seq, .float .f64 p.st, .string p.mark], .pointer (some ⟨cb, 0, none⟩)] w fun e w' => e = .returned (.bool (phi_seq n p)) ∧ w' = w.alloc (ptObj p) := by
  unfold phi_seq
  go_enter Try.func56, Try.ntmps56
  go_wp2
  go_ret
  exact ⟨rfl, rfl⟩

set_option maxRecDepth 100000 in
set_option maxHeartbeats 4000000 in
theorem last_seq (n : Int) (cb : Nat) (a : Option Addr) (cap : Nat) (L : List Pt) (w : World) (hI : SlP w (.slice a L.length cap) L) (hn : L.length < 9223372036854775807) (hc : w.cell? ⟨cb, 0, none⟩ = some (.int .i64 n)) (hcb : cb < w.heap.size) (hm : MayP L) :
    Calls Try.prog 50 #[.slice a L.length cap, .func (.func 56) #[] #[.pointer (some ⟨cb, 0, none⟩)]] w fun e w' =>
      (∃ p c, e = .returned (.tuple #[.agg #[.int .i64 p.seq, .float .f64 p.st, .string p.mark], .int .i64 c]) ∧ ((lastOf (phi_seq n) L = some p ∧ c = 0) ∨ (lastOf (phi_seq n) L = none ∧ p = ptZero ∧ c = 14))) ∧ Below w.heap.size w w' := by
  have hmay : mayB L = true := mayB_true.2 hm
  have HM := Lib.hid hm
  clear hm
  refine (callsIn_wide (n := 5)).1 ?_
  have hro : Fence.wide.round = none := rfl
  have h1 : 1 ≤ 5 := by omega
  refine callsIn_of_wp_marks Try.func50 rfl trivial ?_ hro
  simp only [Try.ntmps50, List.size_toArray, List.length_cons, List.length_nil, Nat.reduceAdd, Nat.reduceSub, Array.replicate_succ, Array.replicate_zero, List.push_toArray, List.append_toArray, List.nil_append, List.cons_append]
  gi_wp2_with (first | (refine ⟨trivial, ?_⟩; gi_at_call 22; refine (callsIn_wide.2 (pmay_sl _ _ _ _ (hI.below ((((Below.refl _ w).alloc (Nat.le_refl _) _).alloc (by simp) _).alloc (by simp; omega) _)) hn)).mono ?_; rintro e w1 ⟨rfl, hB1⟩; rw [hmay]) | (refine ⟨trivial, ?_⟩; gi_at_call 62; refine (back_in Fence.wide (5 - 1) trivial hro _ _ _ _).mono ?_; rintro e w' ⟨rfl, rfl⟩))
  have hBA : Below w.heap.size w w1 := ((((Below.refl _ w).alloc (Nat.le_refl _) _).alloc (by simp) _).alloc (by simp; omega) _).trans (hB1.mono (by simp; omega))
  have hS0 : w1.heap[w.heap.size]? = some (.cells #[.func (.func 56) #[] #[.pointer (some ⟨cb, 0, none⟩)]] 72) := (hB1.block _ (by simp; omega)).trans ((Below.heap_alloc _ _ _ (by simp; omega)).trans ((Below.heap_alloc _ _ _ (by simp)).trans (World.alloc_heap_new w _)))
  have hS1 : w1.heap[w.heap.size + 1]? = some (ptObj ptZero) := (hB1.block _ (by simp)).trans ((Below.heap_alloc _ _ _ (by simp)).trans (by have := World.alloc_heap_new (w.alloc (.cells #[.func (.func 56) #[] #[.pointer (some ⟨cb, 0, none⟩)]] 72)) (ptObj ptZero); rwa [World.size_alloc] at this))
  have hS2 : Boxed w1 (w.heap.size + 2) 28 (.int .i64 0) := (hB1.block _ (by simp)).trans (by have := World.alloc_heap_new ((w.alloc (.cells #[.func (.func 56) #[] #[.pointer (some ⟨cb, 0, none⟩)]] 72)).alloc (ptObj ptZero)) (.cells #[.int .i64 0] 28); rwa [World.size_alloc, World.size_alloc] at this)
  have hw1 : w.heap.size + 3 ≤ w1.heap.size := by have := hB1.size; simp at this; omega
  clear hB1
  have hBox := Boxed.new w1 22 (.slice a L.length cap)
  obtain ⟨W0, hW0⟩ : ∃ W0, w1.alloc (.cells #[.slice a L.length cap] 22) = W0 := ⟨_, rfl⟩
  have hg := World.grownBy_alloc w1 (.cells #[.slice a L.length cap] 22) none
  have hB0 := hBA.alloc hBA.size (.cells #[.slice a L.length cap] 22)
  rw [hW0] at hBox hg hB0 ⊢
  have hT0 : W0.heap[w.heap.size]? = some (.cells #[.func (.func 56) #[] #[.pointer (some ⟨cb, 0, none⟩)]] 72) := (hg.block _ (by omega) (by simp)).trans hS0
  have hT1 : W0.heap[w.heap.size + 1]? = some (ptObj ptZero) := (hg.block _ (by omega) (by simp)).trans hS1
  have hT2 : Boxed W0 (w.heap.size + 2) 28 (.int .i64 0) := (hg.block _ (by omega) (by simp)).trans hS2
  have hsz : W0.heap.size = w1.heap.size + 1 := by rw [← hW0]; simp
  clear hW0 hg hS0 hS1 hS2
  refine wpIn_rangeFunc_ownH hro h1 (gf := 65) (lb := #[.pointer (some ⟨w1.heap.size, 0, none⟩)]) rfl trivial (enters_of Try.func65 (by kernel_rfl) rfl)
    (back_stops Fence.wide (5 - 1) trivial hro (by omega) w1.heap.size _ L hn W0 (by omega) hBox.cell (hI.below hB0)) belowK_t (belowK_b (Nat.le_refl _)) (Below.refl _ _) (fun _ => rfl)
    (fun pre W => Below W0.heap.size W0 W ∧ (∀ y ∈ pre, phi_seq n y.2 = false))
    (fun c pre W => (∃ ini x, pre = ini ++ [x] ∧ (∀ y ∈ ini, phi_seq n y.2 = false) ∧ phi_seq n x.2 = true ∧ W.heap[w.heap.size + 1]? = some (ptObj x.2)) ∧ Boxed W (w.heap.size + 2) 28 (.int .i64 0) ∧ Below w.heap.size w W ∧ c = .ret)
    (OwnFrom.and (ownFrom_below (Nat.le_refl _) (Nat.le_refl _)) (fun _ _ _ _ hs _ _ => hs))
    (fun c => OwnFrom.and (fun s A B row hs hg hr => by obtain ⟨ini, x, e1, e2, e3, e4⟩ := hs; exact ⟨ini, x, e1, e2, e3, cells_own _ (fun _ => _) (fun _ => rfl) () A B row e4 hg (fun r e => (hr r e).2)⟩) (OwnFrom.and (Own.from (cells_own _ (fun _ => _) (fun _ => rfl)) _) (OwnFrom.and (ownFrom_below (Nat.le_refl _) (by omega)) (fun _ _ _ _ hs _ _ => hs))))
    ⟨Below.refl _ _, by simp⟩
    (fun x a' W => ∃ Bx, w.heap.size + 2 < Bx ∧ W.heap[Bx]? = some (ptObj x.2) ∧ a' = { tmps := #[.slice a L.length cap, .func (.func 56) #[] #[.pointer (some ⟨cb, 0, none⟩)], undef, .pointer (some ⟨w.heap.size, 0, none⟩), .pointer (some ⟨w.heap.size + 1, 0, none⟩), .pointer (some ⟨w.heap.size + 1 + 1, 0, none⟩), undef, .pointer (some ⟨Bx, 0, none⟩), .slice a L.length cap, .bool true, .bool false, undef, .slice a L.length cap, .func (.func 65) #[] #[.pointer (some ⟨w1.heap.size, 0, none⟩)], .int .i64 x.1, .agg #[.int .i64 x.2.seq, .float .f64 x.2.st, .string x.2.mark], undef, undef, undef, undef, undef], defers := [] })
    (fun x a' _ X Y row hs hg hr => by obtain ⟨Bx, h1, h2, h3⟩ := hs; exact ⟨Bx, h1, cells_own Bx (fun (_ : Unit) => ptObj x.2) (fun _ => rfl) () X Y row h2 hg (fun r e => (hr r e).2), h3⟩)
    ?assign ?body ?done ?stop
  case assign =>
    rintro l pre x W K ⟨hB, hall⟩ hK
    dsimp only [encP]
    gi_wp2
    exact hK _ _ ((KeepsOthers.alloc _ _).from _) ((Below.refl _ W).alloc hB.size _) ⟨hB.alloc hB.size _, hall⟩ ⟨W.heap.size, by have := hB.size; omega, World.alloc_heap_new W _, rfl⟩
  case body =>
    rintro l pre x a' W hl ⟨r, hr⟩ ⟨hB, hall⟩ ⟨Bx, hBx, hX, rfl⟩ hlt
    have h0 := (hB.block _ (by omega)).trans hT0
    have h1 := (hB.block _ (by omega)).trans hT1
    have h2 : Boxed W _ _ _ := (hB.block _ (by omega)).trans hT2
    have hsW := hB.size
    obtain ⟨x0, x1, x2, x3⟩ := pt_cells hX
    have hBxl : Bx < W.heap.size := (Array.getElem?_eq_some_iff.1 hX).1
    have hf := cells_one h0
    obtain ⟨r0, r1, r2, r3⟩ := pt_cells h1
    have f2 := h2.frozen
    have hc' : W.cell? ⟨cb, 0, none⟩ = some (.int .i64 n) := (hB.cell (p := ⟨cb, 0, none⟩) (show cb < W0.heap.size by omega)).trans ((hB0.cell (p := ⟨cb, 0, none⟩) hcb).trans hc)
    have hcb' : cb < W.heap.size := by omega
    obtain ⟨X, hXe⟩ : ∃ X, X = W.alloc (ptObj x.2) := ⟨_, rfl⟩
    have hBX : Below W.heap.size W X := by rw [hXe]; exact (Below.refl _ W).alloc (Nat.le_refl _) _
    have h1' := (hBX.block (w.heap.size + 1) (by omega)).trans h1
    have h2' : Boxed X _ _ _ := (hBX.block (w.heap.size + 2) (by omega)).trans h2
    obtain ⟨y0, y1, y2, y3⟩ := pt_cells ((hBX.block Bx hBxl).trans hX)
    obtain ⟨a0, _, _, a3⟩ := three_cells h1'
    obtain ⟨_, b1, _, b3⟩ := three_cells (three_set h1' (.int .i64 x.2.seq)).1
    obtain ⟨_, _, c2, c3⟩ := three_cells (three_set (three_set h1' (.int .i64 x.2.seq)).1 (.float .f64 x.2.st)).2.1
    have hst2 : Boxed (stPt X (w.heap.size + 1) x.2) _ _ _ := (stPt_other _ _ _ (by omega)).trans h2'
    have d2 := hst2.cell
    have d3 := hst2.frozen
    unfold stPt at d2 d3
    have a3 := a3 0
    have b3 := b3 1
    have c3 := c3 2
    have HX := Lib.hid hXe
    clear r0 r1 r2 r3 f2 x3 y3 hXe hX
    gi_wp2_with (refine ⟨trivial, ?_⟩; gi_at_call 56; refine (CallsIn.inRound l (callsIn_wide.2 (fits_seq n x.2 cb W hc' hcb'))).mono ?_; rintro e w' ⟨rfl, rfl⟩; rw [← HX.out])
    · have hx : phi_seq n x.2 = true := by assumption
      have hbw := ((hB0.trans (hB.mono (by omega))).trans (hBX.mono (by omega)))
      exact ⟨((((((KeepsFrom.refl _ _).trans (by rw [HX.out]; exact (KeepsOthers.alloc _ _).from _)).trans ((KeepsOthers.setCell _ _ _).from _)).trans ((KeepsOthers.setCell _ _ _).from _)).trans ((KeepsOthers.setCell _ _ _).from _)).trans ((KeepsOthers.setCell _ _ _).from _)),
        ⟨pre, x, rfl, hall, hx, (Below.heap_setCell _ _ _ _ (by simp)).trans (stPt_heap h1' x.2)⟩, hst2.set _, (((hbw.setCell (p := ⟨w.heap.size + 1, 0, none⟩) (by simp) _).setCell (p := ⟨w.heap.size + 1, 1, none⟩) (by simp) _).setCell (p := ⟨w.heap.size + 1, 2, none⟩) (by simp) _).setCell (p := ⟨w.heap.size + 1 + 1, 0, none⟩) (by simp; omega) _, rfl⟩
    · have hx : phi_seq n x.2 = false := by assumption
      exact ⟨(by rw [HX.out]; exact (KeepsOthers.alloc _ _).from _), hBX.mono hsW, hB.trans (hBX.mono hsW), fun p hp' => (List.mem_append.1 hp').elim (hall p) (fun e => by simp at e; subst e; exact hx)⟩
  case done =>
    rintro D ys W hD hys ⟨hB, hall⟩ hK
    have h1 := (hB.block _ (by omega)).trans hT1
    have h2 : Boxed W _ _ _ := (hB.block _ (by omega)).trans hT2
    have hsW := hB.size
    obtain ⟨a0, _, _, a3⟩ := three_cells h1
    obtain ⟨_, b1, _, b3⟩ := three_cells (three_set h1 (.int .i64 ptZero.seq)).1
    obtain ⟨_, _, c2, c3⟩ := three_cells (three_set (three_set h1 (.int .i64 ptZero.seq)).1 (.float .f64 ptZero.st)).2.1
    have hst1 := stPt_heap h1 ptZero
    have hst2 : Boxed (stPt W (w.heap.size + 1) ptZero) _ _ _ := (stPt_other _ _ _ (by omega)).trans h2
    have hD1 : D ≠ w.heap.size + 1 := by omega
    have hD2 : D ≠ w.heap.size + 2 := by omega
    have HstD := Lib.hid ((stPt_other W (w.heap.size + 1) ptZero hD1).trans hK)
    have d2 := hst2.cell
    have d3 := hst2.frozen
    unfold stPt ptZero at d2 d3
    dsimp only [ptZero] at a0 b1 b3 c2 c3
    have a3 := a3 0
    have b3 := b3 1
    have c3 := c3 2
    gi_wp2
    have h1z := (Below.heap_setCell (stPt W (w.heap.size + 1) ptZero) ⟨w.heap.size + 1 + 1, 0, none⟩ (.int .i64 14) (w.heap.size + 1) (by simp)).trans hst1
    have h2z := hst2.set (.int .i64 14)
    have hKz := (Below.heap_setCell (stPt W (w.heap.size + 1) ptZero) ⟨w.heap.size + 1 + 1, 0, none⟩ (.int .i64 14) D (by simp; omega)).trans HstD.out
    have hBz := ((((hB0.trans (hB.mono (by omega))).setCell (p := ⟨w.heap.size + 1, 0, none⟩) (by simp) (.int .i64 0)).setCell (p := ⟨w.heap.size + 1, 1, none⟩) (by simp) (.float .f64 0)).setCell (p := ⟨w.heap.size + 1, 2, none⟩) (by simp) (.string ⟨#[]⟩)).setCell (p := ⟨w.heap.size + 1 + 1, 0, none⟩) (by simp; omega) (.int .i64 14)
    have g1 := cells_own _ (fun (_ : Unit) => ptObj ptZero) (fun _ => rfl) () _ _ _ h1z (grownBy_putObj' _ D (.deferred none)) (fun r e => by cases e; exact ⟨_, hKz, rfl⟩)
    have g2 : Boxed _ _ _ _ := cells_own _ (fun (_ : Unit) => Obj.cells #[Value.int .i64 14] 28) (fun _ => rfl) () _ _ _ h2z (grownBy_putObj' _ D (.deferred none)) (fun r e => by cases e; exact ⟨_, hKz, rfl⟩)
    obtain ⟨u0, u1, u2, _⟩ := three_cells g1
    have u3 := g2.cell
    refine ⟨by simp, .inl ⟨_, _, rfl, run_takeDeferred hKz, ?_⟩⟩
    refine ⟨.tuple #[.agg #[.int .i64 (ptZero).seq, .float .f64 (ptZero).st, .string (ptZero).mark], .int .i64 14], ?_, ⟨ptZero, 14, rfl, .inr ⟨lastOf_none fun y hy => hall y (by rw [hys]; exact hy), rfl, rfl⟩⟩, hBz.trans (belowK_b (w := w) (Nat.le_refl _) _ D _ _ (by omega) hKz rfl rfl)⟩
    simp only [stPt, ptZero] at u0 u1 u2 u3
    simp [results, Try.f50, go_sem, u0, u1, u2, u3, ptZero]
  case stop =>
    rintro D c pre W hD ⟨k, hk, rfl⟩ ⟨⟨ini, x, e1, e2, e3, h1⟩, h2, hB, rfl⟩ hK
    gi_wp2
    have g1 := cells_own _ (fun (_ : Unit) => ptObj x.2) (fun _ => rfl) () _ _ _ h1 (grownBy_putObj' _ D (.deferred none)) (fun r e => by cases e; exact ⟨_, hK, rfl⟩)
    have g2 : Boxed _ _ _ _ := cells_own _ (fun (_ : Unit) => Obj.cells #[Value.int .i64 0] 28) (fun _ => rfl) () _ _ _ h2 (grownBy_putObj' _ D (.deferred none)) (fun r e => by cases e; exact ⟨_, hK, rfl⟩)
    obtain ⟨u0, u1, u2, _⟩ := three_cells g1
    have u3 := g2.cell
    refine ⟨by simp, .inl ⟨_, _, rfl, run_takeDeferred hK, ?_⟩⟩
    refine ⟨.tuple #[.agg #[.int .i64 (x.2).seq, .float .f64 (x.2).st, .string (x.2).mark], .int .i64 0], ?_, ⟨x.2, 0, rfl, .inl ⟨lastOf_some hk e1 e2 e3, rfl⟩⟩, hB.trans (belowK_b (w := w) (Nat.le_refl _) _ D _ _ (by omega) hK rfl rfl)⟩
    simp [results, Try.f50, go_sem, u0, u1, u2, u3]

set_option maxRecDepth 100000 in
set_option maxHeartbeats 2000000 in
theorem lastbad_seq (cb : Nat) (a : Option Addr) (cap : Nat) (L : List Pt) (w : World) (hI : SlP w (.slice a L.length cap) L) (hn : L.length < 9223372036854775807) (hmay : mayB L = false) :
    Calls Try.prog 50 #[.slice a L.length cap, .func (.func 56) #[] #[.pointer (some ⟨cb, 0, none⟩)]] w fun e w' =>
      e = .returned (.tuple #[.agg #[.int .i64 0, .float .f64 0, .string ⟨#[]⟩], .int .i64 1]) ∧ Below w.heap.size w w' := by
  go_enter Try.func50, Try.ntmps50
  go_wp2_with
     (go_at_call 22; refine (pmay_sl _ _ _ _ (hI.below ((((Below.refl _ w).alloc (Nat.le_refl _) _).alloc (by simp) _).alloc (by simp; omega) _)) hn).mono ?_; rintro e w1 ⟨rfl, hB1⟩; rw [hmay]
      have hBA : Below w.heap.size w w1 := ((((Below.refl _ w).alloc (Nat.le_refl _) _).alloc (by simp) _).alloc (by simp; omega) _).trans (hB1.mono (by simp; omega))
      have hS1 : w1.heap[w.heap.size + 1]? = some (ptObj ptZero) := (hB1.block _ (by simp)).trans ((Below.heap_alloc _ _ _ (by simp)).trans (by have := World.alloc_heap_new (w.alloc (.cells #[.func (.func 56) #[] #[.pointer (some ⟨cb, 0, none⟩)]] 72)) (ptObj ptZero); rwa [World.size_alloc] at this))
      have hS2 : Boxed w1 (w.heap.size + 2) 28 (.int .i64 0) := (hB1.block _ (by simp)).trans (by have := World.alloc_heap_new ((w.alloc (.cells #[.func (.func 56) #[] #[.pointer (some ⟨cb, 0, none⟩)]] 72)).alloc (ptObj ptZero)) (.cells #[.int .i64 0] 28); rwa [World.size_alloc, World.size_alloc] at this)
      obtain ⟨⟨a0, a1⟩, ⟨b0, b1⟩, ⟨c0, c1⟩, d0, d1⟩ := zfacts hS1 hS2
      have hz := zend (c := 1) (n := w.heap.size) hS1 hS2 (by omega)
      obtain ⟨⟨u0, u1, u2⟩, u3, hBz⟩ := hz
      have hBw := Lib.hid (hBz hBA)
      clear hS1 hS2 hB1 hBA hBz)
  refine bodyPost_ret (v := .tuple #[.agg #[.int .i64 0, .float .f64 0, .string ⟨#[]⟩], .int .i64 1]) (by simp [results, Try.f50, go_sem, u0, u1, u2, u3]) rfl ⟨rfl, hBw.out⟩
theorem lastq_seq (n : Int) (cb : Nat) (a : Option Addr) (cap : Nat) (L : List Pt) (w : World) (hI : SlP w (.slice a L.length cap) L) (hn : L.length < 9223372036854775807) (hc : w.cell? ⟨cb, 0, none⟩ = some (.int .i64 n)) (hcb : cb < w.heap.size) :
    Calls Try.prog 50 #[.slice a L.length cap, .func (.func 56) #[] #[.pointer (some ⟨cb, 0, none⟩)]] w fun e w' => e = .returned (askV (askR (phi_seq n) L)) ∧ Below w.heap.size w w' := by
  cases hm : mayB L
  · refine (lastbad_seq cb a cap L w hI hn hm).mono ?_
    rintro e w' ⟨rfl, hB⟩
    exact ⟨by simp [askR, hm, askV, ptZero], hB⟩
  · refine (last_seq n cb a cap L w hI hn hc hcb (mayB_true.1 hm)).mono ?_
    rintro e w' ⟨⟨p, c, rfl, h⟩, hB⟩
    refine ⟨?_, hB⟩
    rcases h with ⟨h, rfl⟩ | ⟨h, rfl, rfl⟩ <;> (unfold lastOf at h; simp [askR, hm, h, askV])
/-! ### mark -/
def phi_mark (s : ByteArray) : Pt → Bool := fun p => !s.toList.isEmpty && (p.mark.toList == s.toList)
set_option maxHeartbeats 400000 in
theorem fits_mark (s : ByteArray) (p : Pt) (cb : Nat) (w : World) (hc : w.cell? ⟨cb, 0, none⟩ = some (.string s)) (hcb : cb < w.heap.size) :
    Calls Try.prog 57 #[.agg #[.int .i64 p.seq, .float .f64 p.st, .string p.mark], .pointer (some ⟨cb, 0, none⟩)] w fun e w' => e = .returned (.bool (phi_mark s p)) ∧ w' = w.alloc (ptObj p) := by
  unfold phi_mark
  cases h1 : s.toList.isEmpty
  · cases h2 : (p.mark.toList == s.toList)
    all_goals
      go_enter Try.func57, Try.ntmps57
      go_wp2
      go_ret
      exact ⟨rfl, rfl⟩
  · go_enter Try.func57, Try.ntmps57
    go_wp2
    go_ret
    exact ⟨rfl, rfl⟩

set_option maxRecDepth 100000 in
set_option maxHeartbeats 4000000 in
theorem last_mark (s : ByteArray) (cb : Nat) (a : Option Addr) (cap : Nat) (L : List Pt) (w : World) (hI : SlP w (.slice a L.length cap) L) (hn : L.length < 9223372036854775807) (hc : w.cell? ⟨cb, 0, none⟩ = some (.string s)) (hcb : cb < w.heap.size) (hm : MayP L) :
    Calls Try.prog 50 #[.slice a L.length cap, .func (.func 57) #[] #[.pointer (some ⟨cb, 0, none⟩)]] w fun e w' =>
      (∃ p c, e = .returned (.tuple #[.agg #[.int .i64 p.seq, .float .f64 p.st, .string p.mark], .int .i64 c]) ∧ ((lastOf (phi_mark s) L = some p ∧ c = 0) ∨ (lastOf (phi_mark s) L = none ∧ p = ptZero ∧ c = 14))) ∧ Below w.heap.size w w' := by
  have hmay : mayB L = true := mayB_true.2 hm
  have HM := Lib.hid hm
  clear hm
  refine (callsIn_wide (n := 5)).1 ?_
  have hro : Fence.wide.round = none := rfl
  have h1 : 1 ≤ 5 := by omega
  refine callsIn_of_wp_marks Try.func50 rfl trivial ?_ hro
  simp only [Try.ntmps50, List.size_toArray, List.length_cons, List.length_nil, Nat.reduceAdd, Nat.reduceSub, Array.replicate_succ, Array.replicate_zero, List.push_toArray, List.append_toArray, List.nil_append, List.cons_append]
  gi_wp2_with (first | (refine ⟨trivial, ?_⟩; gi_at_call 22; refine (callsIn_wide.2 (pmay_sl _ _ _ _ (hI.below ((((Below.refl _ w).alloc (Nat.le_refl _) _).alloc (by simp) _).alloc (by simp; omega) _)) hn)).mono ?_; rintro e w1 ⟨rfl, hB1⟩; rw [hmay]) | (refine ⟨trivial, ?_⟩; gi_at_call 62; refine (back_in Fence.wide (5 - 1) trivial hro _ _ _ _).mono ?_; rintro e w' ⟨rfl, rfl⟩))
  have hBA : Below w.heap.size w w1 := ((((Below.refl _ w).alloc (Nat.le_refl _) _).alloc (by simp) _).alloc (by simp; omega) _).trans (hB1.mono (by simp; omega))
  have hS0 : w1.heap[w.heap.size]? = some (.cells #[.func (.func 57) #[] #[.pointer (some ⟨cb, 0, none⟩)]] 72) := (hB1.block _ (by simp; omega)).trans ((Below.heap_alloc _ _ _ (by simp; omega)).trans ((Below.heap_alloc _ _ _ (by simp)).trans (World.alloc_heap_new w _)))
  have hS1 : w1.heap[w.heap.size + 1]? = some (ptObj ptZero) := (hB1.block _ (by simp)).trans ((Below.heap_alloc _ _ _ (by simp)).trans (by have := World.alloc_heap_new (w.alloc (.cells #[.func (.func 57) #[] #[.pointer (some ⟨cb, 0, none⟩)]] 72)) (ptObj ptZero); rwa [World.size_alloc] at this))
  have hS2 : Boxed w1 (w.heap.size + 2) 28 (.int .i64 0) := (hB1.block _ (by simp)).trans (by have := World.alloc_heap_new ((w.alloc (.cells #[.func (.func 57) #[] #[.pointer (some ⟨cb, 0, none⟩)]] 72)).alloc (ptObj ptZero)) (.cells #[.int .i64 0] 28); rwa [World.size_alloc, World.size_alloc] at this)
  have hw1 : w.heap.size + 3 ≤ w1.heap.size := by have := hB1.size; simp at this; omega
  clear hB1
  have hBox := Boxed.new w1 22 (.slice a L.length cap)
  obtain ⟨W0, hW0⟩ : ∃ W0, w1.alloc (.cells #[.slice a L.length cap] 22) = W0 := ⟨_, rfl⟩
  have hg := World.grownBy_alloc w1 (.cells #[.slice a L.length cap] 22) none
  have hB0 := hBA.alloc hBA.size (.cells #[.slice a L.length cap] 22)
  rw [hW0] at hBox hg hB0 ⊢
  have hT0 : W0.heap[w.heap.size]? = some (.cells #[.func (.func 57) #[] #[.pointer (some ⟨cb, 0, none⟩)]] 72) := (hg.block _ (by omega) (by simp)).trans hS0
  have hT1 : W0.heap[w.heap.size + 1]? = some (ptObj ptZero) := (hg.block _ (by omega) (by simp)).trans hS1
  have hT2 : Boxed W0 (w.heap.size + 2) 28 (.int .i64 0) := (hg.block _ (by omega) (by simp)).trans hS2
  have hsz : W0.heap.size = w1.heap.size + 1 := by rw [← hW0]; simp
  clear hW0 hg hS0 hS1 hS2
  refine wpIn_rangeFunc_ownH hro h1 (gf := 65) (lb := #[.pointer (some ⟨w1.heap.size, 0, none⟩)]) rfl trivial (enters_of Try.func65 (by kernel_rfl) rfl)
    (back_stops Fence.wide (5 - 1) trivial hro (by omega) w1.heap.size _ L hn W0 (by omega) hBox.cell (hI.below hB0)) belowK_t (belowK_b (Nat.le_refl _)) (Below.refl _ _) (fun _ => rfl)
    (fun pre W => Below W0.heap.size W0 W ∧ (∀ y ∈ pre, phi_mark s y.2 = false))
    (fun c pre W => (∃ ini x, pre = ini ++ [x] ∧ (∀ y ∈ ini, phi_mark s y.2 = false) ∧ phi_mark s x.2 = true ∧ W.heap[w.heap.size + 1]? = some (ptObj x.2)) ∧ Boxed W (w.heap.size + 2) 28 (.int .i64 0) ∧ Below w.heap.size w W ∧ c = .ret)
    (OwnFrom.and (ownFrom_below (Nat.le_refl _) (Nat.le_refl _)) (fun _ _ _ _ hs _ _ => hs))
    (fun c => OwnFrom.and (fun s A B row hs hg hr => by obtain ⟨ini, x, e1, e2, e3, e4⟩ := hs; exact ⟨ini, x, e1, e2, e3, cells_own _ (fun _ => _) (fun _ => rfl) () A B row e4 hg (fun r e => (hr r e).2)⟩) (OwnFrom.and (Own.from (cells_own _ (fun _ => _) (fun _ => rfl)) _) (OwnFrom.and (ownFrom_below (Nat.le_refl _) (by omega)) (fun _ _ _ _ hs _ _ => hs))))
    ⟨Below.refl _ _, by simp⟩
    (fun x a' W => ∃ Bx, w.heap.size + 2 < Bx ∧ W.heap[Bx]? = some (ptObj x.2) ∧ a' = { tmps := #[.slice a L.length cap, .func (.func 57) #[] #[.pointer (some ⟨cb, 0, none⟩)], undef, .pointer (some ⟨w.heap.size, 0, none⟩), .pointer (some ⟨w.heap.size + 1, 0, none⟩), .pointer (some ⟨w.heap.size + 1 + 1, 0, none⟩), undef, .pointer (some ⟨Bx, 0, none⟩), .slice a L.length cap, .bool true, .bool false, undef, .slice a L.length cap, .func (.func 65) #[] #[.pointer (some ⟨w1.heap.size, 0, none⟩)], .int .i64 x.1, .agg #[.int .i64 x.2.seq, .float .f64 x.2.st, .string x.2.mark], undef, undef, undef, undef, undef], defers := [] })
    (fun x a' _ X Y row hs hg hr => by obtain ⟨Bx, h1, h2, h3⟩ := hs; exact ⟨Bx, h1, cells_own Bx (fun (_ : Unit) => ptObj x.2) (fun _ => rfl) () X Y row h2 hg (fun r e => (hr r e).2), h3⟩)
    ?assign ?body ?done ?stop
  case assign =>
    rintro l pre x W K ⟨hB, hall⟩ hK
    dsimp only [encP]
    gi_wp2
    exact hK _ _ ((KeepsOthers.alloc _ _).from _) ((Below.refl _ W).alloc hB.size _) ⟨hB.alloc hB.size _, hall⟩ ⟨W.heap.size, by have := hB.size; omega, World.alloc_heap_new W _, rfl⟩
  case body =>
    rintro l pre x a' W hl ⟨r, hr⟩ ⟨hB, hall⟩ ⟨Bx, hBx, hX, rfl⟩ hlt
    have h0 := (hB.block _ (by omega)).trans hT0
    have h1 := (hB.block _ (by omega)).trans hT1
    have h2 : Boxed W _ _ _ := (hB.block _ (by omega)).trans hT2
    have hsW := hB.size
    obtain ⟨x0, x1, x2, x3⟩ := pt_cells hX
    have hBxl : Bx < W.heap.size := (Array.getElem?_eq_some_iff.1 hX).1
    have hf := cells_one h0
    obtain ⟨r0, r1, r2, r3⟩ := pt_cells h1
    have f2 := h2.frozen
    have hc' : W.cell? ⟨cb, 0, none⟩ = some (.string s) := (hB.cell (p := ⟨cb, 0, none⟩) (show cb < W0.heap.size by omega)).trans ((hB0.cell (p := ⟨cb, 0, none⟩) hcb).trans hc)
    have hcb' : cb < W.heap.size := by omega
    obtain ⟨X, hXe⟩ : ∃ X, X = W.alloc (ptObj x.2) := ⟨_, rfl⟩
    have hBX : Below W.heap.size W X := by rw [hXe]; exact (Below.refl _ W).alloc (Nat.le_refl _) _
    have h1' := (hBX.block (w.heap.size + 1) (by omega)).trans h1
    have h2' : Boxed X _ _ _ := (hBX.block (w.heap.size + 2) (by omega)).trans h2
    obtain ⟨y0, y1, y2, y3⟩ := pt_cells ((hBX.block Bx hBxl).trans hX)
    obtain ⟨a0, _, _, a3⟩ := three_cells h1'
    obtain ⟨_, b1, _, b3⟩ := three_cells (three_set h1' (.int .i64 x.2.seq)).1
    obtain ⟨_, _, c2, c3⟩ := three_cells (three_set (three_set h1' (.int .i64 x.2.seq)).1 (.float .f64 x.2.st)).2.1
    have hst2 : Boxed (stPt X (w.heap.size + 1) x.2) _ _ _ := (stPt_other _ _ _ (by omega)).trans h2'
    have d2 := hst2.cell
    have d3 := hst2.frozen
    unfold stPt at d2 d3
    have a3 := a3 0
    have b3 := b3 1
    have c3 := c3 2
    have HX := Lib.hid hXe
    clear r0 r1 r2 r3 f2 x3 y3 hXe hX
    gi_wp2_with (refine ⟨trivial, ?_⟩; gi_at_call 57; refine (CallsIn.inRound l (callsIn_wide.2 (fits_mark s x.2 cb W hc' hcb'))).mono ?_; rintro e w' ⟨rfl, rfl⟩; rw [← HX.out])
    · have hx : phi_mark s x.2 = true := by assumption
      have hbw := ((hB0.trans (hB.mono (by omega))).trans (hBX.mono (by omega)))
      exact ⟨((((((KeepsFrom.refl _ _).trans (by rw [HX.out]; exact (KeepsOthers.alloc _ _).from _)).trans ((KeepsOthers.setCell _ _ _).from _)).trans ((KeepsOthers.setCell _ _ _).from _)).trans ((KeepsOthers.setCell _ _ _).from _)).trans ((KeepsOthers.setCell _ _ _).from _)),
        ⟨pre, x, rfl, hall, hx, (Below.heap_setCell _ _ _ _ (by simp)).trans (stPt_heap h1' x.2)⟩, hst2.set _, (((hbw.setCell (p := ⟨w.heap.size + 1, 0, none⟩) (by simp) _).setCell (p := ⟨w.heap.size + 1, 1, none⟩) (by simp) _).setCell (p := ⟨w.heap.size + 1, 2, none⟩) (by simp) _).setCell (p := ⟨w.heap.size + 1 + 1, 0, none⟩) (by simp; omega) _, rfl⟩
    · have hx : phi_mark s x.2 = false := by assumption
      exact ⟨(by rw [HX.out]; exact (KeepsOthers.alloc _ _).from _), hBX.mono hsW, hB.trans (hBX.mono hsW), fun p hp' => (List.mem_append.1 hp').elim (hall p) (fun e => by simp at e; subst e; exact hx)⟩
  case done =>
    rintro D ys W hD hys ⟨hB, hall⟩ hK
    have h1 := (hB.block _ (by omega)).trans hT1
    have h2 : Boxed W _ _ _ := (hB.block _ (by omega)).trans hT2
    have hsW := hB.size
    obtain ⟨a0, _, _, a3⟩ := three_cells h1
    obtain ⟨_, b1, _, b3⟩ := three_cells (three_set h1 (.int .i64 ptZero.seq)).1
    obtain ⟨_, _, c2, c3⟩ := three_cells (three_set (three_set h1 (.int .i64 ptZero.seq)).1 (.float .f64 ptZero.st)).2.1
    have hst1 := stPt_heap h1 ptZero
    have hst2 : Boxed (stPt W (w.heap.size + 1) ptZero) _ _ _ := (stPt_other _ _ _ (by omega)).trans h2
    have hD1 : D ≠ w.heap.size + 1 := by omega
    have hD2 : D ≠ w.heap.size + 2 := by omega
    have HstD := Lib.hid ((stPt_other W (w.heap.size + 1) ptZero hD1).trans hK)
    have d2 := hst2.cell
    have d3 := hst2.frozen
    unfold stPt ptZero at d2 d3
    dsimp only [ptZero] at a0 b1 b3 c2 c3
    have a3 := a3 0
    have b3 := b3 1
    have c3 := c3 2
    gi_wp2
    have h1z := (Below.heap_setCell (stPt W (w.heap.size + 1) ptZero) ⟨w.heap.size + 1 + 1, 0, none⟩ (.int .i64 14) (w.heap.size + 1) (by simp)).trans hst1
    have h2z := hst2.set (.int .i64 14)
    have hKz := (Below.heap_setCell (stPt W (w.heap.size + 1) ptZero) ⟨w.heap.size + 1 + 1, 0, none⟩ (.int .i64 14) D (by simp; omega)).trans HstD.out
    have hBz := ((((hB0.trans (hB.mono (by omega))).setCell (p := ⟨w.heap.size + 1, 0, none⟩) (by simp) (.int .i64 0)).setCell (p := ⟨w.heap.size + 1, 1, none⟩) (by simp) (.float .f64 0)).setCell (p := ⟨w.heap.size + 1, 2, none⟩) (by simp) (.string ⟨#[]⟩)).setCell (p := ⟨w.heap.size + 1 + 1, 0, none⟩) (by simp; omega) (.int .i64 14)
    have g1 := cells_own _ (fun (_ : Unit) => ptObj ptZero) (fun _ => rfl) () _ _ _ h1z (grownBy_putObj' _ D (.deferred none)) (fun r e => by cases e; exact ⟨_, hKz, rfl⟩)
    have g2 : Boxed _ _ _ _ := cells_own _ (fun (_ : Unit) => Obj.cells #[Value.int .i64 14] 28) (fun _ => rfl) () _ _ _ h2z (grownBy_putObj' _ D (.deferred none)) (fun r e => by cases e; exact ⟨_, hKz, rfl⟩)
    obtain ⟨u0, u1, u2, _⟩ := three_cells g1
    have u3 := g2.cell
    refine ⟨by simp, .inl ⟨_, _, rfl, run_takeDeferred hKz, ?_⟩⟩
    refine ⟨.tuple #[.agg #[.int .i64 (ptZero).seq, .float .f64 (ptZero).st, .string (ptZero).mark], .int .i64 14], ?_, ⟨ptZero, 14, rfl, .inr ⟨lastOf_none fun y hy => hall y (by rw [hys]; exact hy), rfl, rfl⟩⟩, hBz.trans (belowK_b (w := w) (Nat.le_refl _) _ D _ _ (by omega) hKz rfl rfl)⟩
    simp only [stPt, ptZero] at u0 u1 u2 u3
    simp [results, Try.f50, go_sem, u0, u1, u2, u3, ptZero]
  case stop =>
    rintro D c pre W hD ⟨k, hk, rfl⟩ ⟨⟨ini, x, e1, e2, e3, h1⟩, h2, hB, rfl⟩ hK
    gi_wp2
    have g1 := cells_own _ (fun (_ : Unit) => ptObj x.2) (fun _ => rfl) () _ _ _ h1 (grownBy_putObj' _ D (.deferred none)) (fun r e => by cases e; exact ⟨_, hK, rfl⟩)
    have g2 : Boxed _ _ _ _ := cells_own _ (fun (_ : Unit) => Obj.cells #[Value.int .i64 0] 28) (fun _ => rfl) () _ _ _ h2 (grownBy_putObj' _ D (.deferred none)) (fun r e => by cases e; exact ⟨_, hK, rfl⟩)
    obtain ⟨u0, u1, u2, _⟩ := three_cells g1
    have u3 := g2.cell
    refine ⟨by simp, .inl ⟨_, _, rfl, run_takeDeferred hK, ?_⟩⟩
    refine ⟨.tuple #[.agg #[.int .i64 (x.2).seq, .float .f64 (x.2).st, .string (x.2).mark], .int .i64 0], ?_, ⟨x.2, 0, rfl, .inl ⟨lastOf_some hk e1 e2 e3, rfl⟩⟩, hB.trans (belowK_b (w := w) (Nat.le_refl _) _ D _ _ (by omega) hK rfl rfl)⟩
    simp [results, Try.f50, go_sem, u0, u1, u2, u3]

set_option maxRecDepth 100000 in
set_option maxHeartbeats 2000000 in
theorem lastbad_mark (cb : Nat) (a : Option Addr) (cap : Nat) (L : List Pt) (w : World) (hI : SlP w (.slice a L.length cap) L) (hn : L.length < 9223372036854775807) (hmay : mayB L = false) :
    Calls Try.prog 50 #[.slice a L.length cap, .func (.func 57) #[] #[.pointer (some ⟨cb, 0, none⟩)]] w fun e w' =>
      e = .returned (.tuple #[.agg #[.int .i64 0, .float .f64 0, .string ⟨#[]⟩], .int .i64 1]) ∧ Below w.heap.size w w' := by
  go_enter Try.func50, Try.ntmps50
  go_wp2_with
     (go_at_call 22; refine (pmay_sl _ _ _ _ (hI.below ((((Below.refl _ w).alloc (Nat.le_refl _) _).alloc (by simp) _).alloc (by simp; omega) _)) hn).mono ?_; rintro e w1 ⟨rfl, hB1⟩; rw [hmay]
      have hBA : Below w.heap.size w w1 := ((((Below.refl _ w).alloc (Nat.le_refl _) _).alloc (by simp) _).alloc (by simp; omega) _).trans (hB1.mono (by simp; omega))
      have hS1 : w1.heap[w.heap.size + 1]? = some (ptObj ptZero) := (hB1.block _ (by simp)).trans ((Below.heap_alloc _ _ _ (by simp)).trans (by have := World.alloc_heap_new (w.alloc (.cells #[.func (.func 57) #[] #[.pointer (some ⟨cb, 0, none⟩)]] 72)) (ptObj ptZero); rwa [World.size_alloc] at this))
      have hS2 : Boxed w1 (w.heap.size + 2) 28 (.int .i64 0) := (hB1.block _ (by simp)).trans (by have := World.alloc_heap_new ((w.alloc (.cells #[.func (.func 57) #[] #[.pointer (some ⟨cb, 0, none⟩)]] 72)).alloc (ptObj ptZero)) (.cells #[.int .i64 0] 28); rwa [World.size_alloc, World.size_alloc] at this)
      obtain ⟨⟨a0, a1⟩, ⟨b0, b1⟩, ⟨c0, c1⟩, d0, d1⟩ := zfacts hS1 hS2
      have hz := zend (c := 1) (n := w.heap.size) hS1 hS2 (by omega)
      obtain ⟨⟨u0, u1, u2⟩, u3, hBz⟩ := hz
      have hBw := Lib.hid (hBz hBA)
      clear hS1 hS2 hB1 hBA hBz)
  refine bodyPost_ret (v := .tuple #[.agg #[.int .i64 0, .float .f64 0, .string ⟨#[]⟩], .int .i64 1]) (by simp [results, Try.f50, go_sem, u0, u1, u2, u3]) rfl ⟨rfl, hBw.out⟩
theorem lastq_mark (s : ByteArray) (cb : Nat) (a : Option Addr) (cap : Nat) (L : List Pt) (w : World) (hI : SlP w (.slice a L.length cap) L) (hn : L.length < 9223372036854775807) (hc : w.cell? ⟨cb, 0, none⟩ = some (.string s)) (hcb : cb < w.heap.size) :
    Calls Try.prog 50 #[.slice a L.length cap, .func (.func 57) #[] #[.pointer (some ⟨cb, 0, none⟩)]] w fun e w' => e = .returned (askV (askR (phi_mark s) L)) ∧ Below w.heap.size w w' := by
  cases hm : mayB L
  · refine (lastbad_mark cb a cap L w hI hn hm).mono ?_
    rintro e w' ⟨rfl, hB⟩
    exact ⟨by simp [askR, hm, askV, ptZero], hB⟩
  · refine (last_mark s cb a cap L w hI hn hc hcb (mayB_true.1 hm)).mono ?_
    rintro e w' ⟨⟨p, c, rfl, h⟩, hB⟩
    refine ⟨?_, hB⟩
    rcases h with ⟨h, rfl⟩ | ⟨h, rfl, rfl⟩ <;> (unfold lastOf at h; simp [askR, hm, h, askV])

set_option maxRecDepth 100000 in
set_option maxHeartbeats 1000000 in
theorem pat_any (t : Nat) (a : Option Addr) (cap : Nat) (L : List Pt) (w : World) (hI : SlP w (.slice a L.length cap) L) (hn : L.length < 9223372036854775807) :
    Calls Try.prog 20 #[.slice a L.length cap, .float .f64 t] w fun e w' => e = .returned (askV (askR (phi_at t) L)) ∧ Below w.heap.size w w' := by
  generalize hq : askR (phi_at t) L = q
  obtain ⟨⟨qs, qt, qm⟩, qc⟩ := q
  go_enter Try.func20, Try.ntmps20
  go_wp2_with
   (go_at_call 50; refine (lastq_at t _ _ _ _ _ (hI.below (((Below.refl _ w).alloc (Nat.le_refl _) _).alloc (by simp) _)) hn (((Boxed.new w 23 (.float .f64 t)).alloc _).cell) (by simp; omega)).mono ?_; rintro e w1 ⟨rfl, hB1⟩; rw [hq]; dsimp only [askV]
    have hS : w1.heap[w.heap.size + 1]? = some (ptObj ptZero) := (hB1.block _ (by simp)).trans (by have := World.alloc_heap_new (w.alloc (.cells #[.float .f64 t] 23)) (ptObj ptZero); rwa [World.size_alloc] at this)
    have hBw := (((Below.refl _ w).alloc (Nat.le_refl _) (.cells #[.float .f64 t] 23)).alloc (by simp) (ptObj ptZero)).trans (hB1.mono (by simp; omega))
    obtain ⟨⟨a0, a1⟩, ⟨b0, b1⟩, c0, c1⟩ := sfacts hS qs qt
    have hz := send (n := w.heap.size) hS (by omega) qs qt qm
    obtain ⟨⟨u0, u1, u2⟩, hBz⟩ := hz
    have hBe := Lib.hid (hBz hBw)
    clear hS hB1 hBw hBz)
  refine bodyPost_ret (v := .tuple #[.agg #[.int .i64 qs, .float .f64 qt, .string qm], .int .i64 qc]) (by simp [results, Try.f20, go_sem, u0, u1, u2]) rfl ⟨rfl, hBe.out⟩

set_option maxRecDepth 100000 in
set_option maxHeartbeats 1000000 in
theorem pseq_any (n : Int) (a : Option Addr) (cap : Nat) (L : List Pt) (w : World) (hI : SlP w (.slice a L.length cap) L) (hn : L.length < 9223372036854775807) :
    Calls Try.prog 28 #[.slice a L.length cap, .int .i64 n] w fun e w' => e = .returned (askV (askR (phi_seq n) L)) ∧ Below w.heap.size w w' := by
  generalize hq : askR (phi_seq n) L = q
  obtain ⟨⟨qs, qt, qm⟩, qc⟩ := q
  go_enter Try.func28, Try.ntmps28
  go_wp2_with
   (go_at_call 50; refine (lastq_seq n _ _ _ _ _ (hI.below (((Below.refl _ w).alloc (Nat.le_refl _) _).alloc (by simp) _)) hn (((Boxed.new w 3 (.int .i64 n)).alloc _).cell) (by simp; omega)).mono ?_; rintro e w1 ⟨rfl, hB1⟩; rw [hq]; dsimp only [askV]
    have hS : w1.heap[w.heap.size + 1]? = some (ptObj ptZero) := (hB1.block _ (by simp)).trans (by have := World.alloc_heap_new (w.alloc (.cells #[.int .i64 n] 3)) (ptObj ptZero); rwa [World.size_alloc] at this)
    have hBw := (((Below.refl _ w).alloc (Nat.le_refl _) (.cells #[.int .i64 n] 3)).alloc (by simp) (ptObj ptZero)).trans (hB1.mono (by simp; omega))
    obtain ⟨⟨a0, a1⟩, ⟨b0, b1⟩, c0, c1⟩ := sfacts hS qs qt
    have hz := send (n := w.heap.size) hS (by omega) qs qt qm
    obtain ⟨⟨u0, u1, u2⟩, hBz⟩ := hz
    have hBe := Lib.hid (hBz hBw)
    clear hS hB1 hBw hBz)
  refine bodyPost_ret (v := .tuple #[.agg #[.int .i64 qs, .float .f64 qt, .string qm], .int .i64 qc]) (by simp [results, Try.f28, go_sem, u0, u1, u2]) rfl ⟨rfl, hBe.out⟩

set_option maxRecDepth 100000 in
set_option maxHeartbeats 1000000 in
theorem pmark_any (s : ByteArray) (a : Option Addr) (cap : Nat) (L : List Pt) (w : World) (hI : SlP w (.slice a L.length cap) L) (hn : L.length < 9223372036854775807) :
    Calls Try.prog 29 #[.slice a L.length cap, .string s] w fun e w' => e = .returned (askV (askR (phi_mark s) L)) ∧ Below w.heap.size w w' := by
  generalize hq : askR (phi_mark s) L = q
  obtain ⟨⟨qs, qt, qm⟩, qc⟩ := q
  go_enter Try.func29, Try.ntmps29
  go_wp2_with
   (go_at_call 50; refine (lastq_mark s _ _ _ _ _ (hI.below (((Below.refl _ w).alloc (Nat.le_refl _) _).alloc (by simp) _)) hn (((Boxed.new w 9 (.string s)).alloc _).cell) (by simp; omega)).mono ?_; rintro e w1 ⟨rfl, hB1⟩; rw [hq]; dsimp only [askV]
    have hS : w1.heap[w.heap.size + 1]? = some (ptObj ptZero) := (hB1.block _ (by simp)).trans (by have := World.alloc_heap_new (w.alloc (.cells #[.string s] 9)) (ptObj ptZero); rwa [World.size_alloc] at this)
    have hBw := (((Below.refl _ w).alloc (Nat.le_refl _) (.cells #[.string s] 9)).alloc (by simp) (ptObj ptZero)).trans (hB1.mono (by simp; omega))
    obtain ⟨⟨a0, a1⟩, ⟨b0, b1⟩, c0, c1⟩ := sfacts hS qs qt
    have hz := send (n := w.heap.size) hS (by omega) qs qt qm
    obtain ⟨⟨u0, u1, u2⟩, hBz⟩ := hz
    have hBe := Lib.hid (hBz hBw)
    clear hS hB1 hBw hBz)
  refine bodyPost_ret (v := .tuple #[.agg #[.int .i64 qs, .float .f64 qt, .string qm], .int .i64 qc]) (by simp [results, Try.f29, go_sem, u0, u1, u2]) rfl ⟨rfl, hBe.out⟩
end Go.Proofs.Ytddnhjpclglclaa
