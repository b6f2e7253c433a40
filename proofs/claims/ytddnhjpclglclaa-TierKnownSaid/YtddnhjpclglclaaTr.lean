/- Tiers: how a []api.Tier reads, what may be, which tier is meant: contracts of tier.May, tier.Of and the document's own. -/
import Derived.Test.YtddnhjpclglclaaSeqL
import Derived.Test.YtddnhjpclglclaaFrame
import Derived.Deep.QuietTactic
import Derived.BigQuiet
namespace Go.Proofs.Ytddnhjpclglclaa
open Go.ChangeShapes Go.WideShapes Go.ChangeAt Go.RowKit Go.Deep Fl
structure Tr where
  age : Nat
  grain : Nat
instance : Inhabited Tr := ⟨⟨0, 0⟩⟩
structure TCell (w : World) (b o : Nat) (p : Tr) : Prop where
  c0 : w.cell? ⟨b, o, none⟩ = some (.float .f64 p.age)
  c1 : w.cell? ⟨b, o + 1, none⟩ = some (.float .f64 p.grain)
structure RdT (w : World) (b o : Nat) (L : List Tr) : Prop where
  at_ : ∀ k, k < L.length → TCell w b (o + k * 2) (L.getD k default)
  lt : b < w.heap.size
  fit : ∀ k, k < L.length → (L.getD k default).age < 18446744073709551616 ∧ (L.getD k default).grain < 18446744073709551616
theorem TCell.below {w w' : World} {b o : Nat} {p : Tr} (h : TCell w b o p) {B : Nat} (hb : Below B w w') (hl : b < B) : TCell w' b o p :=
  ⟨(hb.cell (p := ⟨b, o, none⟩) hl).trans h.c0, (hb.cell (p := ⟨b, o + 1, none⟩) hl).trans h.c1⟩
theorem RdT.below {w w' : World} {b o : Nat} {L : List Tr} (h : RdT w b o L) (hb : Below w.heap.size w w') : RdT w' b o L :=
  ⟨fun k hk => (h.at_ k hk).below hb h.lt, Nat.lt_of_lt_of_le h.lt hb.size, h.fit⟩
def SlT (W : World) (sv : Value) (L : List Tr) : Prop := (∃ a cap, sv = .slice a 0 cap ∧ L = []) ∨ ∃ b off cap, sv = .slice (some ⟨b, off, none⟩) L.length cap ∧ RdT W b off L
theorem SlT.below {W W' : World} {sv : Value} {L : List Tr} (h : SlT W sv L) (hb : Below W.heap.size W W') : SlT W' sv L := by
  rcases h with h | ⟨b, off, cap, e, hr⟩
  · exact .inl h
  · exact .inr ⟨b, off, cap, e, hr.below hb⟩
theorem SlT.rd {W : World} {a : Option Addr} {L : List Tr} {cap : Nat} (h : SlT W (.slice a L.length cap) L) (hn : 0 < L.length) : ∃ b off, a = some ⟨b, off, none⟩ ∧ RdT W b off L := by
  rcases h with ⟨a', cap', e, rfl⟩ | ⟨b, off, cap', e, hr⟩
  · simp at hn
  · exact ⟨b, off, (Value.slice.inj e).1, hr⟩
theorem trs {w : World} {b o k : Nat} {L : List Tr} (hr : RdT w b o L) (hk : k < L.length) {p : Tr} (h : L.getD k default = p) :
    w.cell? ⟨b, o + k * 2, none⟩ = some (.float .f64 p.age) ∧ w.cell? ⟨b, o + k * 2 + 1, none⟩ = some (.float .f64 p.grain) := by
  obtain ⟨c0, c1⟩ := hr.at_ k hk
  rw [h] at c0 c1
  exact ⟨c0, c1⟩

/-- A parameter opened. -/
theorem open_tr {H : Type} {enc : TypeId × Value → H} {w : World} {base : Nat} {spare : Nat → Bool} {held : Bool} {n : Nat} {a : Addr} {cs : List Value} {x : DataW H × List MemPlace}
    (hc : w.cells? base a 2 = some cs) (h : DataW.trod enc Try.prog w base spare held n 63 cs = some x) :
    a.spot = none ∧ ∃ p : Tr, TCell w a.block a.off p ∧ p.age < 18446744073709551616 ∧ p.grain < 18446744073709551616 := by
  obtain ⟨_, hl, hx⟩ := World.cells?_some hc
  obtain ⟨y0, y1, n', _, _, h0, h1⟩ := trod_struct2 Try.underlying63 h
  obtain ⟨c0, c1, rfl⟩ : ∃ c0 c1, cs = [c0, c1] := by
    match cs, hl with
    | [c0, c1], _ => exact ⟨c0, c1, rfl⟩
  have k1 : Try.prog.cellsOf 23 = 1 := by kernel_rfl
  simp only [k1, List.drop_zero, List.take_succ_cons, List.take_zero, List.drop_succ_cons] at h0 h1
  obtain ⟨s, e0, w0⟩ := trod_float Try.underlying23 h0
  obtain ⟨t, e1, w1⟩ := trod_float Try.underlying23 h1
  obtain rfl : c0 = .float .f64 s := by simpa using e0
  obtain rfl : c1 = .float .f64 t := by simpa using e1
  have g0 := hx 0 (by omega)
  have g1 := hx 1 (by omega)
  obtain ⟨ab, ao, asp⟩ := a
  have hsp : asp = none := by
    cases asp with
    | none => rfl
    | some q =>
      have : w.cell? ⟨ab, ao, some q⟩ = none := by
        unfold World.cell?
        split <;> simp
      simp [Addr.add, this] at g0
  subst hsp
  exact ⟨rfl, ⟨s, t⟩, ⟨by simpa [Addr.add] using g0, by simpa [Addr.add] using g1⟩, wf_f64 w0, wf_f64 w1⟩
theorem open_trs {H : Type} {enc : TypeId × Value → H} {w : World} {base : Nat} {spare : Nat → Bool} {held : Bool} {r : Reach} {b0 : Nat} {v : Value} {d : DataW H} {p : List MemPlace} (hv : Value.okWide Try.prog w r b0 54 v) (h : DataW.Trod enc Try.prog w base spare held 54 v d p) :
    ∃ a L cap, v = .slice a L.length cap ∧ SlT w v L ∧ L.length ≤ cap ∧ cap ≤ 9223372036854775807 := by
  obtain ⟨a, len, cap, rfl⟩ := okWide_slice Try.underlying54 hv
  obtain ⟨fuel, hf⟩ := h
  have k3 : Try.prog.cellsOf 63 = 2 := by kernel_rfl
  rcases open_slice Try.underlying54 hf with ⟨e, _⟩ | ⟨a', len', cap', m, n, D, Pl, e, _, hl, hm, hmm, _, hx⟩
  · simp [Value.cells] at e
    obtain ⟨rfl, rfl, rfl⟩ := e
    exact ⟨none, [], 0, rfl, .inl ⟨none, 0, rfl, rfl⟩, Nat.le_refl _, by omega⟩
  · simp [Value.cells] at e
    obtain ⟨rfl, rfl, rfl⟩ := e
    have hlm : len ≤ m := by rw [hmm]; split <;> omega
    rw [k3] at hx
    cases len with
    | zero => exact ⟨some a', [], cap, rfl, .inl ⟨some a', cap, rfl, rfl⟩, hl, hm⟩
    | succ q =>
      have each : ∀ i, i < q + 1 → ∃ p : Tr, TCell w a'.block (a'.off + i * 2) p ∧ p.age < 18446744073709551616 ∧ p.grain < 18446744073709551616 := by
        intro i hi
        obtain ⟨cs', h1, h2⟩ := hx i (by omega)
        obtain ⟨_, p, h3, h4⟩ := open_tr h1 h2
        refine ⟨p, ?_, h4⟩
        have e1 : (a'.add (i * 2)).block = a'.block := by unfold Addr.add; split <;> rfl
        have e2 : (a'.add (i * 2)).off = a'.off + i * 2 := by unfold Addr.add; split <;> simp_all
        rw [e1, e2] at h3
        exact h3
      have hsp : a'.spot = none := by
        obtain ⟨cs', h1, h2⟩ := hx 0 (by omega)
        have := (open_tr h1 h2).1
        simpa [Addr.add] using this
      obtain ⟨V, hV⟩ := choose_lt each
      obtain ⟨ab, ao, asp⟩ := a'
      subst hsp
      refine ⟨some ⟨ab, ao, none⟩, (List.range (q + 1)).map V, cap, by simp, .inr ⟨ab, ao, cap, by simp, ⟨fun k hk => ?_, ?_, fun k hk => ?_⟩⟩, by simpa using hl, hm⟩
      · have hk' : k < q + 1 := by simpa using hk
        have : ((List.range (q + 1)).map V).getD k default = V k := by simp [List.getD, hk']
        rw [this]
        exact (hV k hk').1
      · have h0 := (hV 0 (by omega)).1.c0
        by_cases hlt : ab < w.heap.size
        · exact hlt
        · unfold World.cell? at h0
          rw [Array.getElem?_eq_none (by simpa using hlt)] at h0
          cases h0
      · have hk' : k < q + 1 := by simpa using hk
        have : ((List.range (q + 1)).map V).getD k default = V k := by simp [List.getD, hk']
        rw [this]
        exact (hV k hk').2

/-! ### Which policies may be -/
def polOk (L : List Tr) (i : Nat) : Prop := NN (L.getD i default).age ∧ NN (L.getD i default).grain ∧ 0 < key (L.getD i default).grain ∧ (0 < i → key (L.getD (i - 1) default).age < key (L.getD i default).age)
def PolP (L : List Tr) : Prop := L.length ≤ 8 ∧ ∀ i, i < L.length → polOk L i
open Classical in
noncomputable def polB (L : List Tr) : Bool := decide (PolP L)
theorem polB_true {L : List Tr} : polB L = true ↔ PolP L := by simp [polB]
theorem polB_false {L : List Tr} : polB L = false ↔ ¬ PolP L := by simp [polB]
theorem f_pos {a : Nat} (ha : a < 18446744073709551616) : (FloatKind.f64.format.order a 0 == some .gt) = decide (NN a ∧ 0 < key a) := by
  by_cases h : NN a
  · rw [f_gtr h nn_zero, key_zero]; simp [h]
  · rw [f_gtr_bad ha h nn_zero]; simp [h]
theorem pol_ways (L : List Tr) (k : Nat) (hk : k < L.length) (p : Tr) (hP : L.getD k default = p) (fa : p.age < 18446744073709551616) (fg : p.grain < 18446744073709551616) (hall : ∀ j, j < k → polOk L j) :
    (polB L = false ∧ (FloatKind.f64.format.order p.age 0 == some .gt || FloatKind.f64.format.order p.age 0 == some .eq) = false) ∨
    (polB L = false ∧ (FloatKind.f64.format.order p.age 0 == some .gt || FloatKind.f64.format.order p.age 0 == some .eq) = true ∧ (FloatKind.f64.format.order p.grain 0 == some .gt) = false) ∨
    ((FloatKind.f64.format.order p.age 0 == some .gt || FloatKind.f64.format.order p.age 0 == some .eq) = true ∧ (FloatKind.f64.format.order p.grain 0 == some .gt) = true ∧
      ((k = 0 ∧ polOk L k) ∨ (0 < k ∧ ∃ q, L.getD (k - 1) default = q ∧ ((polB L = false ∧ (FloatKind.f64.format.order p.age q.age == some .gt) = false) ∨ (polOk L k ∧ (FloatKind.f64.format.order p.age q.age == some .gt) = true))))) := by
  have hbad : ¬ polOk L k → polB L = false := fun h => polB_false.2 fun q => h (q.2 k hk)
  rw [f_may fa, f_pos fg]
  by_cases h1 : NN p.age
  · by_cases h2 : NN p.grain ∧ 0 < key p.grain
    · refine .inr (.inr ⟨decide_eq_true h1, decide_eq_true h2, ?_⟩)
      by_cases h0 : k = 0
      · exact .inl ⟨h0, by rw [polOk, hP]; exact ⟨h1, h2.1, h2.2, fun h => by omega⟩⟩
      · have hq := (hall (k - 1) (by omega)).1
        refine .inr ⟨by omega, _, rfl, ?_⟩
        rw [f_gtr h1 hq]
        by_cases h3 : key (L.getD (k - 1) default).age < key p.age
        · exact .inr ⟨by rw [polOk, hP]; exact ⟨h1, h2.1, h2.2, fun _ => h3⟩, decide_eq_true h3⟩
        · exact .inl ⟨hbad fun h => h3 (by have := h.2.2.2 (by omega); rw [hP] at this; exact this), decide_eq_false h3⟩
    · exact .inr (.inl ⟨hbad fun h => h2 (by rw [← hP]; exact ⟨h.2.1, h.2.2.1⟩), decide_eq_true h1, decide_eq_false h2⟩)
  · exact .inl ⟨hbad fun h => h1 (by rw [← hP]; exact h.1), decide_eq_false h1⟩
theorem pol_all {L : List Tr} (h : ∀ j, j < L.length → polOk L j) : polB L = decide ((L.length : Int) ≤ 8) := by
  by_cases h8 : L.length ≤ 8
  · rw [polB_true.2 ⟨h8, h⟩]; exact (decide_eq_true (by omega)).symm
  · rw [polB_false.2 fun q => h8 q.1]; exact (decide_eq_false (by omega)).symm

/-! ### Which tier is meant -/
def leB (a b : Nat) : Bool := FloatKind.f64.format.order a b == some .lt || FloatKind.f64.format.order a b == some .eq
def IsOf (L : List Tr) (old : Nat) (r : Int) : Prop := (r = -1 ∧ ∀ j, j < L.length → leB (L.getD j default).age old = false) ∨ ∃ k : Nat, k < L.length ∧ r = k ∧ leB (L.getD k default).age old = true ∧ ∀ j, k < j → j < L.length → leB (L.getD j default).age old = false
theorem isOf_uniq {L : List Tr} {old : Nat} {r s : Int} (h : IsOf L old r) (g : IsOf L old s) : r = s := by
  rcases h with ⟨rfl, h⟩ | ⟨k, hk, rfl, h1, h2⟩ <;> rcases g with ⟨rfl, g⟩ | ⟨m, hm, rfl, g1, g2⟩
  · rfl
  · rw [h m hm] at g1; cases g1
  · rw [g k hk] at h1; cases h1
  · by_cases e : k < m
    · rw [h2 m e hm] at g1; cases g1
    · by_cases e' : m < k
      · rw [g2 k e' hk] at h1; cases h1
      · omega
theorem isOf_ex (L : List Tr) (old : Nat) : ∀ n, n ≤ L.length → (∀ j, n ≤ j → j < L.length → leB (L.getD j default).age old = false) → ∃ r, IsOf L old r
  | 0, _, h => ⟨-1, .inl ⟨rfl, fun j hj => h j (Nat.zero_le _) hj⟩⟩
  | n + 1, hn, h => by
    cases e : leB (L.getD n default).age old
    · exact isOf_ex L old n (by omega) fun j h1 h2 => by
        by_cases e' : j = n
        · subst e'; exact e
        · exact h j (by omega) h2
    · exact ⟨n, .inr ⟨n, by omega, rfl, e, fun j h1 h2 => h j (by omega) h2⟩⟩
noncomputable def ofI (L : List Tr) (old : Nat) : Int := Classical.choose (isOf_ex L old L.length (Nat.le_refl _) fun j h1 h2 => absurd h1 (by omega))
theorem ofI_is (L : List Tr) (old : Nat) : IsOf L old (ofI L old) := Classical.choose_spec (isOf_ex L old L.length (Nat.le_refl _) fun j h1 h2 => absurd h1 (by omega))
theorem ofI_eq {L : List Tr} {old : Nat} {r : Int} (h : IsOf L old r) : ofI L old = r := isOf_uniq (ofI_is L old) h
end Go.Proofs.Ytddnhjpclglclaa
