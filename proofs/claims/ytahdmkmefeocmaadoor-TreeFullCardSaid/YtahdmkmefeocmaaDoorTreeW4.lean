/- Walks of package tree: under, deep. -/
import Derived.Test.YtahdmkmefeocmaaDoorTreeW3
namespace Go.Proofs.YtahdmkmefeocmaaDoor
open Go.RowKit Go.Lib
open Go.ChangeMaps (setBlock)

/-- A row of nodes as cells. -/
def cells3 (n : Nd) : List Value := [.string n.path, .int .i64 n.id, .bool n.dir]
def cellsN (L : List Nd) : List Value := L.flatMap cells3
theorem cellsN_len (L : List Nd) : (cellsN L).length = L.length * 3 := by
  induction L with
  | nil => rfl
  | cons n r ih => unfold cellsN at *; rw [List.flatMap_cons, List.length_append, ih, List.length_cons]; simp [cells3]; omega
theorem cellsN_snoc (L : List Nd) (n : Nd) : cellsN (L ++ [n]) = cellsN L ++ [.string n.path, .int .i64 n.id, .bool n.dir] := by
  unfold cellsN; rw [List.flatMap_append]; rfl
theorem cellsN_get : ∀ {L : List Nd} {k : Nat} (hk : k < L.length) (j : Nat), j < 3 → (cellsN L)[k * 3 + j]? = (cells3 L[k])[j]?
  | n :: r, 0, _, j, hj => by
    unfold cellsN
    rw [List.flatMap_cons, List.getElem?_append_left (by simp [cells3]; omega)]
    simp
  | n :: r, k + 1, hk, j, hj => by
    have ih := cellsN_get (L := r) (k := k) (by simpa using hk) j hj
    unfold cellsN at *
    rw [List.flatMap_cons, List.getElem?_append_right (by simp [cells3]; omega)]
    have e : (k + 1) * 3 + j - (cells3 n).length = k * 3 + j := by simp [cells3]; omega
    rw [e, ih]
    simp

/-- A row of nodes from a place on. -/
structure RdN (w : World) (b o : Nat) (L : List Nd) : Prop where
  at_ : ∀ k, k < L.length → w.cell? ⟨b, o + k * 3, none⟩ = some (.string (L.getD k default).path) ∧ w.cell? ⟨b, o + k * 3 + 1, none⟩ = some (.int .i64 (L.getD k default).id) ∧ w.cell? ⟨b, o + k * 3 + 2, none⟩ = some (.bool (L.getD k default).dir)
  lt : b < w.heap.size
def SlN (w : World) (a : Option Addr) (L : List Nd) : Prop := L = [] ∨ ∃ b o, a = some ⟨b, o, none⟩ ∧ RdN w b o L
theorem RdN.turn {bs : List Nat} {w w' : World} {b o : Nat} {L : List Nd} (h : RdN w b o L) (ht : Turn bs w w') (hn : b ∉ bs) : RdN w' b o L :=
  ⟨fun k hk => by
    obtain ⟨h1, h2, h3⟩ := h.at_ k hk
    exact ⟨(ht.cell (p := ⟨b, o + k * 3, none⟩) h.lt hn).trans h1, (ht.cell (p := ⟨b, o + k * 3 + 1, none⟩) h.lt hn).trans h2, (ht.cell (p := ⟨b, o + k * 3 + 2, none⟩) h.lt hn).trans h3⟩, Nat.lt_of_lt_of_le h.lt ht.size⟩
theorem SlN.below {w w' : World} {a : Option Addr} {L : List Nd} (h : SlN w a L) (hb : Below w.heap.size w w') : SlN w' a L := by
  rcases h with h | ⟨b, o, e, hr⟩
  · exact .inl h
  · exact .inr ⟨b, o, e, hr.turn (bs := []) (.of_below hb) (by simp)⟩
theorem SlN.at_ {w : World} {a : Option Addr} {L : List Nd} (h : SlN w a L) {k : Nat} (hk : k < L.length) : ∃ b o, a = some ⟨b, o, none⟩ ∧ w.cell? ⟨b, o + k * 3, none⟩ = some (.string (L.getD k default).path) ∧ w.cell? ⟨b, o + k * 3 + 1, none⟩ = some (.int .i64 (L.getD k default).id) ∧ w.cell? ⟨b, o + k * 3 + 2, none⟩ = some (.bool (L.getD k default).dir) ∧ b < w.heap.size := by
  rcases h with rfl | ⟨b, o, e, hr⟩
  · simp at hk
  · obtain ⟨h1, h2, h3⟩ := hr.at_ k hk
    exact ⟨b, o, e, h1, h2, h3, hr.lt⟩
/-- A row of the call's own. -/
theorem SlN.own {w : World} {base : Nat} {e : TypeId} {v : Value} {L : List Nd} (h : w.ownsRow base e 3 v L.length (cellsN L)) : ∃ a c, v = .slice a L.length c ∧ L.length ≤ c ∧ SlN w a L := by
  obtain ⟨_, ⟨rfl, hn⟩ | ⟨g, cap, cur, rfl, _, hg, hc, _, _, hx⟩⟩ := h
  · have : L = [] := by cases L; rfl; simp at hn
    subst this
    exact ⟨none, 0, rfl, Nat.le_refl _, .inl rfl⟩
  · refine ⟨_, _, rfl, hc, .inr ⟨g, 0, rfl, ⟨fun k hk => ?_, (Array.getElem?_eq_some_iff.1 hg).1⟩⟩⟩
    have each : ∀ j u, j < 3 → (cells3 L[k])[j]? = some u → w.cell? ⟨g, k * 3 + j, none⟩ = some u := by
      intro j u hj hu
      have h1 := cellsN_get hk j hj
      rw [hu, ← hx, List.getElem?_take] at h1
      split at h1
      · unfold World.cell?
        rw [hg]
        simpa using h1
      · cases h1
    have hd : L.getD k default = L[k] := by simp [List.getD, hk]
    rw [hd, Nat.zero_add]
    exact ⟨each 0 _ (by omega) rfl, each 1 _ (by omega) rfl, each 2 _ (by omega) rfl⟩
theorem info_nd : (Tryd.prog.info? 47).map (fun i => (i.zero, i.size, i.bytes)) = some (some (.agg #[.string ⟨#[]⟩, .int .i64 0, .bool false]), 3, 32) := by kernel_rfl
theorem new3 (w : World) (a b c : Value) (t : TypeId) : ∀ j u, [a, b, c][j]? = some u → (w.alloc (.cells #[a, b, c] t)).cell? ((⟨w.heap.size, 0, none⟩ : Addr).add j) = some u := by
  intro j u hu
  have h0 := b3_cells (heap_alloc_new w (.cells #[a, b, c] t))
  match j, hu with
  | 0, hu => simp at hu; subst hu; exact h0.1
  | 1, hu => simp at hu; subst hu; exact h0.2.1
  | 2, hu => simp at hu; subst hu; exact h0.2.2.1
  | j + 3, hu => simp at hu

theorem new3b (W : World) (a b c : Value) (t : TypeId) (B : Nat) (hB : W.heap.size = B) : ∀ j u, [a, b, c][j]? = some u → (W.alloc (.cells #[a, b, c] t)).cell? ((⟨B, 0, none⟩ : Addr).add j) = some u := by
  subst hB; exact new3 W a b c t
theorem it_left {w : World} {mb r : Nat} {M left : List (ByteArray × Value)} (h : MapIt strKey w mb r M left) : w.rangeLeft mb r = left.length := by
  obtain ⟨es, clock, since, seen, c0, a, _, _, d, _, _, _, e⟩ := h
  have := congrArg List.length e
  rw [List.length_map, List.length_map, Array.length_toList] at this
  simp only [World.rangeLeft, a, d]
  exact this
section ops
variable {ops : Array Oper} {rest : List Oper} {o : Oper} {a : Act} {Q : Exit → Act → World → Prop} {P : Program}
theorem wpList_next_nd (w : World) (hg : o.guard = none) (it : Operand) (hop : o.op = Op.next it false) (mb r : Nat) (L left : List Nd)
    (hit : a.eval it = .pointer (some ⟨r, 0, none⟩)) (h : MapIt strKey w mb r (ents L) (ents left))
    (hDone : left = [] → wpList P ops Q rest (a.put o.dst (.tuple #[.bool false])) w)
    (hMore : ∀ i (n : Nd) w1 ob, left[i]? = some n → (w1 = w ∨ w1 = w.drew) → MapIt strKey (setBlock w1 r ob) mb r (ents L) (ents (left.eraseIdx i)) →
      (Instr.entry (.pointer (some ⟨r, 0, none⟩))).run P (setBlock w1 r ob) = .ok (.tuple #[.string n.path, .agg #[.string n.path, .int .i64 n.id, .bool n.dir]]) (setBlock w1 r ob) → wpList P ops Q rest (a.put o.dst (.tuple #[.bool true, .string n.path, .agg #[.string n.path, .int .i64 n.id, .bool n.dir]])) (setBlock w1 r ob)) :
    wpList P ops Q (o :: rest) a w := by
  refine wpList_next_it w hg it hop strKey mb r (ents L) (ents left) hit h (fun e => hDone (by unfold ents at e; exact List.map_eq_nil_iff.1 e)) fun i k v w1 ob hi hw1 hit2 hen => ?_
  unfold ents at hi
  rw [List.getElem?_map] at hi
  cases hn : left[i]? with
  | none => rw [hn] at hi; cases hi
  | some n =>
    rw [hn] at hi
    obtain ⟨rfl, rfl⟩ := Prod.mk.inj (Option.some.inj hi)
    refine hMore i n w1 ob hn hw1 ?_ hen
    have e : ents (left.eraseIdx i) = (ents left).eraseIdx i := by unfold ents; exact Go.ChangeMaps.map_eraseIdx _ _ _
    rw [e]; exact hit2
end ops
theorem perm_erase {α : Type} {l : List α} {i : Nat} {x : α} (h : l[i]? = some x) : l.Perm (x :: l.eraseIdx i) := by
  induction l generalizing i with
  | nil => cases h
  | cons a r ih =>
    cases i with
    | zero => simp at h; subst h; exact .refl _
    | succ i =>
      simp at h
      exact ((ih h).cons a).trans (.swap x a _)

def preB (s : ByteArray) (n : Nd) : Bool := hasPrefix n.path.data.toList (s.data.toList ++ [47])

set_option maxRecDepth 100000 in
set_option maxHeartbeats 4000000 in
theorem tree_under (s : ByteArray) (w : World) (hs : s.size ≤ 100000) {tb mb : Nat} {T : TS} (hT : TreeP w tb mb T) (hn : T.L.length ≤ 1000000) (hps : ∀ n ∈ T.L, n.path.size ≤ maxLen) :
    Calls Tryd.prog 20 #[.pointer (some ⟨tb, 0, none⟩), .string s] w fun e w' => ∃ (U : List Nd) (v : Value), e = .returned v ∧ U.Perm (T.L.filter (preB s)) ∧ w'.ownsRow w.heap.size 47 3 v U.length (cellsN U) ∧ Below w.heap.size w w' := by
  obtain ⟨L, hp, hTA⟩ := hT
  have hlen : L.length ≤ 1000000 := by rw [hp.length_eq]; exact hn
  have hps2 : ∀ n ∈ L, n.path.size ≤ maxLen := fun n h => hps n (hp.mem_iff.1 h)
  have HPm := Lib.hid hp
  have HPs := Lib.hid hps2
  have hc0 := hTA.c0
  have htb := hTA.lt
  have hmb := hTA.ltm
  have HM := Lib.hid hTA.map
  obtain ⟨i0, hi, hz0, hz1, hz2⟩ := info_parts info_nd
  clear hp hn hps hps2 hTA
  go_enter Tryd.func20, Tryd.ntmps20
  go_wp2_with (at_range; refine wpList_range_it _ rfl _ 42 rfl 9 47 strKey Tryd.underlying42 mb _ rfl HM.out ?_; intro ob hit)
  go_frame
  have HIt := Lib.hid hit
  clear hit
  have HB0 := Lib.hid ((Below.refl w.heap.size w).alloc (Nat.le_refl _) ob)
  generalize hw0 : w.alloc ob = w0 at *
  have HW0 := Lib.hid hw0
  clear hw0
  go_loopw [5] (fun v wr => ∃ (U left : List Nd) (sv : Value), v = sv ∧ Hid (MapIt strKey wr mb w.heap.size (ents L) (ents left)) ∧ Hid (wr.ownsRow w.heap.size 47 3 sv U.length (cellsN U)) ∧ Hid (Below w.heap.size w wr) ∧ Hid ((U ++ left.filter (preB s)).Perm (L.filter (preB s))) ∧ Hid (∀ n ∈ left, n ∈ L)) (fun _ wr => wr.rangeLeft mb w.heap.size)
  case atStart => exact ⟨[], L, _, rfl, HIt, Lib.hid (World.ownsRow_nil _ _ _ _), HB0, Lib.hid (List.Perm.refl _), Lib.hid fun n h => h⟩
  case round =>
    obtain ⟨U, left, sv, hsv, HI, HO, HB, HP, HL⟩ := hrel
    have hsv' := hsv.symm
    subst hsv'
    go_wp2_with (at_next; refine wpList_next_nd _ rfl _ rfl mb w.heap.size L left rfl HI.out ?_ ?_)
    · intro hnil
      have HNil := Lib.hid hnil
      clear hnil
      go_wp2
      go_ret
      refine ⟨U, sv, rfl, ?_, HO.out, HB.out⟩
      have := HP.out
      rw [HNil.out] at this
      simp at this
      exact this.trans (HPm.out.filter _)
    · intro i n w1 ob1 hi1 hw1 hit1 hen
      have hmem := HL.out n (List.mem_of_getElem? hi1)
      have hpsz := HPs.out n hmem
      have hBw1 : Below w.heap.size w w1 := by rcases hw1 with rfl | rfl; exact HB.out; exact below_drewN' HB.out 1
      have hOw1 : w1.ownsRow w.heap.size 47 3 sv U.length (cellsN U) := by rcases hw1 with rfl | rfl; exact HO.out; exact own_heap HO.out rfl
      have hIw1 : MapIt strKey w1 mb w.heap.size (ents L) (ents left) := by rcases hw1 with rfl | rfl; exact HI.out; exact HI.out.of_blocks rfl rfl
      have hB1 : Below w.heap.size w (setBlock w1 w.heap.size ob1) := below_setBlock hBw1 (Nat.le_refl _) ob1
      have hO1 : (setBlock w1 w.heap.size ob1).ownsRow w.heap.size 47 3 sv U.length (cellsN U) := by
        refine ⟨hOw1.1, ?_⟩
        rcases hOw1.2 with h | ⟨g, cap, cur, hv, hbg, hg, r⟩
        · exact .inl h
        · refine .inr ⟨g, cap, cur, hv, hbg, ?_, r⟩
          rw [heap_setBlock_ne _ _ _ _ (Ne.symm (hIw1.ne_row hg).2)]
          exact hg
      have hpm1 : (U ++ left.filter (preB s)).Perm (U ++ (n :: left.eraseIdx i).filter (preB s)) := ((perm_erase hi1).filter _).append_left U
      have HPm1 := Lib.hid (hpm1.symm.trans HP.out)
      have HL1 : Hid (∀ x ∈ left.eraseIdx i, x ∈ L) := fun x hx => HL.out x (List.mem_of_mem_eraseIdx hx)
      have HLen := Lib.hid (show (left.eraseIdx i).length < left.length by
        have := (List.getElem?_eq_some_iff.1 hi1).1
        rw [List.length_eraseIdx]; split <;> omega)
      have HLft := Lib.hid (it_left HI.out)
      have hul : U.length ≤ 1000000 := by
        have h1 := HP.out.length_eq
        have h2 := List.length_filter_le (preB s) L
        rw [List.length_append] at h1
        omega
      obtain ⟨np, ni, nd⟩ := n
      dsimp only at hen hpsz
      have hlen : ¬ 9223372036854775807 < s.size + 1 := by omega
      have HO1 := Lib.hid hO1
      have HB1 := Lib.hid hB1
      have HI1 := Lib.hid hit1
      have HHi := Lib.hid hi1
      clear hw1 hit1 hBw1 hOw1 hIw1 hB1 hO1 hpm1 hmem hi1 HI HO HB
      generalize setBlock w1 w.heap.size ob1 = W at *
      have hcat : (s ++ (⟨#[47]⟩ : ByteArray)).data.toList = s.data.toList ++ [47] := by simp
      have HCat := Lib.hid hcat
      clear hcat
      cases hb : preB s ⟨np, ni, nd⟩
      · have HBr := Lib.hid hb
        go_wp2_with (go_at_call 31; refine (Tryd.strings_HasPrefix _ _ _).mono ?_; rintro e w' ⟨rfl, rfl⟩; rw [show hasPrefix np.data.toList (s ++ (⟨#[47]⟩ : ByteArray)).data.toList = false by rw [HCat.out]; exact HBr.out])
        refine ⟨⟨U, left.eraseIdx i, sv, rfl, Lib.hid (HI1.out.alloc _), Lib.hid (HO1.out.alloc _), Lib.hid (HB1.out.alloc HB1.out.size _), ?_, HL1⟩, ?_⟩
        · have := HPm1.out
          rw [List.filter_cons, HBr.out] at this
          exact Lib.hid this
        · rw [it_left (HI1.out.alloc _), HLft.out]; unfold ents; rw [List.length_map, List.length_map]; exact HLen.out
      · have HBr := Lib.hid hb
        go_wp2_with (first
          | (go_at_call 31; refine (Tryd.strings_HasPrefix _ _ _).mono ?_; rintro e w' ⟨rfl, rfl⟩; rw [show hasPrefix np.data.toList (s ++ (⟨#[47]⟩ : ByteArray)).data.toList = true by rw [HCat.out]; exact HBr.out])
          | (at_builtin; refine wpList_append_own _ rfl (.tmp 22) (.tmp 24) 50 rfl w.heap.size 47 i0 _ 3 32 Tryd.underlying50 hi hz0 hz1 hz2 rfl (by decide) _ _ _ rfl ((HO1.out.alloc _).alloc _) ⟨W.heap.size + 1, 0, none⟩ 1 1 [.string np, .int .i64 ni, .bool nd] rfl rfl (new3b _ _ _ _ _ _ (by simp)) (by intro u hu; simp at hu; rcases hu with rfl | rfl | rfl <;> rfl) (by unfold maxLen; omega) (by omega) (by have := HB1.out.size; simp; omega) ?_; intro v' w3 hown' hgrow hnil; clear hnil; have HO2 := Lib.hid hown'; have HG := Lib.hid hgrow; clear hown' hgrow))
        refine ⟨⟨U ++ [⟨np, ni, nd⟩], left.eraseIdx i, v', rfl, Lib.hid (((HI1.out.alloc _).alloc _).grown ((HO1.out.alloc _).alloc _) HG.out), ?_, ?_, ?_, HL1⟩, ?_⟩
        · have := HO2.out
          rw [cellsN_snoc, List.length_append, List.length_singleton]
          exact Lib.hid this
        · exact Lib.hid (grown_below ((HB1.out.alloc HB1.out.size _).alloc (by have := HB1.out.size; simp; omega) _) (by have := HB1.out.size; simp; omega) ((HO1.out.alloc _).alloc _) HG.out)
        · have := HPm1.out
          rw [List.filter_cons, HBr.out, if_pos rfl] at this
          refine Lib.hid ?_
          rw [List.append_assoc]
          exact this
        · rw [it_left (((HI1.out.alloc _).alloc _).grown ((HO1.out.alloc _).alloc _) HG.out), HLft.out]; unfold ents; rw [List.length_map, List.length_map]; exact HLen.out
end Go.Proofs.YtahdmkmefeocmaaDoor
