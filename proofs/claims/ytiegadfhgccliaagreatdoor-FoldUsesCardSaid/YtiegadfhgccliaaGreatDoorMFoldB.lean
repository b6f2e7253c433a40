/- Walks: slices.Sorted(maps.Keys(set)), body.Uses, fold's Tree, Uses. -/
import Derived.Test.YtiegadfhgccliaaGreatDoorMUsesL
import Derived.Test.YtiegadfhgccliaaGreatDoorMFoldA
namespace Go.Proofs.YtiegadfhgccliaaGreatDoor
open Go.RowKit Go.Lib Go.Maps
open Go.ChangeMaps (setBlock)

theorem keys_int (mb : Nat) (W : World) : Calls Tryz.prog 35 #[.map (some mb)] W fun e w' => e = .returned (.func (.func 64) #[] #[.pointer (some ⟨W.heap.size, 0, none⟩)]) ∧ w' = W.alloc (.cells #[.map (some mb)] 88) :=
  callsIn_wide.1 (Tryz.maps_Keys_35 (some mb) W)
theorem sorted_int (w : World) {hb : Nat} {K U : List Int} (h : MapIs intKey w hb (entsB K)) (hw : ∀ k ∈ K, 1 ≤ k ∧ k ≤ 4611686018427387904) (hn : K.length ≤ 1000000000000) (hU : RiseI U) (hm : ∀ x, x ∈ K ↔ x ∈ U) :
    Calls Tryz.prog 34 #[.func (.func 64) #[] #[.pointer (some ⟨w.heap.size, 0, none⟩)]] (w.alloc (.cells #[.map (some hb)] 88)) fun e w' => ∃ a c, e = .returned (.slice a U.length c) ∧ U.length ≤ c ∧ (SlI w' a U ∧ ∀ b o, a = some ⟨b, o, none⟩ → w.heap.size ≤ b) ∧ Below (w.alloc (.cells #[.map (some hb)] 88)).heap.size (w.alloc (.cells #[.map (some hb)] 88)) w' := by
  have hnd : K.Nodup := by
    have := h.nodup
    unfold entsB at this
    rw [List.map_map] at this
    have e : K.map (Prod.fst ∘ fun k : Int => (k, Value.bool true)) = K := by
      conv => rhs; rw [← List.map_id K]
      exact List.map_congr_left fun x _ => rfl
    rw [e] at this
    exact this
  obtain ⟨D, h1, h2, h3⟩ := h.ownsI (fun k hk => by have := hw k hk; omega) (by unfold maxLen; omega)
  refine (callsIn_wide.1 (Tryz.slices_Sorted_keys_34_35 hb K.length D rAnyI w h1 (by rw [h3]; unfold maxLen; omega) (by rw [h3]; omega))).mono ?_
  rintro e w' ⟨v, ss, rfl, hs, hO, _, hB⟩
  have hs2 := hs.trans h2
  have e1 := sorted_keys hnd hs2 hU hm
  have hl : ss.length = U.length := by
    rw [← e1, List.length_mergeSort]
  rw [e1, hl] at hO
  rw [show U.map encZ = encI.cells U from (cellsI U).symm] at hO
  obtain ⟨a, c, rfl, hc, hS, hfr⟩ := SlK.own (E := encI) hO
  exact ⟨a, c, rfl, hc, ⟨hS, fun b o e => Nat.le_trans (by simp) (hfr b o e)⟩, hB⟩
theorem usesB_len : ∀ (L : List Bp) (U : List Int), (usesB L U).length ≤ U.length + L.length
  | [], U => Nat.le_refl _
  | p :: r, U => by
    have h := usesB_len r (insI p.ch U)
    have h2 : ∀ (n : Int) (l : List Int), (insI n l).length ≤ l.length + 1 := fun n l => by
      induction l with
      | nil => simp [insI]
      | cons m r ih =>
        unfold insI
        split
        · rw [List.length_cons, List.length_cons]; omega
        · split <;> simp
    have := h2 p.ch U
    show (usesB r (insI p.ch U)).length ≤ _
    rw [List.length_cons]
    omega
set_option maxRecDepth 100000 in
set_option maxHeartbeats 8000000 in
/-- body.Uses. -/
theorem buses_any (b : Bd) (a : Option Addr) (c : Nat) (w : World) (hS : SlPt w a b.parts) (hc : b.parts.length ≤ c) (hl : b.parts.length ≤ 1000000000) (hch : ∀ p ∈ b.parts, 1 ≤ p.ch ∧ p.ch ≤ 4611686018427387904) :
    Calls Tryz.prog 33 #[.agg #[.int .i64 b.size, .slice a b.parts.length c]] w fun e w' => ∃ a2 c2, e = .returned (.slice a2 (usesB b.parts []).length c2) ∧ (usesB b.parts []).length ≤ c2 ∧ SlI w' a2 (usesB b.parts []) ∧ Below w.heap.size w w' := by
  obtain ⟨size, L⟩ := b
  dsimp only at hS hc hl hch ⊢
  have HS := Lib.hid hS
  have HCh := Lib.hid hch
  have hmm := @run_makeMap Tryz.prog
  clear hS hch
  have hbx := heap_alloc_new w (.cells #[.int .i64 size, .slice a L.length c] 47)
  have hB0 : Below w.heap.size w (w.alloc (.cells #[.int .i64 size, .slice a L.length c] 47)) := (Below.refl _ _).alloc (Nat.le_refl _) _
  have hsz : (w.alloc (.cells #[.int .i64 size, .slice a L.length c] 47)).heap.size = w.heap.size + 1 := by simp
  obtain ⟨W, hW⟩ : ∃ W, W = w.alloc (.cells #[.int .i64 size, .slice a L.length c] 47) := ⟨_, rfl⟩
  rw [← hW] at hbx hB0 hsz
  have HMp := Lib.hid (MapIs.new intKey W)
  have hbm : (W.alloc (.map #[] 0)).heap[w.heap.size]? = some (.cells #[.int .i64 size, .slice a L.length c] 47 (0, 0)) := (Below.heap_alloc _ _ _ (by omega)).trans hbx
  have hB1 : Below w.heap.size w (W.alloc (.map #[] 0)) := hB0.alloc (by omega) _
  obtain ⟨m0, m1⟩ := b2_facts hbm
  have hhb : w.heap.size + 1 = W.heap.size := by omega
  obtain ⟨hb, hhb2⟩ : ∃ hb, hb = W.heap.size := ⟨_, rfl⟩
  rw [← hhb2] at HMp hhb
  have HH2 := Lib.hid hhb2
  have HHb := Lib.hid hhb
  clear hbx hbm hhb2 hhb hsz
  go_enter Tryz.func33, Tryz.ntmps33
  go_upto_region 1 with (fail)
  rw [← hW]
  clear hW
  have HB1 := Lib.hid hB1
  clear hB0 hB1
  go_wp2
  rw [← HH2.out]
  have hhb := HHb.out
  go_loopw [10] (fun i wr => ∃ (k : Nat) (K : List Int), k ≤ L.length ∧ i = .int .i64 (k : Int) ∧ Hid (MapIs intKey wr hb (entsB K)) ∧ Hid (∀ x, x ∈ K ↔ ∃ p ∈ L.take k, p.ch = x) ∧ K.length ≤ k ∧ Hid (Below w.heap.size w wr)) (fun i _ => L.length - (intOf i).toNat)
  case atStart => exact ⟨0, [], by omega, rfl, HMp, Lib.hid (by simp), Nat.le_refl _, HB1⟩
  case round =>
    obtain ⟨k, K, hk, rfl, HM, HK, hKl, HB⟩ := hrel
    by_cases hlt : k < L.length
    · obtain ⟨bb, o, rfl, c0, c1, c2, c3, _⟩ := SlPt_at (HS.out.below HB.out) hlt
      have hki : (k : Int) < (L.length : Int) := by omega
      have hkc : (k : Int) < (c : Int) := by omega
      have HT : Hid (L.take (k + 1) = L.take k ++ [L.getD k default]) := by
        rw [List.take_succ_eq_append_getElem hlt]
        refine Lib.hid ?_
        congr 2
        simp [List.getD, hlt]
      generalize L.getD k default = p at *
      obtain ⟨off, ln, ch, at0⟩ := p
      dsimp only at c0 c1 c2 c3
      obtain ⟨ob, hput⟩ := run_put (P := Tryz.prog) intKey HM.out Tryz.underlying88 Tryz.underlying3 ch (.bool true)
      obtain ⟨p1, p2⟩ := hput (wr.alloc (.cells #[.int .i64 off, .int .i64 ln, .int .i64 ch, .int .i64 at0] 40)) (Below.heap_alloc _ _ _ HM.out.lt)
      rw [mput_true] at p2
      have HP2 := Lib.hid p2
      have hlb := HM.out.lt
      have HBn : Hid (Below w.heap.size w (setBlock (wr.alloc (.cells #[.int .i64 off, .int .i64 ln, .int .i64 ch, .int .i64 at0] 40)) hb ob)) := Lib.hid (below_setBlock (HB.out.alloc HB.out.size _) (by omega) ob)
      replace p1 : (Instr.mapUpdate 88 (.map (some hb)) (.int .i64 ch) (.bool true)).run Tryz.prog (wr.alloc (.cells #[.int .i64 off, .int .i64 ln, .int .i64 ch, .int .i64 at0] 40)) = .ok () (setBlock (wr.alloc (.cells #[.int .i64 off, .int .i64 ln, .int .i64 ch, .int .i64 at0] 40)) hb ob) := p1
      clear hput p2
      go_wp2
      refine ⟨⟨k + 1, addK ch K, by omega, by go_num, HP2, ?_, by have := addK_len ch K; omega, HBn⟩, by simp [intOf]; omega⟩
      refine Lib.hid fun x => ?_
      rw [HT.out, addK_mem, HK.out x]
      constructor
      · rintro (rfl | ⟨p, h1, h2⟩)
        · exact ⟨⟨off, ln, x, at0⟩, by simp, rfl⟩
        · exact ⟨p, List.mem_append_left _ h1, h2⟩
      · rintro ⟨p, h1, h2⟩
        rcases List.mem_append.1 h1 with h1 | h1
        · exact .inr ⟨p, h1, h2⟩
        · rw [List.mem_singleton.1 h1] at h2
          exact .inl h2.symm
    · obtain rfl : k = L.length := by omega
      have hlt' : decide ((L.length : Int) < (L.length : Int)) = false := by simp
      have hKm : ∀ x, x ∈ K ↔ x ∈ usesB L [] := fun x => by
        rw [HK.out x, List.take_length, usesB_mem]; simp
      have hKb : ∀ x ∈ K, 1 ≤ x ∧ x ≤ 4611686018427387904 := fun x hx => by
        obtain ⟨p, h1, h2⟩ := (HK.out x).1 hx
        rw [List.take_length] at h1
        rw [← h2]
        exact HCh.out p h1
      have HSo := Lib.hid (sorted_int wr HM.out hKb (by omega) (usesB_rise (L := L) rise_nil) hKm)
      have HKe := Lib.hid (keys_int hb wr)
      clear hlt hKm hKb
      go_wp2_with fail
      with_reducible refine Calls.mono HKe.out ?_
      rintro e w2 ⟨rfl, rfl⟩
      go_wp2_with fail
      with_reducible refine Calls.mono HSo.out ?_
      rintro e w3 ⟨a3, c3, rfl, hc3, ⟨hS3, _⟩, hB3⟩
      have HS3 := Lib.hid hS3
      have HB3 := Lib.hid ((HB.out.alloc HB.out.size _).trans (hB3.mono (HB.out.alloc HB.out.size _).size))
      clear hS3 hB3
      go_wp2
      go_ret
      exact ⟨a3, c3, rfl, hc3, HS3.out, HB3.out⟩
end Go.Proofs.YtiegadfhgccliaaGreatDoor
