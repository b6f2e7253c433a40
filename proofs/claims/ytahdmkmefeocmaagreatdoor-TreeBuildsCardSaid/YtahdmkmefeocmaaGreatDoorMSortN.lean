/- slices.SortFunc of nodes by path. -/
import Derived.Test.YtahdmkmefeocmaaGreatDoorMBuildC
import Derived.Test.YtahdmkmefeocmaaGreatDoorMSortF
namespace Go.Proofs.YtahdmkmefeocmaaGreatDoor
open Go.RowKit Go.Lib Go.Sort

theorem one3' (n : Nd) : ∀ u ∈ cells3 n, u.oneCell' = true := by
  intro u hu
  unfold cells3 at hu
  simp at hu
  rcases hu with rfl | rfl | rfl <;> rfl
theorem cfN_lt (x y : Nd) : ltOf cfN x y = ltB x.path y.path := by
  unfold ltOf cfN
  cases h : ltB x.path y.path
  · cases h2 : ltB y.path x.path <;> rfl
  · rfl
theorem swoN : SWO (ltOf cfN) where
  irrefl x := by rw [cfN_lt]; exact ltB_irrefl _
  trans x y z h1 h2 := by rw [cfN_lt] at *; exact ltB_trans h1 h2
  ntrans x y z h1 h2 := by
    rw [cfN_lt] at *
    cases h : ltB x.path z.path
    · rfl
    · exfalso
      rcases ltB_tri x.path y.path with e | e | e
      · rw [h1] at e; cases e
      · rw [e] at h; rw [h] at h2; cases h2
      · have := ltB_trans e h
        rw [h2] at this; cases this
set_option maxRecDepth 100000 in
set_option maxHeartbeats 4000000 in
theorem cmp_closure (x y : Nd) (W : World) : Calls Tryz.prog 44 #[.agg (cells3 x).toArray, .agg (cells3 y).toArray] W fun e w' => e = .returned (.int .i64 (cfN x y)) ∧ ∃ q os', w' = grow (W.drewN q) os' := by
  have hcon := fun W' => compare_str x.path y.path W'
  have hc : (if ltB x.path y.path then (-1 : Int) else if ltB y.path x.path then 1 else 0) = cfN x y := rfl
  rw [hc] at hcon
  have HC := Lib.hid hcon
  obtain ⟨xp, xi, xd⟩ := x
  obtain ⟨yp, yi, yd⟩ := y
  show Calls Tryz.prog 44 #[.agg #[.string xp, .int .i64 xi, .bool xd], .agg #[.string yp, .int .i64 yi, .bool yd]] W _
  dsimp only at HC
  generalize cfN ⟨xp, xi, xd⟩ ⟨yp, yi, yd⟩ = r at *
  clear hcon hc
  go_enter Tryz.func44, Tryz.ntmps44
  go_wp2_with fail
  with_reducible refine Calls.mono (HC.out _) ?_
  rintro e w' ⟨rfl, rfl⟩
  go_wp2
  go_ret
  exact ⟨rfl, 0, _, by rw [alloc_eq_grow, alloc_eq_grow, grow_grow]; rfl⟩
theorem own_holds {w : World} {base : Nat} {e : TypeId} {g n cap : Nat} {L : List Nd} (h : w.ownsRow base e 3 (.slice (some ⟨g, 0, none⟩) n cap) n (cellsN L)) (hn : n = L.length) : HoldsK cells3 3 w g 0 L.toArray ∧ base ≤ g ∧ g < w.heap.size ∧ n ≤ cap := by
  subst hn
  rcases h.2 with ⟨h0, _⟩ | ⟨g', cap', cur, hv, hb, hg, hcap, _, hcs, hx⟩
  · cases h0
  · obtain ⟨e1, _, e2⟩ := Value.slice.inj hv
    obtain rfl : g = g' := by simpa using e1
    subst e2
    have hlt : g < w.heap.size := (Array.getElem?_eq_some_iff.1 hg).1
    refine ⟨fun t ht => ?_, hb, hlt, hcap⟩
    rw [size_flatK, List.size_toArray] at ht
    have hk : t / 3 < L.length := by omega
    have hr : t % 3 < 3 := Nat.mod_lt _ (by decide)
    have et : t = t / 3 * 3 + t % 3 := by omega
    have h1 := cellsN_get hk (t % 3) hr
    rw [← et, ← hx, List.getElem?_take, if_pos ht] at h1
    constructor
    · rw [get_flatK _ _ _ _ (by rw [List.size_toArray]; exact ht)]
      unfold World.cell?
      rw [hg]
      have e3 : L.toArray[t / 3]! = L[t / 3] := by simp [hk]
      rw [e3]
      have e4 : (cells3 L[t / 3])[t % 3]? = some (cells3 L[t / 3])[t % 3]! := by
        have hlen : (cells3 L[t / 3]).length = 3 := rfl
        rw [List.getElem?_eq_getElem (by omega), List.getElem!_eq_getElem?_getD, List.getElem?_eq_getElem (by omega)]
        rfl
      rw [e4] at h1
      simpa using h1
    · unfold World.frozen?; rw [hg]; simp
theorem holds_sln {w : World} {g : Nat} {O : List Nd} (h : HoldsK cells3 3 w g 0 O.toArray) (hg : g < w.heap.size) : SlN w (some ⟨g, 0, none⟩) O := by
  refine .inr ⟨g, 0, rfl, ⟨fun k hk => ?_, hg⟩⟩
  have hk' : k < O.toArray.size := by simpa using hk
  have c0 := (h.cell hk' (c := 0) (by decide)).1
  have c1 := (h.cell hk' (c := 1) (by decide)).1
  have c2 := (h.cell hk' (c := 2) (by decide)).1
  have e : O.toArray[k]! = O.getD k default := by simp [List.getD, hk]
  rw [e] at c0 c1 c2
  exact ⟨c0, c1, c2⟩
set_option maxRecDepth 100000 in
set_option maxHeartbeats 4000000 in
theorem sort_nodes {w : World} {base : Nat} {L : List Nd} {v : Value} (h : w.ownsRow base 54 3 v L.length (cellsN L)) (hl : L.length ≤ 1000000) :
    Calls Tryz.prog 43 #[v, .func (.func 44) #[] #[]] w fun e w' => e = .returned (.tuple #[]) ∧ ∃ a c O, v = .slice a L.length c ∧ L.length ≤ c ∧ O.Perm L ∧ (∀ i j, i < j → j < O.length → ltB (O.getD j default).path (O.getD i default).path = false) ∧ SlN w' a O ∧ (∀ B u, B ≤ base → Below B u w → Below B u w') := by
  have h0 := h
  obtain ⟨_, ⟨rfl, hn⟩ | ⟨g, cap, cur, rfl, hbg, hg, hc, _, _, hx⟩⟩ := h
  · have hL : L = [] := by cases L; rfl; simp at hn
    subst hL
    have hs := AnyF.slices_SortFunc_none Tryz.sortF43 none 0 (.func (.func 44) #[] #[]) w
    refine Calls.mono (R := fun e w' => e = .returned (.tuple #[]) ∧ w' = w) hs ?_
    rintro e w' ⟨rfl, rfl⟩
    exact ⟨rfl, none, 0, [], rfl, Nat.le_refl _, .refl _, fun i j _ hj => by simp at hj, .inl rfl, fun _ _ _ hu => hu⟩
  · obtain ⟨hH, hbg, hlt, hcap⟩ := own_holds h0 rfl
    have eg : ∀ args w, (callFunc 44 args).run Tryz.prog w = .ok (.enter 44 args) w := enters_of Tryz.func44 (by kernel_rfl) rfl
    have hs := AnyQ.slices_SortFunc Tryz.sortF43 3 (fun w => by kernel_rfl) (fun w => by kernel_rfl) cells3 (fun _ => rfl) (fun x u hu => one3' x u hu) cfN swoN 44 #[] g 0 cap L.toArray w eg (fun _ _ _ _ x y => cmp_closure x y _) hH hlt (by rw [List.size_toArray]; omega)
    rw [List.size_toArray] at hs
    refine Calls.mono (R := fun e w' => e = .returned (.tuple #[]) ∧ ∃ d' n os, PermIn 0 L.length L.toArray d' ∧ SortedIn (ltOf cfN) 0 L.length d' ∧ w' = sortWorldK cells3 3 w g 0 n d' os) hs ?_
    rintro e w' ⟨rfl, d', n, os, ⟨hsz, _, hpm⟩, hso, rfl⟩
    rw [List.size_toArray] at hsz
    obtain ⟨O⟩ := d'
    have hOl : O.length = L.length := by simpa using hsz
    have hpm2 : O.Perm L := by
      have e1 : ((O.toArray.extract 0 L.length).toList) = O := by rw [← hOl]; simp
      have e2 : ((L.toArray.extract 0 L.length).toList) = L := by simp
      have h3 : ((O.toArray.extract 0 L.length).toList).Perm ((L.toArray.extract 0 L.length).toList) := hpm
      rw [e1, e2] at h3
      exact h3
    have hH2 : HoldsK cells3 3 (putRowK cells3 3 (Sort.ahead w n) g 0 O.toArray) g 0 O.toArray := holdsK_putRowK cells3 3 (Sort.ahead w n) g 0 L.toArray O.toArray hH (by simp [hOl])
    have hsz2 : g < (putRowK cells3 3 (Sort.ahead w n) g 0 O.toArray).heap.size := by unfold putRowK; rw [Sort.size_putRow]; exact hlt
    have hH3 := holdsK_grow cells3 3 _ os g 0 O.toArray hsz2 hH2
    refine ⟨rfl, _, cap, O, rfl, hc, hpm2, fun i j hij hj => ?_, holds_sln hH3 ?_, fun B u hB hu => ?_⟩
    · have := hso i j (Nat.zero_le _) hij (by omega)
      rw [cfN_lt] at this
      have e1 : O.toArray[j]! = O.getD j default := by simp [List.getD, hj]
      have e2 : O.toArray[i]! = O.getD i default := by simp [List.getD, show i < O.length by omega]
      rw [e1, e2] at this
      exact this
    · show g < (grow (putRowK cells3 3 (Sort.ahead w n) g 0 O.toArray) os).heap.size
      rw [Sort.size_grow]; exact Nat.lt_of_lt_of_le hsz2 (Nat.le_add_right _ _)
    · refine ⟨hu.os, hu.tape, hu.output, ?_, fun i hi => ?_⟩
      · show u.heap.size ≤ (grow _ os).heap.size
        rw [Sort.size_grow]
        unfold putRowK
        rw [Sort.size_putRow]
        exact Nat.le_trans hu.size (Nat.le_add_right _ _)
      · have hi2 : i < w.heap.size := by omega
        show (grow _ os).heap[i]? = _
        rw [Sort.heap_grow_old _ _ (by unfold putRowK; rw [Sort.size_putRow]; exact hi2)]
        refine Eq.trans ?_ (hu.block i hi)
        unfold putRowK Sort.putRow Sort.mapBlock
        show (w.heap.modify g _)[i]? = _
        rw [Array.getElem?_modify, if_neg (by omega)]
end Go.Proofs.YtahdmkmefeocmaaGreatDoor
