/- Walks of package tree: deep. -/
import Derived.Test.YtahdmkmefeocmaaGreatDoorMTreeW
namespace Go.Proofs.YtahdmkmefeocmaaGreatDoor
open Go.RowKit Go.Lib
open Go.ChangeMaps (setBlock)

/-- The path that a node would have. -/
def movedRaw (src dst p : ByteArray) : ByteArray := dst ++ p.extract src.size p.size
def deepB (src dst : ByteArray) (L : List Nd) : Bool := (L.filter (preB src)).any fun n => (psplit (movedRaw src dst n.path)).isNone
theorem preB_size {s : ByteArray} {n : Nd} (h : preB s n = true) : s.size < n.path.size := by
  unfold preB hasPrefix at h
  have := (List.isPrefixOf_iff_prefix.1 h).length_le
  rw [List.length_append, ← size_eq, ← size_eq, List.length_singleton] at this
  omega
theorem any_perm {α : Type} {l l' : List α} (h : l.Perm l') (p : α → Bool) : l.any p = l'.any p := by
  rw [Bool.eq_iff_iff, List.any_eq_true, List.any_eq_true]
  exact ⟨fun ⟨x, hx, hp⟩ => ⟨x, h.mem_iff.1 hx, hp⟩, fun ⟨x, hx, hp⟩ => ⟨x, h.mem_iff.2 hx, hp⟩⟩

set_option maxRecDepth 100000 in
set_option maxHeartbeats 4000000 in
theorem tree_deep (src dst : ByteArray) (w : World) (hs : src.size ≤ 100000) (hd : dst.size ≤ 100000) {tb mb : Nat} {T : TS} (hT : TreeP w tb mb T) (hm : MLen w) (hn : T.L.length ≤ 1000000) (hps : ∀ n ∈ T.L, n.path.size ≤ 1000) :
    Calls Tryz.prog 52 #[.pointer (some ⟨tb, 0, none⟩), .string src, .string dst] w fun e w' => e = .returned (.bool (deepB src dst T.L)) ∧ Below w.heap.size w w' := by
  have hund := tree_under src w hs hT hn (fun n h => by have := hps n h; unfold maxLen; omega)
  have HM : Hid (∀ W, Below w.heap.size w W → MLen W) := fun W h => hm.below h
  have HPs := Lib.hid hps
  clear hT hm hps
  go_enter Tryz.func52, Tryz.ntmps52
  go_wp2_with fail
  refine hund.mono ?_
  rintro e w1 ⟨U, v, rfl, hp, hO, hB1⟩
  obtain ⟨a, c, rfl, hc, hS⟩ := SlN.own hO
  have hUl : U.length ≤ 1000000 := by
    have h1 := hp.length_eq
    have h2 := List.length_filter_le (preB src) T.L
    omega
  have HB1 := Lib.hid hB1
  have HP := Lib.hid hp
  clear hB1 hp hO
  go_wp2
  go_loopw [15] (fun i wr => ∃ (k : Nat), k ≤ U.length ∧ i = .int .i64 (k : Int) ∧ Hid (Below w1.heap.size w1 wr) ∧ Hid (∀ j, j < k → (psplit (movedRaw src dst (U.getD j default).path)).isNone = false)) (fun i _ => U.length - (intOf i).toNat)
  case atStart => exact ⟨0, by omega, rfl, Lib.hid (Below.refl _ _), fun j hj => by omega⟩
  case round =>
    obtain ⟨k, hk, rfl, HB, HF⟩ := hrel
    by_cases hlt : k < U.length
    · obtain ⟨b, o, rfl, c0, c1, c2, hbl⟩ := (hS.below HB.out).at_ hlt
      have hki : (k : Int) < (U.length : Int) := by omega
      have hmem : U.getD k default ∈ T.L.filter (preB src) := HP.out.mem_iff.1 (by simp [List.getD, hlt])
      have hpre := preB_size (List.mem_filter.1 hmem).2
      have hpsz := HPs.out _ (List.mem_filter.1 hmem).1
      have HMem := Lib.hid hmem
      generalize hnd : U.getD k default = n at *
      obtain ⟨np, ni, nd⟩ := n
      dsimp only at c0 c1 c2 hpre hpsz
      have HNd := Lib.hid hnd
      have hsz : (np.extract src.size np.size).size ≤ 1000 := by rw [ByteArray.size_extract]; omega
      have hcat : ¬ 9223372036854775807 < dst.size + (np.extract src.size np.size).size := by omega
      have hraw : Hid (movedRaw src dst np = dst ++ np.extract src.size np.size) := rfl
      have hrs : (dst ++ np.extract src.size np.size).size ≤ maxLen := by rw [ByteArray.size_append]; unfold maxLen; omega
      have hle : src.size ≤ np.size := by omega
      clear hmem hnd
      generalize hX : np.extract src.size np.size = X at *
      have HX := Lib.hid hX
      have HSp : Hid (∀ W, Below w1.heap.size w1 W → Calls Tryz.prog 33 #[.string (dst ++ X)] W (SplitAns W (dst ++ X))) := fun W h => path_split _ W hrs (HM.out W (blw HB1.out h))
      clear hrs
      cases hps : psplit (dst ++ X) with
      | none =>
        have HS2 := Lib.hid hps
        have hfin : Hid (deepB src dst T.L = true) := Lib.hid (by
          unfold deepB
          rw [List.any_eq_true]
          exact ⟨_, HMem.out, by show (psplit (movedRaw src dst np)).isNone = true; rw [hraw.out, hps]; rfl⟩)
        clear hps
        go_wp2_with fail
        refine (HSp.out _ (HB.out.alloc HB.out.size _)).mono ?_
        intro e w3 hr
        obtain ⟨rfl, hB3⟩ := splitAns_none HS2.out hr
        clear hr
        go_wp2_with fail
        go_ret
        exact ⟨by rw [hfin.out]; rfl, blw HB1.out (blw (HB.out.alloc HB.out.size _) hB3)⟩
      | some Q =>
        have HS2 := Lib.hid hps
        have hfin : Hid ((psplit (movedRaw src dst np)).isNone = false) := Lib.hid (by rw [hraw.out, hps]; rfl)
        clear hps
        go_wp2_with fail
        refine (HSp.out _ (HB.out.alloc HB.out.size _)).mono ?_
        intro e w3 hr
        obtain ⟨a3, c3, rfl, _, _, hB3⟩ := splitAns_some HS2.out hr
        clear hr
        go_wp2_with fail
        refine ⟨⟨k + 1, by omega, by go_num, Lib.hid (blw (HB.out.alloc HB.out.size _) hB3), ?_⟩, by simp [intOf]; omega⟩
        intro j hj
        by_cases e : j = k
        · subst e; rw [HNd.out]; exact hfin.out
        · exact HF.out j (by omega)
    · obtain rfl : k = U.length := by omega
      have hfin : Hid (deepB src dst T.L = false) := Lib.hid (by
        unfold deepB
        rw [← any_perm HP.out, List.any_eq_false]
        intro n hn
        obtain ⟨j, hj, rfl⟩ := List.getElem_of_mem hn
        have e : U[j] = U.getD j default := by simp [List.getD, hj]
        rw [e, HF.out j hj]
        decide)
      have hlt' : decide ((U.length : Int) < (U.length : Int)) = false := by simp
      clear hlt HF
      go_wp2
      go_ret
      exact ⟨by rw [hfin.out]; rfl, blw HB1.out HB.out⟩
end Go.Proofs.YtahdmkmefeocmaaGreatDoor
