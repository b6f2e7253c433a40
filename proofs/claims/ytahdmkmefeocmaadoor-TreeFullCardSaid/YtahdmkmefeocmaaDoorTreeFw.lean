/- TreeFull: the walk. -/
import Derived.Test.YtahdmkmefeocmaaDoorTreeK
import Derived.Test.YtahdmkmefeocmaaDoorTreeF
import Derived.Test.YtahdmkmefeocmaaDoorOpenB
import Derived.Laws.IdiomStrings
namespace Go.Proofs.YtahdmkmefeocmaaDoor
open Go.RowKit Go.Lib
open Go.ChangeMaps (setBlock)

theorem conv_two (w : World) (x y : UInt8) (p q : Int) (hp : p = x.toNat) (hq : q = y.toNat) :
    (convert 37 9 (.slice (some ⟨w.heap.size, 0, none⟩) 2 2)).run Tryd.prog (w.alloc (.cells #[.int .u8 p, .int .u8 q] 5)) = .ok (.string ⟨#[x, y]⟩) (w.alloc (.cells #[.int .u8 p, .int .u8 q] 5)) := by
  subst hp
  subst hq
  have hn := World.news_of_block (cs := #[.int .u8 x.toNat, .int .u8 y.toNat]) (t := 5) (fr := (0, 0)) (heap_alloc_new w (.cells #[.int .u8 x.toNat, .int .u8 y.toNat] 5))
  refine run_convert_bytes_back (P := Tryd.prog) _ 37 9 5 ⟨w.heap.size, 0, none⟩ 2 [x, y] Tryd.underlying37 Tryd.underlying5 Tryd.underlying9 ?_
  intro j hj
  match j, hj with
  | 0, _ => exact hn 0 _ rfl
  | 1, _ => exact hn 1 _ rfl
  | j + 2, hj => simp at hj; omega
set_option maxRecDepth 100000 in
set_option maxHeartbeats 4000000 in
/-- The law's names. -/
theorem full_name (k : Nat) (hk : k < 64) (w : World) : Calls Tryd.prog 15 #[.int .i64 k] w fun e w' => e = .returned (.string (nm k)) ∧ Below w.heap.size w w' := by
  have hc := conv_two w (97 + k / 10).toUInt8 (48 + k % 10).toUInt8 (97 + (k : Int) / 10) (48 + (k : Int) % 10) (by simp [Nat.toUInt8, UInt8.toNat_ofNat]; omega) (by simp [Nat.toUInt8, UInt8.toNat_ofNat]; omega)
  have HApp : Hid ((⟨#[47, 110]⟩ : ByteArray) ++ ⟨#[(97 + k / 10).toUInt8, (48 + k % 10).toUInt8]⟩ = nm k) := bytes_ext (by rw [ByteArray.data_append, Array.toList_append]; rfl)
  generalize (97 + k / 10).toUInt8 = x at *
  generalize (48 + k % 10).toUInt8 = y at *
  go_enter Tryd.func15, Tryd.ntmps15
  go_wp2
  go_ret
  exact ⟨by rw [← HApp.out]; rfl, (Below.refl _ w).alloc (Nat.le_refl _) _⟩
theorem fd_nx (D : Nat → Bool) (k : Nat) (hk : k < 64) : (fd D k).nx = 65 := by unfold fd; rw [fd_spec D k hk]
set_option maxRecDepth 100000 in
set_option maxHeartbeats 8000000 in
theorem treeFull_walk (s0 : Option Addr) (c0 : Nat) (a0 : List Bool) (a1 : Int) (w : World) (i0 : SlB w s0 a0) (w0 : a0.length ≤ c0) (_x0 : c0 ≤ maxLen) (hu1 : 0 ≤ a1) (hu2 : a1 ≤ 255) (hm : MLen w) :
    Calls Tryd.prog 4 #[.slice s0 a0.length c0, .int .u8 a1] w fun e w' => e = .returned (.bool true) ∧ Below w.heap.size w w' := by
  have haw := awake13 w hm
  have HM := Lib.hid hm
  have HS := Lib.hid i0
  obtain ⟨q, rfl⟩ : ∃ q : Nat, a1 = q := ⟨a1.toNat, by omega⟩
  have hq : q ≤ 255 := by omega
  clear hm i0 hu1 hu2
  go_enter Tryd.func4, Tryd.ntmps4
  go_wp2_with fail
  refine haw.mono ?_
  rintro e v0 ⟨rfl, hb0⟩
  have hnew := k_new v0 (HM.out.below hb0)
  have HB0 := Lib.hid hb0
  clear hb0
  go_wp2_with fail
  refine hnew.mono ?_
  rintro e v1 ⟨tb, mb, rfl, hk⟩
  have HK0 := Lib.hid hk
  clear hk
  by_cases hl : 100 < a0.length
  · have d1 : decide ((100 : Int) < (a0.length : Int)) = true := decide_eq_true (by omega)
    go_wp2
    go_ret
    exact ⟨rfl, blw HB0.out HK0.out.below⟩
  · have hl2 : ¬ (100 : Int) < (a0.length : Int) := by omega
    obtain ⟨D, hD⟩ : ∃ D : Nat → Bool, ∀ j, a0.getD j false = D j := ⟨_, fun _ => rfl⟩
    have HD := Lib.hid hD
    clear hD
    have HK00 : Hid (TK v0 v1 tb mb (fs D 0)) := HK0
    clear HK0
    go_wp2
    go_loopw [7] (fun i wr => ∃ k : Nat, k ≤ 64 ∧ i = .int .i64 (k : Int) ∧ Hid (TK v0 wr tb mb (fs D k))) (fun i _ => 64 - (intOf i).toNat)
    case atStart => exact ⟨0, by omega, rfl, HK00⟩
    case round =>
      obtain ⟨k, hk, rfl, HK⟩ := hrel
      by_cases hlt : k < 64
      · have hki : (k : Int) < 64 := by omega
        go_wp2_with fail
        with_reducible refine Calls.mono (full_name k hlt wr) ?_
        rintro e y1 ⟨rfl, hb⟩
        have HK1 := Lib.hid (HK.out.bel hb)
        clear hb
        have HS1 := Lib.hid (HS.out.below (blw HB0.out HK1.out.below))
        have hmk : ∀ d, D k = d → Calls Tryd.prog 8 #[.pointer (some ⟨tb, 0, none⟩), .string (nm k), .bool d] y1 fun e w' => e = .returned (.tuple #[.int .i64 ((k : Int) + 1), .int .i64 0]) ∧ TK v0 w' tb mb (fs D (k + 1)) ∧ Turn [tb, mb] y1 w' := fun d hd => by
          subst hd
          exact k_make (nm k) (D k) (T := fs D k) (T' := fs D (k + 1)) HK1.out (by show (4 : Nat) ≤ _; omega) (by rw [(fs_spec D k hk).1]; omega) rfl (fs_make D k hlt)
        have HMk := Lib.hid hmk
        clear hmk
        by_cases hj : k < a0.length
        · have hji : (k : Int) < (a0.length : Int) := by omega
          obtain ⟨b, o, rfl, hcell⟩ := HS1.out.at_ hj
          rw [HD.out k] at hcell
          have hjc : (k : Int) < (c0 : Int) := by omega
          go_wp2_with fail
          with_reducible refine Calls.mono (HMk.out (D k) rfl) ?_
          rintro e y2 ⟨rfl, hk2, _⟩
          have HK2 := Lib.hid hk2
          clear hk2 hcell
          go_wp2
          exact ⟨⟨k + 1, by omega, by go_num, HK2⟩, by simp [intOf]; omega⟩
        · have hji : ¬ (k : Int) < (a0.length : Int) := by omega
          have hDf : D k = false := by rw [← HD.out k]; simp [List.getD, Nat.le_of_not_lt hj]
          go_wp2_with fail
          with_reducible refine Calls.mono (HMk.out false hDf) ?_
          rintro e y2 ⟨rfl, hk2, _⟩
          have HK2 := Lib.hid hk2
          clear hk2
          go_wp2
          exact ⟨⟨k + 1, by omega, by go_num, HK2⟩, by simp [intOf]; omega⟩
      · obtain rfl : k = 64 := by omega
        clear hlt HK00
        go_wp2_with fail
        with_reducible refine Calls.mono (k_make ⟨#[47, 109, 111, 114, 101]⟩ true (T := fs D 64) (T' := fs D 64) (n := 0) (c := 12) HK.out (by decide) (by rw [(fs_spec D 64 hk).1]; omega) (by rw [fs_full]) (by rw [fs_full])) ?_
        rintro e y1 ⟨rfl, hk1, _⟩
        have HK1 := Lib.hid hk1
        clear hk1 HK
        have e2 : (q : Int).tmod 64 = ((q % 64 : Nat) : Int) := by rw [Int.tmod_eq_emod_of_nonneg (by omega)]; omega
        obtain ⟨r, hr⟩ : ∃ r, q % 64 = r := ⟨_, rfl⟩
        have hr64 : r < 64 := by omega
        rw [hr] at e2
        clear hr
        go_wp2_with fail
        with_reducible refine Calls.mono (full_name r hr64 y1) ?_
        rintro e y2 ⟨rfl, hb⟩
        have HK2 := Lib.hid (HK1.out.bel hb)
        clear hb HK1
        have HS1 := Lib.hid (HS.out.below (blw HB0.out HK2.out.below))
        have hdr : ∀ d, D r = d → Calls Tryd.prog 12 #[.pointer (some ⟨tb, 0, none⟩), .string (nm r), .bool d] y2 fun e w' => e = .returned (.tuple #[.int .i64 ((r : Int) + 1), .int .i64 0]) ∧ TK v0 w' tb mb (fd D r) ∧ Turn [tb, mb] y2 w' := fun d hd => by
          subst hd
          exact k_drop (nm r) (D r) (T := fs D 64) (T' := fd D r) HK2.out (by show (4 : Nat) ≤ _; omega) rfl (by rw [fd_spec D r hr64])
        have HDr := Lib.hid hdr
        clear hdr e2
        by_cases hj : r < a0.length
        · have hji : (r : Int) < (a0.length : Int) := by omega
          obtain ⟨b, o, rfl, hcell⟩ := HS1.out.at_ hj
          rw [HD.out r] at hcell
          have hjc : (r : Int) < (c0 : Int) := by omega
          go_wp2_with fail
          with_reducible refine Calls.mono (HDr.out (D r) rfl) ?_
          rintro e y3 ⟨rfl, hk3, _⟩
          have HK3 := Lib.hid hk3
          clear hk3
          go_wp2_with fail
          with_reducible refine Calls.mono (k_make ⟨#[47, 109, 111, 114, 101]⟩ true (T := fd D r) (T' := (makeS (fd D r) moreP true).1) (n := 65) (c := 0) HK3.out (by decide) (by rw [fd_nx D r hr64]; decide) rfl (fd_more D r hr64).1) ?_
          rintro e y4 ⟨rfl, hk4, _⟩
          have hlen := tree_len y4 hk4.tree
          rw [(fd_more D r hr64).2] at hlen
          have HK4 := Lib.hid hk4
          clear hk4 HK3
          go_wp2_with (go_at_call 14; refine hlen.mono ?_; rintro e y5 ⟨rfl, rfl⟩)
          go_ret
          exact ⟨rfl, blw HB0.out HK4.out.below⟩
        · have hji : ¬ (r : Int) < (a0.length : Int) := by omega
          have hDf : D r = false := by rw [← HD.out r]; simp [List.getD, Nat.le_of_not_lt hj]
          go_wp2_with fail
          with_reducible refine Calls.mono (HDr.out false hDf) ?_
          rintro e y3 ⟨rfl, hk3, _⟩
          have HK3 := Lib.hid hk3
          clear hk3
          go_wp2_with fail
          with_reducible refine Calls.mono (k_make ⟨#[47, 109, 111, 114, 101]⟩ true (T := fd D r) (T' := (makeS (fd D r) moreP true).1) (n := 65) (c := 0) HK3.out (by decide) (by rw [fd_nx D r hr64]; decide) rfl (fd_more D r hr64).1) ?_
          rintro e y4 ⟨rfl, hk4, _⟩
          have hlen := tree_len y4 hk4.tree
          rw [(fd_more D r hr64).2] at hlen
          have HK4 := Lib.hid hk4
          clear hk4 HK3
          go_wp2_with (go_at_call 14; refine hlen.mono ?_; rintro e y5 ⟨rfl, rfl⟩)
          go_ret
          exact ⟨rfl, blw HB0.out HK4.out.below⟩
end Go.Proofs.YtahdmkmefeocmaaDoor
