/- TreeKnown: a tree by hand: each refusal, in order. (Printed by gen_known13.py.) -/
import Derived.Test.YtahdmkmefeocmaaDoorTreeK
namespace Go.Proofs.YtahdmkmefeocmaaDoor
open Go.RowKit Go.Lib
open Go.ChangeMaps (setBlock)

/-! ### The states -/
def ks0 : TS := ⟨[], 1⟩
def ks1 : TS := (makeS ks0 ⟨#[97]⟩ false).1
theorem ke1 : (makeS ks0 ⟨#[97]⟩ false).1 = ks1 := rfl
theorem kc1 : (makeS ks0 ⟨#[97]⟩ false).2.2 = 3 := by decide +kernel
theorem kx1 : ks0.nx < 9223372036854775807 := by decide +kernel
def ks2 : TS := (makeS ks1 ⟨#[47]⟩ true).1
theorem ke2 : (makeS ks1 ⟨#[47]⟩ true).1 = ks2 := rfl
theorem kc2 : (makeS ks1 ⟨#[47]⟩ true).2.2 = 5 := by decide +kernel
theorem kx2 : ks1.nx < 9223372036854775807 := by decide +kernel
def ks3 : TS := (makeS ks2 ⟨#[47, 120, 47, 121]⟩ false).1
theorem ke3 : (makeS ks2 ⟨#[47, 120, 47, 121]⟩ false).1 = ks3 := rfl
theorem kc3 : (makeS ks2 ⟨#[47, 120, 47, 121]⟩ false).2.2 = 4 := by decide +kernel
theorem kx3 : ks2.nx < 9223372036854775807 := by decide +kernel
def ks4 : TS := (makeS ks3 ⟨#[47, 100]⟩ true).1
theorem ke4 : (makeS ks3 ⟨#[47, 100]⟩ true).1 = ks4 := rfl
theorem kc4 : (makeS ks3 ⟨#[47, 100]⟩ true).2.2 = 0 := by decide +kernel
theorem kx4 : ks3.nx < 9223372036854775807 := by decide +kernel
def ks5 : TS := (makeS ks4 ⟨#[47, 100, 47, 101]⟩ true).1
theorem ke5 : (makeS ks4 ⟨#[47, 100, 47, 101]⟩ true).1 = ks5 := rfl
theorem kc5 : (makeS ks4 ⟨#[47, 100, 47, 101]⟩ true).2.2 = 0 := by decide +kernel
theorem kx5 : ks4.nx < 9223372036854775807 := by decide +kernel
def ks6 : TS := (makeS ks5 ⟨#[47, 102]⟩ false).1
theorem ke6 : (makeS ks5 ⟨#[47, 102]⟩ false).1 = ks6 := rfl
theorem kc6 : (makeS ks5 ⟨#[47, 102]⟩ false).2.2 = 0 := by decide +kernel
theorem kx6 : ks5.nx < 9223372036854775807 := by decide +kernel
def ks7 : TS := (makeS ks6 ⟨#[47, 102, 47, 103]⟩ false).1
theorem ke7 : (makeS ks6 ⟨#[47, 102, 47, 103]⟩ false).1 = ks7 := rfl
theorem kc7 : (makeS ks6 ⟨#[47, 102, 47, 103]⟩ false).2.2 = 7 := by decide +kernel
theorem kx7 : ks6.nx < 9223372036854775807 := by decide +kernel
def ks8 : TS := (makeS ks7 ⟨#[47, 100]⟩ false).1
theorem ke8 : (makeS ks7 ⟨#[47, 100]⟩ false).1 = ks8 := rfl
theorem kc8 : (makeS ks7 ⟨#[47, 100]⟩ false).2.2 = 5 := by decide +kernel
theorem kx8 : ks7.nx < 9223372036854775807 := by decide +kernel
def ks9 : TS := (renS ks8 ⟨#[47, 113]⟩ ⟨#[47, 122]⟩).1
theorem ke9 : (renS ks8 ⟨#[47, 113]⟩ ⟨#[47, 122]⟩).1 = ks9 := rfl
theorem kc9 : (renS ks8 ⟨#[47, 113]⟩ ⟨#[47, 122]⟩).2.2 = 4 := by decide +kernel
def ks10 : TS := (renS ks9 ⟨#[47]⟩ ⟨#[47, 122]⟩).1
theorem ke10 : (renS ks9 ⟨#[47]⟩ ⟨#[47, 122]⟩).1 = ks10 := rfl
theorem kc10 : (renS ks9 ⟨#[47]⟩ ⟨#[47, 122]⟩).2.2 = 8 := by decide +kernel
def ks11 : TS := (renS ks10 ⟨#[47, 100]⟩ ⟨#[47, 100, 47, 101, 47, 102]⟩).1
theorem ke11 : (renS ks10 ⟨#[47, 100]⟩ ⟨#[47, 100, 47, 101, 47, 102]⟩).1 = ks11 := rfl
theorem kc11 : (renS ks10 ⟨#[47, 100]⟩ ⟨#[47, 100, 47, 101, 47, 102]⟩).2.2 = 10 := by decide +kernel
def ks12 : TS := (renS ks11 ⟨#[47, 100]⟩ ⟨#[47, 120, 47, 121]⟩).1
theorem ke12 : (renS ks11 ⟨#[47, 100]⟩ ⟨#[47, 120, 47, 121]⟩).1 = ks12 := rfl
theorem kc12 : (renS ks11 ⟨#[47, 100]⟩ ⟨#[47, 120, 47, 121]⟩).2.2 = 4 := by decide +kernel
def ks13 : TS := (renS ks12 ⟨#[47, 100]⟩ ⟨#[47, 102, 47, 121]⟩).1
theorem ke13 : (renS ks12 ⟨#[47, 100]⟩ ⟨#[47, 102, 47, 121]⟩).1 = ks13 := rfl
theorem kc13 : (renS ks12 ⟨#[47, 100]⟩ ⟨#[47, 102, 47, 121]⟩).2.2 = 7 := by decide +kernel
def ks14 : TS := (renS ks13 ⟨#[47, 100]⟩ ⟨#[47, 100]⟩).1
theorem ke14 : (renS ks13 ⟨#[47, 100]⟩ ⟨#[47, 100]⟩).1 = ks14 := rfl
theorem kc14 : (renS ks13 ⟨#[47, 100]⟩ ⟨#[47, 100]⟩).2.2 = 0 := by decide +kernel
def ks15 : TS := (renS ks14 ⟨#[47, 102]⟩ ⟨#[47, 100]⟩).1
theorem ke15 : (renS ks14 ⟨#[47, 102]⟩ ⟨#[47, 100]⟩).1 = ks15 := rfl
theorem kc15 : (renS ks14 ⟨#[47, 102]⟩ ⟨#[47, 100]⟩).2.2 = 5 := by decide +kernel
def ks16 : TS := (renS ks15 ⟨#[47, 100]⟩ ⟨#[47, 102]⟩).1
theorem ke16 : (renS ks15 ⟨#[47, 100]⟩ ⟨#[47, 102]⟩).1 = ks16 := rfl
theorem kc16 : (renS ks15 ⟨#[47, 100]⟩ ⟨#[47, 102]⟩).2.2 = 5 := by decide +kernel
def ks17 : TS := (renS ks16 ⟨#[47, 102]⟩ ⟨#[47]⟩).1
theorem ke17 : (renS ks16 ⟨#[47, 102]⟩ ⟨#[47]⟩).1 = ks17 := rfl
theorem kc17 : (renS ks16 ⟨#[47, 102]⟩ ⟨#[47]⟩).2.2 = 5 := by decide +kernel
def ks18 : TS := (renS ks17 ⟨#[47, 102]⟩ ⟨#[113]⟩).1
theorem ke18 : (renS ks17 ⟨#[47, 102]⟩ ⟨#[113]⟩).1 = ks18 := rfl
theorem kc18 : (renS ks17 ⟨#[47, 102]⟩ ⟨#[113]⟩).2.2 = 3 := by decide +kernel
def ks19 : TS := (dropS ks18 ⟨#[47, 100]⟩ true).1
theorem ke19 : (dropS ks18 ⟨#[47, 100]⟩ true).1 = ks19 := rfl
theorem kc19 : (dropS ks18 ⟨#[47, 100]⟩ true).2.2 = 8 := by decide +kernel
def ks20 : TS := (dropS ks19 ⟨#[47, 100]⟩ false).1
theorem ke20 : (dropS ks19 ⟨#[47, 100]⟩ false).1 = ks20 := rfl
theorem kc20 : (dropS ks19 ⟨#[47, 100]⟩ false).2.2 = 6 := by decide +kernel
def ks21 : TS := (dropS ks20 ⟨#[47, 102]⟩ true).1
theorem ke21 : (dropS ks20 ⟨#[47, 102]⟩ true).1 = ks21 := rfl
theorem kc21 : (dropS ks20 ⟨#[47, 102]⟩ true).2.2 = 7 := by decide +kernel
def ks22 : TS := (dropS ks21 ⟨#[47]⟩ true).1
theorem ke22 : (dropS ks21 ⟨#[47]⟩ true).1 = ks22 := rfl
theorem kc22 : (dropS ks21 ⟨#[47]⟩ true).2.2 = 8 := by decide +kernel
def ks23 : TS := (dropS ks22 ⟨#[47, 113]⟩ true).1
theorem ke23 : (dropS ks22 ⟨#[47, 113]⟩ true).1 = ks23 := rfl
theorem kc23 : (dropS ks22 ⟨#[47, 113]⟩ true).2.2 = 4 := by decide +kernel
def ks24 : TS := (renS ks23 ⟨#[47, 102]⟩ ⟨#[47, 100, 47, 101, 47, 104]⟩).1
theorem ke24 : (renS ks23 ⟨#[47, 102]⟩ ⟨#[47, 100, 47, 101, 47, 104]⟩).1 = ks24 := rfl
theorem kc24 : (renS ks23 ⟨#[47, 102]⟩ ⟨#[47, 100, 47, 101, 47, 104]⟩).2.2 = 0 := by decide +kernel
def ks25 : TS := (dropS ks24 ⟨#[47, 100, 47, 101, 47, 104]⟩ false).1
theorem ke25 : (dropS ks24 ⟨#[47, 100, 47, 101, 47, 104]⟩ false).1 = ks25 := rfl
theorem kc25 : (dropS ks24 ⟨#[47, 100, 47, 101, 47, 104]⟩ false).2.2 = 0 := by decide +kernel
def ks26 : TS := (dropS ks25 ⟨#[47, 100, 47, 101]⟩ true).1
theorem ke26 : (dropS ks25 ⟨#[47, 100, 47, 101]⟩ true).1 = ks26 := rfl
theorem kc26 : (dropS ks25 ⟨#[47, 100, 47, 101]⟩ true).2.2 = 0 := by decide +kernel
def kd0 : TS := (makeS ks26 ⟨#[47, 115]⟩ true).1
theorem kd0e : (makeS ks26 ⟨#[47, 115]⟩ true).1 = kd0 := rfl
theorem kd0c : (makeS ks26 ⟨#[47, 115]⟩ true).2.2 = 0 := by decide +kernel
theorem kd0x : ks26.nx < 9223372036854775807 := by decide +kernel
def dp : Nat → ByteArray
  | 0 => ⟨#[47, 115]⟩
  | k + 1 => dp k ++ ⟨#[47, 115]⟩
def kd : Nat → TS
  | 0 => kd0
  | k + 1 => (makeS (kd k) (dp (k + 1)) true).1
theorem kde (k : Nat) : (makeS (kd k) (dp k ++ ⟨#[47, 115]⟩) true).1 = kd (k + 1) := rfl
theorem kd_ok : ∀ k, k < 6 → (makeS (kd k) (dp (k + 1)) true).2.2 = 0 ∧ (kd k).nx < 9223372036854775807 ∧ (dp k).size ≤ 100 ∧ (dp (k + 1)).size ≤ 100 := by decide +kernel
def kf : TS := (renS (kd 6) ⟨#[47, 115]⟩ ⟨#[47, 100, 47, 115]⟩).1
theorem kfe : (renS (kd 6) ⟨#[47, 115]⟩ ⟨#[47, 100, 47, 115]⟩).1 = kf := rfl
theorem kfc : (renS (kd 6) ⟨#[47, 115]⟩ ⟨#[47, 100, 47, 115]⟩).2.2 = 0 := by decide +kernel
def kg : TS := (renS kf ⟨#[47, 115]⟩ ⟨#[47, 100, 47, 115, 47, 116]⟩).1
theorem kge : (renS kf ⟨#[47, 115]⟩ ⟨#[47, 100, 47, 115, 47, 116]⟩).1 = kg := rfl
theorem kgc : (renS kf ⟨#[47, 115]⟩ ⟨#[47, 100, 47, 115, 47, 116]⟩).2.2 = 4 := by decide +kernel
theorem kgl : canListS kg.L ⟨#[47, 113]⟩ = 4 := by decide +kernel
theorem kgn : kg.L.length = 8 := by decide +kernel
def kh : TS := (renS kg ⟨#[47, 100]⟩ ⟨#[47, 100, 50]⟩).1
theorem khe : (renS kg ⟨#[47, 100]⟩ ⟨#[47, 100, 50]⟩).1 = kh := rfl
theorem khc : (renS kg ⟨#[47, 100]⟩ ⟨#[47, 100, 50]⟩).2.2 = 0 := by decide +kernel
def ki : TS := (makeS kh ⟨#[47, 118]⟩ true).1
theorem kie : (makeS kh ⟨#[47, 118]⟩ true).1 = ki := rfl
theorem kic : (makeS kh ⟨#[47, 118]⟩ true).2.2 = 0 := by decide +kernel
theorem kix : kh.nx < 9223372036854775807 := by decide +kernel
def kj : TS := (renS ki ⟨#[47, 100, 50]⟩ ⟨#[47, 118, 47, 119]⟩).1
theorem kje : (renS ki ⟨#[47, 100, 50]⟩ ⟨#[47, 118, 47, 119]⟩).1 = kj := rfl
theorem kjc : (renS ki ⟨#[47, 100, 50]⟩ ⟨#[47, 118, 47, 119]⟩).2.2 = 3 := by decide +kernel

/-! ### The law's closures -/
set_option maxRecDepth 100000 in
theorem kl_make (s : ByteArray) (dir : Bool) {w0 w : World} {tb mb pb : Nat} {T T' : TS} {c : Int} (h : TK w0 w tb mb T) (hv : TV w tb mb pb) (hs : s.size ≤ 100000) (hnx : T.nx < 9223372036854775807) (h1 : (makeS T s dir).1 = T') (h2 : (makeS T s dir).2.2 = c) :
    Calls Tryd.prog 7 #[.string s, .bool dir, .pointer (some ⟨pb, 0, none⟩)] w fun e w' => e = .returned (.int .i64 c) ∧ TK w0 w' tb mb T' ∧ TV w' tb mb pb ∧ Turn [tb, mb] w w' := by
  have hk := k_make s dir h hs hnx h1 (n := (makeS T s dir).2.1) (c := c) (by rw [← h2])
  have hc := hv.cell
  have HV := Lib.hid hv
  clear h hv h1 h2
  go_enter Tryd.func7, Tryd.ntmps7
  go_wp2_with fail
  refine hk.mono ?_
  rintro e w1 ⟨rfl, h1, h2⟩
  go_wp2
  go_ret
  exact ⟨rfl, h1, HV.out.turn h2, h2⟩
set_option maxRecDepth 100000 in
theorem kl_ren (src dst : ByteArray) {w0 w : World} {tb mb pb : Nat} {T T' : TS} {c : Int} (h : TK w0 w tb mb T) (hv : TV w tb mb pb) (hs : src.size ≤ 100000) (hd : dst.size ≤ 100000) (h1 : (renS T src dst).1 = T') (h2 : (renS T src dst).2.2 = c) :
    Calls Tryd.prog 9 #[.string src, .string dst, .pointer (some ⟨pb, 0, none⟩)] w fun e w' => e = .returned (.int .i64 c) ∧ TK w0 w' tb mb T' ∧ TV w' tb mb pb ∧ Turn [tb, mb] w w' := by
  have hk := k_ren src dst h hs hd h1 (n := (renS T src dst).2.1) (c := c) (by rw [← h2])
  have hc := hv.cell
  have HV := Lib.hid hv
  clear h hv h1 h2
  go_enter Tryd.func9, Tryd.ntmps9
  go_wp2_with fail
  refine hk.mono ?_
  rintro e w1 ⟨rfl, h1, h2⟩
  go_wp2
  go_ret
  exact ⟨rfl, h1, HV.out.turn h2, h2⟩
set_option maxRecDepth 100000 in
theorem kl_drop (s : ByteArray) (dir : Bool) {w0 w : World} {tb mb pb : Nat} {T T' : TS} {c : Int} (h : TK w0 w tb mb T) (hv : TV w tb mb pb) (hs : s.size ≤ 100000) (h1 : (dropS T s dir).1 = T') (h2 : (dropS T s dir).2.2 = c) :
    Calls Tryd.prog 11 #[.string s, .bool dir, .pointer (some ⟨pb, 0, none⟩)] w fun e w' => e = .returned (.int .i64 c) ∧ TK w0 w' tb mb T' ∧ TV w' tb mb pb ∧ Turn [tb, mb] w w' := by
  have hk := k_drop s dir h hs h1 (n := (dropS T s dir).2.1) (c := c) (by rw [← h2])
  have hc := hv.cell
  have HV := Lib.hid hv
  clear h hv h1 h2
  go_enter Tryd.func11, Tryd.ntmps11
  go_wp2_with fail
  refine hk.mono ?_
  rintro e w1 ⟨rfl, h1, h2⟩
  go_wp2
  go_ret
  exact ⟨rfl, h1, HV.out.turn h2, h2⟩
end Go.Proofs.YtahdmkmefeocmaaDoor
