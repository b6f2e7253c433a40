/- Rising rows of numbers; the pieces that parts use. Plain, and as a map's keys. -/
import Derived.Test.YtiegadfhgccliaaGreatDoorMFoldM
import Derived.Test.YtiegadfhgccliaaGreatDoorMIterI
namespace Go.Proofs.YtiegadfhgccliaaGreatDoor
open Go.RowKit Go.Lib Go.Maps
open Go.ChangeMaps (setBlock)
open Go.WideElems (Fit rd rg rg_of)

def RiseI (l : List Int) : Prop := l.Pairwise fun a b => a < b
def insI (n : Int) : List Int → List Int
  | [] => [n]
  | m :: r => if m < n then m :: insI n r else if m = n then m :: r else n :: m :: r
theorem insI_mem {n x : Int} : ∀ {l : List Int}, x ∈ insI n l ↔ x = n ∨ x ∈ l
  | [] => by simp [insI]
  | m :: r => by
    unfold insI
    split
    · rw [List.mem_cons, insI_mem, List.mem_cons]
      constructor
      · rintro (h | h | h)
        · exact .inr (.inl h)
        · exact .inl h
        · exact .inr (.inr h)
      · rintro (h | h | h)
        · exact .inr (.inl h)
        · exact .inl h
        · exact .inr (.inr h)
    · split
      · rename_i h
        subst h
        rw [List.mem_cons]
        constructor
        · rintro (h | h)
          · exact .inl h
          · exact .inr (.inr h)
        · rintro (h | h | h)
          · exact .inl h
          · exact .inl h
          · exact .inr h
      · rw [List.mem_cons]
theorem insI_rise {n : Int} : ∀ {l : List Int}, RiseI l → RiseI (insI n l)
  | [], _ => by simp [insI, RiseI]
  | m :: r, h => by
    obtain ⟨h1, h2⟩ := List.pairwise_cons.1 h
    unfold insI
    split
    · refine List.pairwise_cons.2 ⟨fun x hx => ?_, insI_rise h2⟩
      rcases insI_mem.1 hx with rfl | hx
      · assumption
      · exact h1 x hx
    · split
      · exact h
      · refine List.pairwise_cons.2 ⟨fun x hx => ?_, h⟩
        rcases List.mem_cons.1 hx with rfl | hx
        · omega
        · have := h1 x hx; omega
theorem RiseI.nodup {l : List Int} (h : RiseI l) : l.Nodup := h.imp fun h e => by subst e; exact absurd h (Int.lt_irrefl _)
theorem riseI_uniq {a b : List Int} (ha : RiseI a) (hb : RiseI b) (h : ∀ x, x ∈ a ↔ x ∈ b) : a = b :=
  List.Perm.eq_of_pairwise (le := fun a b : Int => a < b) (fun a b _ _ h1 h2 => by omega) ha hb ((List.perm_ext_iff_of_nodup ha.nodup hb.nodup).2 h)
def usesB (L : List Bp) (U : List Int) : List Int := L.foldl (fun U p => insI p.ch U) U
theorem usesB_mem {x : Int} : ∀ {L : List Bp} {U : List Int}, x ∈ usesB L U ↔ x ∈ U ∨ ∃ p ∈ L, p.ch = x
  | [], U => by simp [usesB]
  | p :: r, U => by
    show x ∈ usesB r (insI p.ch U) ↔ _
    rw [usesB_mem, insI_mem]
    constructor
    · rintro ((h | h) | ⟨q, h1, h2⟩)
      · exact .inr ⟨p, by simp, h.symm⟩
      · exact .inl h
      · exact .inr ⟨q, by simp [h1], h2⟩
    · rintro (h | ⟨q, h1, h2⟩)
      · exact .inl (.inr h)
      · rcases List.mem_cons.1 h1 with rfl | h1
        · exact .inl (.inl h2.symm)
        · exact .inr ⟨q, h1, h2⟩
theorem usesB_rise : ∀ {L : List Bp} {U : List Int}, RiseI U → RiseI (usesB L U)
  | [], _, h => h
  | _ :: r, _, h => usesB_rise (L := r) (insI_rise h)
theorem rise_nil : RiseI [] := List.Pairwise.nil
def usesS (fs : List (Int × Bd)) (U : List Int) : List Int := fs.foldl (fun U f => usesB f.2.parts U) U
theorem usesS_mem {x : Int} : ∀ {L : List (Int × Bd)} {U : List Int}, x ∈ usesS L U ↔ x ∈ U ∨ ∃ f ∈ L, ∃ p ∈ f.2.parts, p.ch = x
  | [], U => by simp [usesS]
  | f :: r, U => by
    show x ∈ usesS r (usesB f.2.parts U) ↔ _
    rw [usesS_mem, usesB_mem]
    constructor
    · rintro ((h | h) | ⟨q, h1, h2⟩)
      · exact .inl h
      · exact .inr ⟨f, by simp, h⟩
      · exact .inr ⟨q, by simp [h1], h2⟩
    · rintro (h | ⟨q, h1, h2⟩)
      · exact .inl (.inl h)
      · rcases List.mem_cons.1 h1 with rfl | h1
        · exact .inl (.inr h2)
        · exact .inr ⟨q, h1, h2⟩
theorem usesS_rise : ∀ {L : List (Int × Bd)} {U : List Int}, RiseI U → RiseI (usesS L U)
  | [], _, h => h
  | _ :: r, _, h => usesS_rise (L := r) (usesB_rise h)
/-- A set of numbers as a map. -/
def addK (k : Int) (K : List Int) : List Int := if k ∈ K then K else K ++ [k]
theorem addK_mem {k x : Int} {K : List Int} : x ∈ addK k K ↔ x = k ∨ x ∈ K := by
  unfold addK
  split
  · constructor
    · exact .inr
    · rintro (rfl | h) <;> assumption
  · rw [List.mem_append, List.mem_singleton]; exact Or.comm
theorem addK_len (k : Int) (K : List Int) : (addK k K).length ≤ K.length + 1 := by
  unfold addK
  split
  · omega
  · simp
def entsB (K : List Int) : List (Int × Value) := K.map fun k => (k, Value.bool true)
theorem mput_true (k : Int) (K : List Int) : mput k (.bool true) (entsB K) = entsB (addK k K) := by
  unfold mput entsB addK
  by_cases h : k ∈ K
  · rw [if_pos h, if_pos (by rw [List.any_eq_true]; exact ⟨(k, .bool true), List.mem_map.2 ⟨k, h, rfl⟩, by simp⟩), List.map_map]
    refine List.map_congr_left fun x _ => ?_
    show (if x = k then (k, Value.bool true) else (x, Value.bool true)) = (x, Value.bool true)
    split
    · rename_i e; rw [e]
    · rfl
  · rw [if_neg h, if_neg (by
      rw [List.any_eq_true]
      rintro ⟨p, hp, e⟩
      obtain ⟨x, hx, rfl⟩ := List.mem_map.1 hp
      exact h (by have : x = k := by simpa using e
                  rw [← this]; exact hx)), List.map_append]
    rfl
theorem sorted_keys {K U ss : List Int} (hK : K.Nodup) (hs : ss.Perm K) (hU : RiseI U) (h : ∀ x, x ∈ K ↔ x ∈ U) : ss.mergeSort (fun x y => decide (x ≤ y)) = U := by
  have hp := (List.mergeSort_perm ss (fun x y : Int => decide (x ≤ y))).trans hs
  have h1 := List.pairwise_mergeSort (le := fun x y : Int => decide (x ≤ y)) (fun a b c h1 h2 => by simp at h1 h2 ⊢; omega) (fun a b => by simp; omega) ss
  have hn : (ss.mergeSort (fun x y => decide (x ≤ y))).Nodup := hp.nodup_iff.2 hK
  have hr : RiseI (ss.mergeSort (fun x y => decide (x ≤ y))) := by
    refine (h1.and hn).imp fun {a b} h => ?_
    have h2 : a ≤ b := by simpa using h.1
    have := h.2
    omega
  exact riseI_uniq hr hU fun x => by rw [hp.mem_iff]; exact h x

/-! ### Rows of numbers -/
def encI : EncK Int where
  enc x := [.int .i64 x]
  K := 1
  pos := by decide
  len _ := rfl
  one x u hu := by
    simp at hu
    subst hu; rfl
abbrev SlI (w : World) (a : Option Addr) (L : List Int) : Prop := SlK encI w a L
theorem SlI_at {w : World} {a : Option Addr} {L : List Int} (h : SlI w a L) {k : Nat} (hk : k < L.length) : ∃ b o, a = some ⟨b, o, none⟩ ∧ w.cell? ⟨b, o + k, none⟩ = some (.int .i64 (L.getD k default)) ∧ b < w.heap.size := by
  obtain ⟨b, o, e, h1, h2⟩ := h.at_ hk
  have := h1 0 _ rfl
  have e1 : encI.K = 1 := rfl
  rw [e1, Nat.mul_one, Nat.add_zero] at this
  exact ⟨b, o, e, this, h2⟩
theorem cellsI (L : List Int) : encI.cells L = L.map (Value.int .i64) := by
  induction L with
  | nil => rfl
  | cons x r ih => unfold EncK.cells at *; rw [List.flatMap_cons, ih]; rfl
/-- What slices.Sorted(maps.Keys(m)) asks of a map of numbers. -/
def keyI : Value → Int
  | .int .i64 n => n
  | _ => 0
theorem keysK : ∀ K : List Int, ((entsB K).map fun p => (intKey.enc p.1, p.2)).map (fun q => keyI q.1) = K
  | [] => rfl
  | k :: r => congrArg (k :: ·) (keysK r)
def rAnyI : Value → Option (DataW Unit × List MemPlace) := fun _ => some (.nil, [])
theorem keysI_of {P : Program} {k : TypeId} {R : Value → Option (DataW Unit × List MemPlace)} {es : List MapEntry} (h : ∀ x ∈ es, ∃ s : Int, x.key = .int .i64 s ∧ rd P k R x = some (.int .i64 s, .nil)) :
    (es.map (rg P k R)).map (fun p => Go.intOf p.1) = (es.map fun e => (e.key, e.val)).map fun q => keyI q.1 := by
  rw [List.map_map, List.map_map]
  refine List.map_congr_left fun x hx => ?_
  obtain ⟨s, h1, h2⟩ := h x hx
  show Go.intOf (rg P k R x).1 = keyI x.key
  rw [rg_of h2, h1]
  rfl
theorem MapIs.ownsI {w : World} {mb : Nat} {K : List Int} (h : MapIs intKey w mb (entsB K)) (hw : ∀ k ∈ K, -9223372036854775808 ≤ k ∧ k ≤ 9223372036854775807) (hn : K.length ≤ maxLen) :
    ∃ D : DataW Unit, w.ownsMap Tryz.prog 3 rAnyI mb K.length D ∧ (intKeys D).Perm K ∧ Maps.size D = K.length := by
  obtain ⟨es, clock, hb, hst, hM⟩ := h
  have hl : es.size = K.length := by
    have := congrArg List.length hM
    simpa [entsB] using this
  have hrd : ∀ x ∈ es.toList, ∃ s : Int, x.key = .int .i64 s ∧ rd Tryz.prog 3 rAnyI x = some (.int .i64 s, .nil) := by
    intro x hx
    obtain ⟨p, hp, e1, _⟩ := es_keys (K := intKey) hM x hx
    obtain ⟨k, hk1, rfl⟩ := List.mem_map.1 hp
    have e1 : x.key = .int .i64 k := e1
    refine ⟨k, e1, ?_⟩
    have hsz := hw k hk1
    have hwf : (Lit.int .i64 k).wf = true := by
      show (decide (IntKind.i64.min ≤ k) && decide (k ≤ IntKind.i64.max)) = true
      rw [show IntKind.i64.min = -9223372036854775808 by decide, show IntKind.i64.max = 9223372036854775807 by decide, decide_eq_true hsz.1, decide_eq_true hsz.2]
      rfl
    have hk : keyOf Tryz.prog 3 x.key = some (.int .i64 k) := by
      rw [e1]
      unfold keyOf
      rw [Tryz.underlying3]
      simp [mapKey, hwf]
    simp [rd, hk, rAnyI]
  refine ⟨_, ⟨es, clock, hb, ⟨by omega, hst, fun x hx => ?_⟩, by omega, rfl⟩, ?_, ?_⟩
  · obtain ⟨s, _, h2⟩ := hrd x hx
    exact ⟨_, h2⟩
  · show (((es.toList.map (rg Tryz.prog 3 rAnyI)).foldr DataW.insert []).map fun p => Go.intOf p.1).Perm _
    have hp := (Go.WideShapes.sorted_perm (es.toList.map (rg Tryz.prog 3 rAnyI))).map (fun p => Go.intOf p.1)
    refine hp.trans ?_
    have e1 := keysI_of hrd
    have e2 : (es.toList.map fun e => (e.key, e.val)).map (fun q => keyI q.1) = K := (congrArg (List.map fun q => keyI q.1) hM).trans (keysK K)
    exact (e1.trans e2) ▸ List.Perm.refl _
  · show ((es.toList.map (rg Tryz.prog 3 rAnyI)).foldr DataW.insert []).length = K.length
    rw [(Go.WideShapes.sorted_perm _).length_eq, List.length_map, Array.length_toList, hl]
end Go.Proofs.YtiegadfhgccliaaGreatDoor
