/- Maps whose keys are strings or integers, as association lists: look-up, store, delete, len, at the run. No program in sight. -/
import Derived.WalkKit
import Derived.ProofKit
namespace Go.Proofs.YtahdmkmefeocmaaDoor
open Go.ChangeMaps (setBlock map_eraseIdx)
open Go.MapKept (IsKey Stamped findNow_spec stamped_push stamped_modify stamped_erase run_findKey run_keyThatStays)

/-- How a key's type lies in a map. -/
structure KeyOf (κ : Type) where
  d : TypeDesc
  enc : κ → Value
  isKey : ∀ a, IsKey d (enc a)
  inj : ∀ a b, enc a = enc b → a = b
def strKey : KeyOf ByteArray := ⟨.string, Value.string, fun _ => trivial, fun a b h => by cases h; rfl⟩
def intKey : KeyOf Int := ⟨.int .i64, Value.int .i64, fun _ => rfl, fun a b h => by cases h; rfl⟩

variable {κ : Type}

def look [DecidableEq κ] (k : κ) (M : List (κ × Value)) : Option Value := (M.find? fun p => decide (p.1 = k)).map (·.2)
def mput [DecidableEq κ] (k : κ) (v : Value) (M : List (κ × Value)) : List (κ × Value) := if M.any (fun p => decide (p.1 = k)) then M.map (fun p => if p.1 = k then (k, v) else p) else M ++ [(k, v)]
def mdel [DecidableEq κ] (k : κ) (M : List (κ × Value)) : List (κ × Value) := M.filter fun p => decide (p.1 ≠ k)

/-- Block mb is a map that holds just M, in the order in which its keys came. -/
def MapIs (K : KeyOf κ) (w : World) (mb : Nat) (M : List (κ × Value)) : Prop :=
  ∃ es clock, w.heap[mb]? = some (.map es clock) ∧ Stamped es clock ∧ es.toList.map (fun e => (e.key, e.val)) = M.map fun p => (K.enc p.1, p.2)

theorem MapIs.lt {K : KeyOf κ} {w : World} {mb : Nat} {M : List (κ × Value)} (h : MapIs K w mb M) : mb < w.heap.size := by
  obtain ⟨es, clock, hb, _⟩ := h
  exact (Array.getElem?_eq_some_iff.1 hb).1
theorem MapIs.of_block {K : KeyOf κ} {w w' : World} {mb : Nat} {M : List (κ × Value)} (h : MapIs K w mb M) (e : w'.heap[mb]? = w.heap[mb]?) : MapIs K w' mb M := by
  obtain ⟨es, clock, hb, r⟩ := h
  exact ⟨es, clock, e.trans hb, r⟩
theorem MapIs.below {K : KeyOf κ} {w w' : World} {mb B : Nat} {M : List (κ × Value)} (h : MapIs K w mb M) (hb : RowKit.Below B w w') (hl : mb < B) : MapIs K w' mb M := h.of_block (hb.block mb hl)
theorem MapIs.new (K : KeyOf κ) (w : World) : MapIs K (w.alloc (.map #[] 0)) w.heap.size [] :=
  ⟨#[], 0, (MapKept.heap_alloc w _).1, ⟨by simp, by simp, by simp⟩, rfl⟩

theorem keys_nodup {K : KeyOf κ} {es : Array MapEntry} {clock : Nat} {M : List (κ × Value)} (hs : Stamped es clock) (hM : es.toList.map (fun e => (e.key, e.val)) = M.map fun p => (K.enc p.1, p.2)) : (M.map (·.1)).Nodup := by
  have h := hs.2.2
  have e1 : es.toList.map (·.key) = (es.toList.map (fun e => (e.key, e.val))).map (·.1) := by rw [List.map_map]; rfl
  rw [e1, hM, List.map_map] at h
  have e2 : (M.map ((fun x => x.1) ∘ fun p => (K.enc p.1, p.2))) = (M.map (·.1)).map K.enc := by rw [List.map_map]; rfl
  rw [e2] at h
  exact List.Pairwise.of_map _ (fun a b hab e => hab (by rw [e])) h
theorem MapIs.nodup {K : KeyOf κ} {w : World} {mb : Nat} {M : List (κ × Value)} (h : MapIs K w mb M) : (M.map (·.1)).Nodup := by
  obtain ⟨es, clock, _, hs, hM⟩ := h
  exact keys_nodup hs hM

theorem es_keys {K : KeyOf κ} {es : Array MapEntry} {M : List (κ × Value)} (hM : es.toList.map (fun e => (e.key, e.val)) = M.map fun p => (K.enc p.1, p.2)) :
    ∀ x ∈ es.toList, ∃ p ∈ M, x.key = K.enc p.1 ∧ x.val = p.2 := by
  intro x hx
  have : (x.key, x.val) ∈ M.map fun p => (K.enc p.1, p.2) := by rw [← hM]; exact List.mem_map.2 ⟨x, hx, rfl⟩
  obtain ⟨p, hp, e⟩ := List.mem_map.1 this
  exact ⟨p, hp, (Prod.mk.inj e).1.symm, (Prod.mk.inj e).2.symm⟩

/-- Which entry, if any. -/
theorem find_entry (K : KeyOf κ) {es : Array MapEntry} {M : List (κ × Value)} (hM : es.toList.map (fun e => (e.key, e.val)) = M.map fun p => (K.enc p.1, p.2)) (k : κ) :
    (Instr.findNow K.d (K.enc k) es.toList 0 = some none ∧ (∀ p ∈ M, p.1 ≠ k) ∧ ∀ x ∈ es.toList, x.key ≠ K.enc k) ∨
    ∃ j e v, Instr.findNow K.d (K.enc k) es.toList 0 = some (some (j, v)) ∧ es.toList[j]? = some e ∧ e.key = K.enc k ∧ e.val = v ∧ M[j]? = some (k, v) := by
  have hk : ∀ x ∈ es.toList, IsKey K.d x.key := fun x hx => by
    obtain ⟨p, _, e, _⟩ := es_keys hM x hx
    rw [e]; exact K.isKey _
  rcases findNow_spec (K.isKey k) es.toList 0 hk with ⟨h1, h2⟩ | ⟨j, e, h1, h2, h3⟩
  · left
    refine ⟨h1, ?_, h2⟩
    intro p hp e
    have : (K.enc p.1, p.2) ∈ es.toList.map (fun e => (e.key, e.val)) := by rw [hM]; exact List.mem_map.2 ⟨p, hp, rfl⟩
    obtain ⟨x, hx, ex⟩ := List.mem_map.1 this
    exact h2 x hx (by rw [(Prod.mk.inj ex).1, e])
  · right
    refine ⟨j, e, e.val, by simpa using h1, h2, h3, rfl, ?_⟩
    have : (es.toList.map (fun e => (e.key, e.val)))[j]? = some (e.key, e.val) := by rw [List.getElem?_map, h2]; rfl
    rw [hM, List.getElem?_map] at this
    cases hm : M[j]? with
    | none => rw [hm] at this; cases this
    | some p =>
      rw [hm] at this
      simp only [Option.map_some, Option.some.injEq, Prod.mk.injEq] at this
      have e1 : p.1 = k := K.inj _ _ (this.1.trans h3)
      rw [← e1, ← this.2]

theorem look_none [DecidableEq κ] {k : κ} {M : List (κ × Value)} (h : ∀ p ∈ M, p.1 ≠ k) : look k M = none := by
  unfold look
  rw [List.find?_eq_none.2 (by intro p hp; simp [h p hp])]; rfl
theorem look_some [DecidableEq κ] {k : κ} {v : Value} {M : List (κ × Value)} {j : Nat} (hn : (M.map (·.1)).Nodup) (h : M[j]? = some (k, v)) : look k M = some v := by
  induction M generalizing j with
  | nil => cases h
  | cons p M ih =>
    cases j with
    | zero =>
      simp at h; subst h
      simp [look]
    | succ j =>
      simp at h
      have hmem : (k, v) ∈ M := List.mem_of_getElem? h
      have hne : p.1 ≠ k := by
        intro e
        simp only [List.map_cons, List.nodup_cons] at hn
        exact hn.1 (List.mem_map.2 ⟨(k, v), hmem, e.symm⟩)
      have := ih (by simp only [List.map_cons, List.nodup_cons] at hn; exact hn.2) h
      unfold look at this ⊢
      rw [List.find?_cons]
      simp [hne]
      simpa using this

theorem erase_filter [DecidableEq κ] {k : κ} {v : Value} : ∀ {M : List (κ × Value)} {j : Nat}, (M.map (·.1)).Nodup → M[j]? = some (k, v) → M.eraseIdx j = mdel k M
  | [], _, _, h => by cases h
  | p :: M, 0, hn, h => by
    simp at h; subst h
    simp only [List.map_cons, List.nodup_cons] at hn
    simp only [List.eraseIdx_cons_zero, mdel, List.filter_cons]
    have : decide ((k, v).1 ≠ k) = false := by simp
    rw [this]
    simp only [Bool.false_eq_true, if_false]
    exact (List.filter_eq_self.2 (by
      intro q hq
      simp only [decide_eq_true_eq]
      intro e
      exact hn.1 (List.mem_map.2 ⟨q, hq, e⟩))).symm
  | p :: M, j + 1, hn, h => by
    simp at h
    simp only [List.map_cons, List.nodup_cons] at hn
    have hne : p.1 ≠ k := by
      intro e
      exact hn.1 (List.mem_map.2 ⟨(k, v), List.mem_of_getElem? h, e.symm⟩)
    simp only [List.eraseIdx_cons_succ, mdel, List.filter_cons]
    have : decide (p.1 ≠ k) = true := by simp [hne]
    rw [this, if_pos rfl, erase_filter hn.2 h]
    rfl

section laws
variable [DecidableEq κ] {P : Program} {w : World} {mb : Nat} {M : List (κ × Value)} {t kt et : TypeId}

theorem run_look (K : KeyOf κ) (h : MapIs K w mb M) (ht : P.underlying t = some (.map kt et)) (hd : P.underlying kt = some K.d) {z : Value} (hz : (zeroValue et).run P w = .ok z w) (k : κ) :
    (Instr.lookup t (.map (some mb)) (K.enc k) false).run P w = .ok ((look k M).getD z) w := by
  obtain ⟨es, clock, hb, hs, hM⟩ := h
  rcases find_entry K hM k with ⟨h1, h2, _⟩ | ⟨j, e, v, h1, h2, h3, h4, h5⟩
  · rw [look_none h2]
    simp [Instr.lookup, run_underlying ht, MapKept.run_getObj_map hb, MapKept.run_checkKey hd (K.isKey k), run_findKey hd h1, hz, Result.andThen]
  · rw [look_some (keys_nodup hs hM) h5]
    simp [Instr.lookup, run_underlying ht, MapKept.run_getObj_map hb, MapKept.run_checkKey hd (K.isKey k), run_findKey hd h1, Result.andThen]
theorem run_look_ok (K : KeyOf κ) (h : MapIs K w mb M) (ht : P.underlying t = some (.map kt et)) (hd : P.underlying kt = some K.d) {z : Value} (hz : (zeroValue et).run P w = .ok z w) (k : κ) :
    (Instr.lookup t (.map (some mb)) (K.enc k) true).run P w = .ok (.tuple #[(look k M).getD z, .bool (look k M).isSome]) w := by
  obtain ⟨es, clock, hb, hs, hM⟩ := h
  rcases find_entry K hM k with ⟨h1, h2, _⟩ | ⟨j, e, v, h1, h2, h3, h4, h5⟩
  · rw [look_none h2]
    simp [Instr.lookup, run_underlying ht, MapKept.run_getObj_map hb, MapKept.run_checkKey hd (K.isKey k), run_findKey hd h1, hz, Result.andThen]
  · rw [look_some (keys_nodup hs hM) h5]
    simp [Instr.lookup, run_underlying ht, MapKept.run_getObj_map hb, MapKept.run_checkKey hd (K.isKey k), run_findKey hd h1, Result.andThen]

end laws
theorem below_setBlock {B : Nat} {a w : World} (h : RowKit.Below B a w) {b : Nat} (hb : B ≤ b) (o : Obj) : RowKit.Below B a (setBlock w b o) := by
  refine h.trans ⟨rfl, rfl, rfl, by show w.heap.size ≤ (w.heap.setIfInBounds b o).size; simp, fun k hk => ?_⟩
  show (w.heap.setIfInBounds b o)[k]? = _
  have : b ≠ k := by omega
  simp [this]
theorem heap_setBlock (w : World) (b : Nat) (o : Obj) (h : b < w.heap.size) : (setBlock w b o).heap[b]? = some o := by
  show (w.heap.setIfInBounds b o)[b]? = _
  simp [h]
theorem heap_setBlock_ne (w : World) (b c : Nat) (o : Obj) (h : c ≠ b) : (setBlock w b o).heap[c]? = w.heap[c]? := by
  show (w.heap.setIfInBounds b o)[c]? = _
  simp [Ne.symm h]

section laws
variable [DecidableEq κ] {P : Program} {w : World} {mb : Nat} {M : List (κ × Value)} {t kt et : TypeId}
/-- 'm[k] = v'. -/
theorem run_put (K : KeyOf κ) (h : MapIs K w mb M) (ht : P.underlying t = some (.map kt et)) (hd : P.underlying kt = some K.d) (k : κ) (v : Value) :
    ∃ o, ∀ w' : World, w'.heap[mb]? = w.heap[mb]? → (Instr.mapUpdate t (.map (some mb)) (K.enc k) v).run P w' = .ok () (setBlock w' mb o) ∧ MapIs K (setBlock w' mb o) mb (mput k v M) := by
  obtain ⟨es, clock, hb, hs, hM⟩ := h
  rcases find_entry K hM k with ⟨h1, h2, h3⟩ | ⟨j, e, v0, h1, h2, h3, h4, h5⟩
  · refine ⟨.map (es.push ⟨K.enc k, v, clock⟩) (clock + 1), fun w' hw' => ?_⟩
    have hb := hw'.trans hb
    have hlt : mb < w'.heap.size := (Array.getElem?_eq_some_iff.1 hb).1
    refine ⟨?_, es.push ⟨K.enc k, v, clock⟩, clock + 1, heap_setBlock _ _ _ hlt, stamped_push hs h3, ?_⟩
    · simp [Instr.mapUpdate, run_underlying ht, MapKept.run_getObj_map hb, MapKept.run_checkKey hd (K.isKey k), run_findKey hd h1, MapKept.run_setObj_map _ hb, Result.andThen, setBlock]
    · have : M.any (fun p => decide (p.1 = k)) = false := by rw [List.any_eq_false]; intro p hp; simp [h2 p hp]
      unfold mput
      rw [this]
      simp [hM]
  · have hj : es[j]? = some e := by simpa using h2
    have hkeyf : ∀ e', es[j]? = some e' → ({ e' with key := K.enc k, val := v } : MapEntry).key = e'.key := fun e' he' => by rw [hj] at he'; cases he'; exact h3.symm
    refine ⟨.map (es.modify j fun e' => { e' with key := K.enc k, val := v }) clock, fun w' hw' => ?_⟩
    have hb := hw'.trans hb
    have hlt : mb < w'.heap.size := (Array.getElem?_eq_some_iff.1 hb).1
    refine ⟨?_, es.modify j fun e' => { e' with key := K.enc k, val := v }, clock, heap_setBlock _ _ _ hlt, stamped_modify hs _ _ (fun _ _ => rfl) (fun e' _ he' => hkeyf e' he'), ?_⟩
    · simp [Instr.mapUpdate, run_underlying ht, MapKept.run_getObj_map hb, MapKept.run_checkKey hd (K.isKey k), run_findKey hd h1, hj, h3, run_keyThatStays (K.isKey k), MapKept.run_setObj_map _ hb, Result.andThen, setBlock]
    · have hany : M.any (fun p => decide (p.1 = k)) = true := by rw [List.any_eq_true]; exact ⟨(k, v0), List.mem_of_getElem? h5, by simp⟩
      unfold mput
      rw [hany, if_pos rfl]
      have hn := keys_nodup hs hM
      apply List.ext_getElem?
      intro i
      simp only [List.getElem?_map, Array.getElem?_toList, Array.getElem?_modify]
      have hMi : (es.toList.map (fun e => (e.key, e.val)))[i]? = (M.map fun p => (K.enc p.1, p.2))[i]? := by rw [hM]
      simp only [List.getElem?_map, Array.getElem?_toList] at hMi
      by_cases hij : j = i
      · subst hij
        rw [h5, hj]; simp
      · rw [if_neg hij]
        cases hm : M[i]? with
        | none => rw [hm] at hMi; simpa using hMi
        | some p =>
          rw [hm] at hMi
          have hne : p.1 ≠ k := by
            intro e1
            have a1 : (M.map (·.1))[i]? = some k := by rw [List.getElem?_map, hm, ← e1]; rfl
            have a2 : (M.map (·.1))[j]? = some k := by rw [List.getElem?_map, h5]; rfl
            have li := (List.getElem?_eq_some_iff.1 a1).1
            have lj := (List.getElem?_eq_some_iff.1 a2).1
            have : (M.map (·.1))[i] = (M.map (·.1))[j] := by
              rw [(List.getElem?_eq_some_iff.1 a1).2, (List.getElem?_eq_some_iff.1 a2).2]
            exact hij ((List.getElem_inj hn).1 this).symm
          simp [hne]
          simpa using hMi

/-- 'delete(m, k)'. -/
theorem run_del (K : KeyOf κ) (h : MapIs K w mb M) (ht : P.underlying t = some (.map kt et)) (hd : P.underlying kt = some K.d) (k : κ) (at_ : Array TypeId) (hat : at_[0]? = some t) (rt : TypeId) :
    ∃ o, ∀ w' : World, w'.heap[mb]? = w.heap[mb]? → (Builtin.delete_ at_ rt #[.map (some mb), K.enc k]).run P w' = .ok (.tuple #[]) (setBlock w' mb o) ∧ MapIs K (setBlock w' mb o) mb (mdel k M) := by
  obtain ⟨es, clock, hb, hs, hM⟩ := h
  rcases find_entry K hM k with ⟨h1, h2, h3⟩ | ⟨j, e, v0, h1, h2, h3, h4, h5⟩
  · refine ⟨.map es clock, fun w' hw' => ?_⟩
    have hb := hw'.trans hb
    have hlt : mb < w'.heap.size := (Array.getElem?_eq_some_iff.1 hb).1
    refine ⟨?_, es, clock, heap_setBlock _ _ _ hlt, hs, ?_⟩
    · simp [Builtin.delete_, hat, run_underlying ht, MapKept.run_getObj_map hb, MapKept.run_checkKey hd (K.isKey k), run_findKey hd h1, MapKept.run_setObj_map _ hb, Result.andThen, setBlock]
    · unfold mdel
      rw [hM, List.filter_eq_self.2 (by intro p hp; simp [h2 p hp])]
  · refine ⟨.map (es.eraseIdxIfInBounds j) clock, fun w' hw' => ?_⟩
    have hb := hw'.trans hb
    have hlt : mb < w'.heap.size := (Array.getElem?_eq_some_iff.1 hb).1
    refine ⟨?_, es.eraseIdxIfInBounds j, clock, heap_setBlock _ _ _ hlt, stamped_erase hs j, ?_⟩
    · simp [Builtin.delete_, hat, run_underlying ht, MapKept.run_getObj_map hb, MapKept.run_checkKey hd (K.isKey k), run_findKey hd h1, MapKept.run_setObj_map _ hb, Result.andThen, setBlock]
    · have hn := keys_nodup hs hM
      have hjl : j < es.size := by simpa using (List.getElem?_eq_some_iff.1 h2).1
      have e1 : (es.eraseIdxIfInBounds j).toList = es.toList.eraseIdx j := by
        unfold Array.eraseIdxIfInBounds
        rw [dif_pos hjl, Array.toList_eraseIdx]
      rw [e1]
      have e2 : (es.toList.eraseIdx j).map (fun e => (e.key, e.val)) = (M.eraseIdx j).map fun p => (K.enc p.1, p.2) := by
        rw [map_eraseIdx, map_eraseIdx, hM]
      rw [e2]
      rw [erase_filter hn h5]
omit [DecidableEq κ] in
theorem run_maplen (K : KeyOf κ) (h : MapIs K w mb M) (ht : P.underlying t = some (.map kt et)) (at_ : Array TypeId) (hat : at_[0]? = some t) (rt : TypeId) :
    (Builtin.len_ at_ rt #[.map (some mb)]).run P w = .ok (.int .i64 M.length) w := by
  obtain ⟨es, clock, hb, hs, hM⟩ := h
  have hl : es.size = M.length := by
    have := congrArg List.length hM
    simpa using this
  simp [Builtin.len_, hat, run_underlying ht, MapKept.run_getObj_map hb, Result.andThen, goInt, hl]
end laws

/-! ### What stands in them -/
section plain
variable [DecidableEq κ]
theorem look_nil (k : κ) : look k [] = none := rfl
theorem look_cons (k : κ) (p : κ × Value) (M : List (κ × Value)) : look k (p :: M) = if p.1 = k then some p.2 else look k M := by
  unfold look
  rw [List.find?_cons]
  by_cases h : p.1 = k <;> simp [h]
theorem look_append (k : κ) (M N : List (κ × Value)) : look k (M ++ N) = (look k M).or (look k N) := by
  induction M with
  | nil => simp [look_nil]
  | cons p M ih => rw [List.cons_append, look_cons, look_cons, ih]; split <;> simp
theorem look_map_put (s k : κ) (v : Value) (M : List (κ × Value)) : look s (M.map fun p => if p.1 = k then (k, v) else p) = if s = k then (if (M.any fun p => decide (p.1 = k)) = true then some v else none) else look s M := by
  induction M with
  | nil => simp [look_nil]
  | cons p M ih =>
    rw [List.map_cons, look_cons, ih, look_cons, List.any_cons]
    by_cases e : p.1 = k
    · by_cases h : s = k
      · subst h; simp [e]
      · have h' : ¬ k = s := fun q => h q.symm
        simp [e, h, h']
    · have hd : decide (p.1 = k) = false := decide_eq_false e
      rw [hd]
      by_cases h : s = k
      · subst h; simp only [e, if_false, if_true, Bool.false_or]
      · simp only [e, h, if_false]
theorem look_mput (s k : κ) (v : Value) (M : List (κ × Value)) : look s (mput k v M) = if s = k then some v else look s M := by
  unfold mput
  cases ha : M.any fun p => decide (p.1 = k)
  · rw [if_neg (by simp), look_append, look_cons, look_nil]
    rw [List.any_eq_false] at ha
    by_cases e : s = k
    · subst e
      rw [look_none (fun p hp => by simpa using ha p hp)]; simp
    · have : ¬ k = s := fun h => e h.symm
      simp [e, this]
  · rw [if_pos rfl, look_map_put, ha]; simp
end plain
end Go.Proofs.YtahdmkmefeocmaaDoor
