/- Trees in plain Lean: what Rename's loop leaves in the map. -/
import Derived.Test.YtiegadfhgccliaaGreatDoorMTreeR
import Derived.Test.YtiegadfhgccliaaGreatDoorMTreeW5
namespace Go.Proofs.YtiegadfhgccliaaGreatDoor
open Go.Lib
set_option linter.unusedVariables false

/-- 't.l[n.Path] = n'. -/
def putN (n : Nd) (K : List Nd) : List Nd := if K.any (fun m => decide (m.path = n.path)) then K.map (fun m => if m.path = n.path then n else m) else K ++ [n]
theorem mput_ents (n : Nd) (K : List Nd) : mput n.path (ndV n) (ents K) = ents (putN n K) := by
  unfold mput putN ents
  rw [List.any_map]
  show (if K.any (fun m => decide (m.path = n.path)) = true then _ else _) = _
  split
  · rw [List.map_map, List.map_map]
    refine List.map_congr_left fun m _ => ?_
    show (if m.path = n.path then (n.path, ndV n) else (m.path, ndV m)) = entN (if m.path = n.path then n else m)
    split <;> rfl
  · rw [List.map_append]; rfl
def delN (s : ByteArray) (K : List Nd) : List Nd := K.filter fun m => !decide (m.path = s)
theorem mdel_ents (s : ByteArray) (K : List Nd) : mdel s (ents K) = ents (delN s K) := by
  unfold mdel ents delN
  rw [List.filter_map]
  congr 1
  refine List.filter_congr fun m _ => ?_
  show decide (m.path ≠ s) = !decide (m.path = s)
  simp
theorem mem_delN {s : ByteArray} {K : List Nd} {m : Nd} : m ∈ delN s K ↔ m ∈ K ∧ m.path ≠ s := by unfold delN; rw [List.mem_filter]; simp
theorem mem_putN {n : Nd} {K : List Nd} {m : Nd} : m ∈ putN n K ↔ m = n ∨ (m ∈ K ∧ m.path ≠ n.path) := by
  unfold putN
  split
  · rename_i h
    rw [List.mem_map]
    obtain ⟨x, hx, hp⟩ := List.any_eq_true.1 h
    have hp : x.path = n.path := by simpa using hp
    constructor
    · rintro ⟨a, ha, rfl⟩
      by_cases e : a.path = n.path
      · rw [if_pos e]; exact .inl rfl
      · rw [if_neg e]; exact .inr ⟨ha, e⟩
    · rintro (rfl | ⟨h1, h2⟩)
      · exact ⟨x, hx, by rw [if_pos hp]⟩
      · exact ⟨m, h1, by rw [if_neg h2]⟩
  · rename_i h
    have h : ∀ x ∈ K, x.path ≠ n.path := by simpa using h
    rw [List.mem_append, List.mem_singleton]
    constructor
    · rintro (h1 | h1)
      · exact .inr ⟨h1, h m h1⟩
      · exact .inl h1
    · rintro (h1 | h1)
      · exact .inr h1
      · exact .inl h1.1
theorem apart_putN {n : Nd} {K : List Nd} (h : Apart K) : Apart (putN n K) := by
  unfold putN
  split
  · refine List.pairwise_map.2 (h.imp fun {a b} hab => ?_)
    by_cases e1 : a.path = n.path
    · rw [if_pos e1]
      by_cases e2 : b.path = n.path
      · exact absurd (e1.trans e2.symm) hab
      · rw [if_neg e2]; exact fun e => e2 e.symm
    · rw [if_neg e1]
      by_cases e2 : b.path = n.path
      · rw [if_pos e2]; exact e1
      · rw [if_neg e2]; exact hab
  · rename_i hno
    have hno : ∀ x ∈ K, x.path ≠ n.path := by simpa using hno
    refine List.pairwise_append.2 ⟨h, List.pairwise_singleton _ _, fun a ha b hb => ?_⟩
    rw [List.mem_singleton.1 hb]; exact hno a ha
theorem Apart.nodup {K : List Nd} (h : Apart K) : K.Nodup := h.imp fun {a b} hab e => hab (by rw [e])
theorem apart_perm {K M : List Nd} (h1 : Apart K) (h2 : Apart M) (h : ∀ a, a ∈ K ↔ a ∈ M) : K.Perm M := (List.perm_ext_iff_of_nodup h1.nodup h2.nodup).2 h

/-- A round. -/
def mvd (src dst : ByteArray) (n : Nd) : Nd := ⟨movedRaw src dst n.path, n.id, n.dir⟩
def stepR (src dst : ByteArray) (K : List Nd) (n : Nd) : List Nd := putN (mvd src dst n) (delN n.path K)
theorem apart_step {src dst : ByteArray} {K : List Nd} (h : Apart K) (n : Nd) : Apart (stepR src dst K n) := apart_putN (List.Pairwise.filter _ h)
theorem apart_steps {src dst : ByteArray} (V : List Nd) : ∀ {K : List Nd}, Apart K → Apart (V.foldl (stepR src dst) K) := by
  induction V with
  | nil => exact fun h => h
  | cons n V ih => exact fun h => ih (apart_step h n)
theorem mem_steps {src dst : ByteArray} (V : List Nd) : ∀ {K : List Nd}, (∀ a ∈ V, ∀ b ∈ V, (mvd src dst a).path ≠ b.path) → V.Pairwise (fun a b => (mvd src dst a).path ≠ (mvd src dst b).path) →
    ∀ m, m ∈ V.foldl (stepR src dst) K ↔ (∃ a ∈ V, m = mvd src dst a) ∨ (m ∈ K ∧ ∀ a ∈ V, m.path ≠ a.path ∧ m.path ≠ (mvd src dst a).path) := by
  induction V with
  | nil => intro K _ _ m; simp
  | cons n V ih =>
    intro K h1 h2 m
    obtain ⟨h3, h4⟩ := List.pairwise_cons.1 h2
    rw [List.foldl_cons, ih (fun a ha b hb => h1 a (List.mem_cons_of_mem _ ha) b (List.mem_cons_of_mem _ hb)) h4 m]
    unfold stepR
    rw [mem_putN, mem_delN]
    constructor
    · rintro (⟨a, ha, rfl⟩ | ⟨rfl | ⟨⟨h5, h6⟩, h7⟩, h8⟩)
      · exact .inl ⟨a, List.mem_cons_of_mem _ ha, rfl⟩
      · exact .inl ⟨n, by simp, rfl⟩
      · refine .inr ⟨h5, fun a ha => ?_⟩
        rcases List.mem_cons.1 ha with rfl | ha
        · exact ⟨h6, h7⟩
        · exact h8 a ha
    · rintro (⟨a, ha, rfl⟩ | ⟨h5, h6⟩)
      · rcases List.mem_cons.1 ha with rfl | ha
        · exact .inr ⟨.inl rfl, fun b hb => ⟨h1 a (by simp) b (List.mem_cons_of_mem _ hb), h3 b hb⟩⟩
        · exact .inl ⟨a, ha, rfl⟩
      · exact .inr ⟨.inr ⟨⟨h5, (h6 n (by simp)).1⟩, (h6 n (by simp)).2⟩, fun a ha => h6 a (List.mem_cons_of_mem _ ha)⟩

section
variable {T : TS} {src dst : ByteArray} {X Y : List ByteArray}
theorem mvd_move (h : TInv T) (r : Ren T src dst X Y) {n : Nd} (hn : n ∈ T.L) (hm : movesN src n = true) : mvd src dst n = moveN src dst n := by
  obtain ⟨Z, hz, hne, hi⟩ := moves_parts h r hn
  unfold mvd moveN
  rw [movedRaw_eq r.s r.x r.d r.y hz (hi.1 hm)]
/-- What the loop leaves: what a rename leaves. -/
theorem steps_ren (h : TInv T) (r : Ren T src dst X Y) {V L : List Nd} (hV : V.Perm (T.L.filter (movesN src))) (hL : L.Perm T.L) :
    (V.foldl (stepR src dst) L).Perm (((T.L.filter (movesN src)).map (moveN src dst)).foldl (fun R n => insN n R) (restS T.L src dst)) := by
  have hmem : ∀ a, a ∈ V ↔ a ∈ T.L ∧ movesN src a = true := fun a => by rw [hV.mem_iff, List.mem_filter]
  have hin : ∀ a b, a ∈ V → b ∈ V → newPath src dst a.path = newPath src dst b.path → a = b := fun a b ha hb e =>
    new_inj h r ((hmem a).1 ha).1 ((hmem a).1 ha).2 ((hmem b).1 hb).1 ((hmem b).1 hb).2 e
  have hpath : ∀ a ∈ V, (mvd src dst a).path = newPath src dst a.path := fun a ha => by rw [mvd_move h r ((hmem a).1 ha).1 ((hmem a).1 ha).2]; rfl
  have h1 : ∀ a ∈ V, ∀ b ∈ V, (mvd src dst a).path ≠ b.path := fun a ha b hb e => by
    rw [hpath a ha] at e
    have := (new_apart h r ((hmem a).1 ha).1 ((hmem a).1 ha).2 ((hmem b).1 hb).1 e).2.1
    rw [((hmem b).1 hb).2] at this; cases this
  have hVn : V.Nodup := (hV.nodup_iff).2 (List.Pairwise.filter (movesN src) h.rises.apart |>.imp fun {a b} hab e => hab (by rw [e]))
  have h2 : V.Pairwise (fun a b => (mvd src dst a).path ≠ (mvd src dst b).path) := by
    refine (show V.Pairwise (· ≠ ·) from hVn).imp_of_mem fun {a b} ha hb hab e => hab ?_
    rw [hpath a ha, hpath b hb] at e
    exact hin a b ha hb e
  refine (apart_perm (apart_steps V (h.rises.apart.perm hL.symm)) (moved_apart h r) fun m => ?_).trans ren_perm.symm
  rw [mem_steps V h1 h2 m, List.mem_append, mem_rest, List.mem_map]
  obtain ⟨n0, hn0, hp0⟩ := r.node
  have hm0 : movesN src n0 = true := by unfold movesN; simp [hp0]
  constructor
  · rintro (⟨a, ha, rfl⟩ | ⟨h3, h4⟩)
    · refine .inr ⟨a, List.mem_filter.2 ((hmem a).1 ha), ?_⟩
      rw [mvd_move h r ((hmem a).1 ha).1 ((hmem a).1 ha).2]
    · have h3 := hL.mem_iff.1 h3
      refine .inl ⟨h3, ?_, fun e => ?_⟩
      · cases hmm : movesN src m
        · rfl
        · exact absurd rfl (h4 m ((hmem m).2 ⟨h3, hmm⟩)).1
      · have h5 := h4 n0 ((hmem n0).2 ⟨hn0, hm0⟩)
        apply h5.2
        rw [hpath n0 ((hmem n0).2 ⟨hn0, hm0⟩), hp0, newPath_self r.s r.d, e]
  · rintro (⟨h3, h4, h5⟩ | ⟨a, ha, rfl⟩)
    · refine .inr ⟨hL.mem_iff.2 h3, fun a ha => ⟨fun e => ?_, fun e => ?_⟩⟩
      · have := apart_uniq h.rises.apart h3 ((hmem a).1 ha).1 e
        subst this
        rw [((hmem m).1 ha).2] at h4; cases h4
      · rw [hpath a ha] at e
        exact h5 (e.trans (by rw [← e]; exact (new_apart h r ((hmem a).1 ha).1 ((hmem a).1 ha).2 h3 e.symm).1))
    · obtain ⟨h3, h4⟩ := List.mem_filter.1 ha
      exact .inl ⟨a, (hmem a).2 ⟨h3, h4⟩, (mvd_move h r h3 h4).symm⟩
/-- The rows that Rename goes over: what lies under, and the node. -/
theorem moves_perm (h : TInv T) (r : Ren T src dst X Y) {n0 : Nd} (hn : fnd src T.L = some n0) {U : List Nd} (hU : U.Perm (T.L.filter (preB src))) : (U ++ [n0]).Perm (T.L.filter (movesN src)) := by
  obtain ⟨h1, h2⟩ := fnd_some hn
  have hpre : ∀ n ∈ T.L, preB src n = punder n.path src := fun n hn => preB_under h r.s r.x hn
  have hself : punder src src = false := by rw [under_parts r.s r.s]; simp
  have hA : Apart (U ++ [n0]) := by
    refine List.pairwise_append.2 ⟨Apart.perm (List.Pairwise.filter _ h.rises.apart) hU.symm, List.pairwise_singleton _ _, fun a ha b hb e => ?_⟩
    rw [List.mem_singleton.1 hb, h2] at e
    obtain ⟨h3, h4⟩ := List.mem_filter.1 (hU.mem_iff.1 ha)
    rw [hpre a h3, e, hself] at h4; cases h4
  refine apart_perm hA (List.Pairwise.filter _ h.rises.apart) fun m => ?_
  rw [List.mem_append, List.mem_singleton, List.mem_filter, hU.mem_iff, List.mem_filter]
  unfold movesN
  rw [Bool.or_eq_true, decide_eq_true_eq]
  constructor
  · rintro (⟨h3, h4⟩ | rfl)
    · exact ⟨h3, .inr (by rw [← hpre m h3]; exact h4)⟩
    · exact ⟨h1, .inl h2⟩
  · rintro ⟨h3, h4 | h4⟩
    · exact .inr (apart_uniq h.rises.apart h3 h1 (h4.trans h2.symm))
    · exact .inl ⟨h3, by rw [hpre m h3]; exact h4⟩
end
end Go.Proofs.YtiegadfhgccliaaGreatDoor
