/- What tier.Keep answers, for every input; reckoned; and treeringlaw19.awake. -/
import Derived.Test.YtddnhjpclglclaaKeep
import Derived.Test.YtddnhjpclglclaaAgeK
namespace Go.Proofs.Ytddnhjpclglclaa
open Go.RowKit Fl
theorem keep_any (a : Option Addr) (ca : Nat) (T : List Tr) (now : Nat) (s : Option Addr) (cap : Nat) (L : List Pt) (w : World) (hT : SlT w (.slice a T.length ca) T) (hI : SlP w (.slice s L.length cap) L) (hcap : L.length ≤ cap) (hTn : T.length < 9223372036854775807) (hn : L.length ≤ 1000000) (hnow : now < 18446744073709551616) :
    Calls Try.prog 39 #[.slice a T.length ca, .float .f64 now, .slice s L.length cap] w fun e w' => ∃ v, e = .returned (.tuple #[v, .int .i64 (keepR T now L).2]) ∧ SlP w' v (keepR T now L).1 ∧ (∃ a cap, v = .slice a (keepR T now L).1.length cap ∧ (keepR T now L).1.length ≤ cap) ∧ Below w.heap.size w w' := by
  cases h1 : polB T
  · exact keep_bad a ca T now s cap L w hT hI hTn hn hnow (.inl h1)
  · cases h2 : tmay now
    · exact keep_bad a ca T now s cap L w hT hI hTn hn hnow (.inr ⟨h1, .inl h2⟩)
    · cases h3 : mayB L
      · exact keep_bad a ca T now s cap L w hT hI hTn hn hnow (.inr ⟨h1, .inr ⟨h2, h3⟩⟩)
      · exact keep_good a ca T now s cap L w hT hI hcap hTn hn hnow h1 h2 h3
def ofC (L : List Tr) (old : Nat) : Int := (List.range L.length).foldl (fun r i => if leB (L.getD i default).age old then (i : Int) else r) (-1)
theorem ofC_to (L : List Tr) (old : Nat) : ∀ n, LastTo L old n ((List.range n).foldl (fun r i => if leB (L.getD i default).age old then (i : Int) else r) (-1))
  | 0 => .inl ⟨rfl, fun j hj => absurd hj (Nat.not_lt_zero _)⟩
  | n + 1 => by
    rw [List.range_succ, List.foldl_append]
    have ih := ofC_to L old n
    generalize (List.range n).foldl (fun r i => if leB (L.getD i default).age old then (i : Int) else r) (-1) = r at ih ⊢
    show LastTo L old (n + 1) (if leB (L.getD n default).age old then (n : Int) else r)
    cases h : leB (L.getD n default).age old
    · rw [if_neg (by decide)]; exact ih.no h
    · rw [if_pos rfl]; exact LastTo.yes h
theorem ofI_C (L : List Tr) (old : Nat) : ofI L old = ofC L old := ofI_eq (ofC_to L old L.length)
def clashC (T : List Tr) (now : Nat) (p q : Pt) : Bool := decide (ofC T (ageOf now q.st) = ofC T (ageOf now p.st)) && fsame (bk p.st (T.getD (ofC T (ageOf now p.st)).toNat default).grain) (bk q.st (T.getD (ofC T (ageOf now p.st)).toNat default).grain)
def stayC (T : List Tr) (now : Nat) (L : List Pt) (i : Nat) : Bool := decide (i + 1 = L.length) || !((L.getD i default).mark.toList.isEmpty) || decide (ofC T (ageOf now (L.getD i default).st) = -1) || (L.drop (i + 1)).all fun q => !clashC T now (L.getD i default) q
def keptC (T : List Tr) (now : Nat) (L : List Pt) (k : Nat) : List Pt := ((List.range k).filter (stayC T now L)).map fun i => L.getD i default
theorem kept_C (T : List Tr) (now : Nat) (L : List Pt) (k : Nat) : kept T now L k = keptC T now L k := by
  have h : stayB T now L = stayC T now L := by
    funext i
    unfold stayB stayC clash clashC tix
    simp only [ofI_C]
  unfold kept keptC
  rw [h]
instance (L : List Tr) (i : Nat) : Decidable (polOk L i) := by unfold polOk NN; infer_instance
instance (L : List Tr) : Decidable (PolP L) := by unfold PolP; infer_instance
theorem keepR_ok {S : List Tr} {now : Nat} {L K : List Pt} (h1 : PolP S) (h2 : T now) (h3 : MayP L) (h4 : keptC S now L L.length = K) : keepR S now L = (K, 0) := by
  unfold keepR
  rw [polB_true.2 h1, mayB_true.2 h3, tmay_iff.2 h2, kept_C, h4]
  rfl
def cellsT (L : List Tr) : List Value := L.flatMap fun p => [.float .f64 p.age, .float .f64 p.grain]
theorem cellsT_get (M : List Tr) (k j : Nat) (hk : k < M.length) (hj : j < 2) : (cellsT M)[k * 2 + j]? = [Value.float .f64 (M.getD k default).age, .float .f64 (M.getD k default).grain][j]? := by
  induction M generalizing k with
  | nil => simp at hk
  | cons q M ih =>
    cases k with
    | zero =>
      simp only [cellsT, List.flatMap_cons, List.cons_append, List.nil_append]
      match j, hj with
      | 0, _ => rfl
      | 1, _ => rfl
    | succ k =>
      have := ih k (by simpa using hk)
      simp only [cellsT, List.flatMap_cons, List.cons_append, List.nil_append] at this ⊢
      rw [show (k + 1) * 2 + j = (k * 2 + j) + 1 + 1 by omega]
      simpa using this
theorem slt_new (w : World) (cs : Array Value) (t : TypeId) (L : List Tr) (h : cs.toList = cellsT L) (hf : ∀ k, k < L.length → (L.getD k default).age < 18446744073709551616 ∧ (L.getD k default).grain < 18446744073709551616) (cap : Nat) : SlT (w.alloc (.cells cs t)) (.slice (some ⟨w.heap.size, 0, none⟩) L.length cap) L := by
  refine .inr ⟨w.heap.size, 0, cap, rfl, ⟨fun k hk => ?_, by simp, hf⟩⟩
  have hx : ∀ i : Nat, cs[i]? = (cellsT L)[i]? := by intro i; rw [← h]; simp
  refine ⟨?_, ?_⟩
  · rw [cell_new, hx, Nat.zero_add]; exact cellsT_get L k 0 hk (by omega)
  · rw [cell_new, hx, Nat.zero_add]; exact cellsT_get L k 1 hk (by omega)
theorem slt_nil (w : World) (a : Option Addr) (cap : Nat) : SlT w (.slice a 0 cap) [] := .inl ⟨a, cap, rfl, rfl⟩
def T9 : List Tr := [⟨0, 4621819117588971520⟩]
def P9 : List Pt := [⟨1, 4607182418800017408, ⟨#[]⟩⟩, ⟨2, 4611686018427387904, ⟨#[]⟩⟩, ⟨3, 4622382067542392832, ⟨#[]⟩⟩]
def K9 : List Pt := [⟨2, 4611686018427387904, ⟨#[]⟩⟩, ⟨3, 4622382067542392832, ⟨#[]⟩⟩]
theorem keep9 : keepR T9 4626322717216342016 P9 = (K9, 0) := keepR_ok (by decide +kernel) (by unfold T; decide +kernel) (by decide +kernel) (by kernel_rfl)
instance (p : Pt) : Decidable (PFit p) := decidable_of_iff ((-9223372036854775808 ≤ p.seq ∧ p.seq ≤ 9223372036854775807) ∧ p.st < 18446744073709551616 ∧ p.mark.size ≤ maxLen) ⟨fun h => ⟨h.1, h.2.1, h.2.2⟩, fun h => ⟨h.i, h.f, h.s⟩⟩
theorem fit9 : ∀ j, j < P9.length → PFit (P9.getD j default) := by decide +kernel
theorem pol0 : polB [] = true := polB_true.2 (by decide +kernel)
theorem polnan : polB [⟨0, 9221120237041090561⟩] = false := polB_false.2 (by decide +kernel)
set_option maxRecDepth 100000 in
set_option maxHeartbeats 4000000 in
theorem awake19 (w : World) : Calls Try.prog 38 #[] w fun e w' => e = .returned (.bool true) ∧ Below w.heap.size w w' := by
  obtain ⟨W, hW⟩ : ∃ W, W = (w.alloc (.cells #[.float .f64 0, .float .f64 4621819117588971520] 63)).alloc (.cells #[.int .i64 1, .float .f64 4607182418800017408, .string ⟨#[]⟩, .int .i64 2, .float .f64 4611686018427387904, .string ⟨#[]⟩, .int .i64 3, .float .f64 4622382067542392832, .string ⟨#[]⟩] 27) := ⟨_, rfl⟩
  have hT0 : SlT W (.slice (some ⟨w.heap.size, 0, none⟩) 1 1) T9 := by rw [hW]; exact (slt_new w _ _ T9 rfl (by decide) 1).below (bal (Below.refl _ _) _)
  have hI0 : SlP W (.slice (some ⟨w.heap.size + 1, 0, none⟩) 3 3) P9 := by
    rw [hW]
    have h := sl_new (w.alloc (.cells #[.float .f64 0, .float .f64 4621819117588971520] 63)) #[.int .i64 1, .float .f64 4607182418800017408, .string ⟨#[]⟩, .int .i64 2, .float .f64 4611686018427387904, .string ⟨#[]⟩, .int .i64 3, .float .f64 4622382067542392832, .string ⟨#[]⟩] 27 P9 rfl fit9 3
    rw [show (w.alloc (.cells #[.float .f64 0, .float .f64 4621819117588971520] 63)).heap.size = w.heap.size + 1 by simp] at h
    exact h
  have hB0 : Below w.heap.size w W := by rw [hW]; exact bal (bal (Below.refl _ w) _) _
  have HW := Lib.hid hW
  clear hW
  go_enter Try.func38, Try.ntmps38
  go_wp2_with (first
    | (go_at_call 39; rw [← HW.out]; refine (keep_any _ 1 T9 4626322717216342016 _ 3 P9 _ hT0 hI0 (by decide) (by decide) (by decide) (by decide)).mono ?_; rw [keep9]; rintro e w1 ⟨v, rfl, hS, ⟨va, vc, rfl, hle⟩, hB1⟩
       have hR := Lib.hid hS
       obtain ⟨vb, vo, rfl, hrr⟩ : ∃ b off, va = some ⟨b, off, none⟩ ∧ RdP w1 b off K9 := by
         rcases hS with ⟨a', cap', e, h0⟩ | ⟨b, off, cap', e, hr⟩
         · cases h0
         · exact ⟨b, off, (Value.slice.inj e).1, hr⟩
       have hCa := Lib.hid (blw hB0 hB1)
       obtain ⟨k0, k1, k2⟩ := pcs hrr (k := 0) (by decide) rfl
       obtain ⟨l0, l1, l2⟩ := pcs hrr (k := 1) (by decide) rfl
       have hkl := hrr.lt
       simp only [Nat.zero_mul, Nat.add_zero, Nat.one_mul] at k0 k1 k2 l0 l1 l2
       clear hrr hS hB1)
    | (go_at_call 42; first
        | (have h2 := hB2; refine (tiermay_any _ _ [⟨0, 9221120237041090561⟩] _ (slt_new w2 _ _ [⟨0, 9221120237041090561⟩] rfl (by decide) 1) (by decide)).mono ?_; rintro e w3 ⟨rfl, hB3⟩; rw [polnan]; clear h2)
        | (refine (tiermay_any none 0 [] _ (slt_nil _ _ _) (by decide)).mono ?_; rintro e w2 ⟨rfl, hB2⟩; rw [pol0]))
    | (go_at_call 32; refine (nan_any _).mono ?_; rintro e w' ⟨rfl, rfl⟩))
  go_ret
  exact ⟨rfl, blw (bal (blw hCa.out hB2) _) hB3⟩
end Go.Proofs.Ytddnhjpclglclaa
