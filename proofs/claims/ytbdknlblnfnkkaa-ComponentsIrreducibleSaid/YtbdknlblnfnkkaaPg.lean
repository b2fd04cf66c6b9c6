/- Primes and primary parts: what the functions return. The conditions stand in each statement. -/
import Derived.Test.YtbdknlblnfnkkaaPf
namespace Go.EL
open Go
abbrev Sd (l : List Int) : Prop := l.Pairwise (· ≤ ·)
def sortI (l : List Int) : List Int := l.mergeSort fun x y => decide (x ≤ y)
theorem sortI_perm (l : List Int) : (sortI l).Perm l := List.mergeSort_perm _ _
theorem sortI_sd (l : List Int) : Sd (sortI l) := by
  have := List.pairwise_mergeSort (le := fun x y : Int => decide (x ≤ y)) (fun a b c h1 h2 => by simp only [decide_eq_true_eq] at *; omega) (fun a b => by simp only [Bool.or_eq_true, decide_eq_true_eq]; omega) l
  exact this.imp fun h => of_decide_eq_true h
theorem sortI_eq {l s : List Int} (h : s.Perm l) (hs : Sd s) : s = sortI l :=
  List.Perm.eq_of_pairwise (le := fun a b => a ≤ b) (fun a b _ _ h1 h2 => Int.le_antisymm h1 h2) hs (sortI_sd l) (h.trans (sortI_perm l).symm)
theorem Less_ret (x y : Int) : (cmp_Less_uint8 x y).Ret (decide (x < y)) := by
  refine ⟨false, ?_, rfl⟩
  show decide (¬ x = x) = false
  simp
theorem set_mid {α : Type} (A B : List α) (x y z w : α) : ((A ++ x :: y :: B).set (A.length + 1) z).set A.length w = A ++ w :: z :: B := by
  induction A with
  | nil => rfl
  | cons a A ih => simp only [List.cons_append, List.length_cons, List.set_cons_succ, ih]
theorem get_mid {α : Type} (A B : List α) (x : α) : (A ++ x :: B)[A.length]? = some x := by simp
theorem inner_ret {x : Int} {R : List Int} : ∀ (A B : List Int), A.length < 1000000000 → Sd (A ++ B) → (∀ b ∈ B, x < b) → (slices_insertionSortOrdered_uint8_L4 0 (A ++ x :: (B ++ R), (A.length : Int))).wp fun d => ∃ S, d = S ++ R ∧ S.Perm (x :: (A ++ B)) ∧ Sd S := by
  have key : ∀ (n : Nat) (A B : List Int), A.length = n → A.length < 1000000000 → Sd (A ++ B) → (∀ b ∈ B, x < b) → (slices_insertionSortOrdered_uint8_L4 0 (A ++ x :: (B ++ R), (A.length : Int))).wp fun d => ∃ S, d = S ++ R ∧ S.Perm (x :: (A ++ B)) ∧ Sd S := by
    intro n
    induction n with
    | zero =>
      intro A B hn _ hs hB
      have : A = [] := List.eq_nil_of_length_eq_zero hn
      subst this
      refine Comp.loop_fold ?_
      show (if (0 : Int) < ((0 : Nat) : Int) then _ else _ : Comp _).wp _
      rw [Comp.wp_ite, if_neg (by omega)]
      exact ⟨x :: B, rfl, List.Perm.refl _, List.pairwise_cons.2 ⟨fun b hb => Int.le_of_lt (hB b hb), hs⟩⟩
    | succ n ih =>
      intro A B hn hlt hs hB
      obtain ⟨A', y, rfl⟩ : ∃ A' y, A = A' ++ [y] := by
        rcases List.eq_nil_or_concat A with rfl | ⟨A', y, rfl⟩
        · simp at hn
        · exact ⟨A', y, List.concat_eq_append⟩
      have hn' : A'.length = n := by simp at hn; exact hn
      have e0 : A' ++ [y] ++ x :: (B ++ R) = A' ++ y :: x :: (B ++ R) := by simp
      have el : (A' ++ [y]).length = A'.length + 1 := by simp
      rw [el] at hlt
      rw [e0, el]
      refine Comp.loop_fold ?_
      show (if (0 : Int) < ((A'.length + 1 : Nat) : Int) then _ else _ : Comp _).wp _
      rw [Comp.wp_ite, if_pos (by omega)]
      have w1 : IntKind.i64.wrap (((A'.length + 1 : Nat) : Int) - 1) = (A'.length : Int) := by rw [wrap64 (by omega)]; omega
      have g1 : (0 : Int) ≤ ((A'.length + 1 : Nat) : Int) ∧ (A' ++ y :: x :: (B ++ R))[((A'.length + 1 : Nat) : Int).toNat]? = some x := ⟨by omega, by
        have := get_mid (A' ++ [y]) (B ++ R) x
        rw [e0, el] at this
        exact this⟩
      have g2 : (0 : Int) ≤ (A'.length : Int) ∧ (A' ++ y :: x :: (B ++ R))[(A'.length : Int).toNat]? = some y := ⟨by omega, get_mid A' _ y⟩
      rw [w1]
      refine ⟨x, g1, y, g2, _, Less_ret x y, ?_⟩
      rw [Comp.wp_ite]
      split
      · rename_i h
        have hxy : x < y := of_decide_eq_true h
        refine ⟨y, g2, x, g1, x, g1, y, ⟨by omega, ?_⟩, ?_⟩
        · rw [show ((A'.length + 1 : Nat) : Int).toNat = A'.length + 1 by omega, show (A'.length : Int).toNat = A'.length by omega, List.getElem?_set_ne (by omega)]
          exact get_mid A' _ y
        · rw [show ((A'.length + 1 : Nat) : Int).toNat = A'.length + 1 by omega, show (A'.length : Int).toNat = A'.length by omega, set_mid]
          have := ih A' (y :: B) hn' (by omega) (by simpa using hs) (fun b hb => by
            rcases List.mem_cons.1 hb with rfl | hb
            · exact hxy
            · exact hB b hb)
          show (slices_insertionSortOrdered_uint8_L4 0 (A' ++ x :: y :: (B ++ R), (A'.length : Int))).wp _
          refine Comp.mono _ (fun d hd => ?_) this
          obtain ⟨S, h1, h2, h3⟩ := hd
          exact ⟨S, h1, by simpa using h2, h3⟩
      · rename_i h
        have hxy : y ≤ x := by simp only [decide_eq_true_eq] at h; omega
        refine ⟨A' ++ y :: x :: B, by simp, ?_, ?_⟩
        · have : (A' ++ y :: x :: B).Perm (x :: (A' ++ y :: B)) := by
            have := @List.perm_middle _ x (A' ++ [y]) B
            simpa using this
          simpa using this
        · have hs' : Sd (A' ++ y :: B) := by simpa using hs
          obtain ⟨p1, p2, p3⟩ := List.pairwise_append.1 hs'
          obtain ⟨p4, p5⟩ := List.pairwise_cons.1 p2
          refine List.pairwise_append.2 ⟨p1, List.pairwise_cons.2 ⟨fun b hb => ?_, List.pairwise_cons.2 ⟨fun b hb => Int.le_of_lt (hB b hb), p5⟩⟩, fun a ha b hb => ?_⟩
          · rcases List.mem_cons.1 hb with rfl | hb
            · exact hxy
            · exact p4 b hb
          · rcases List.mem_cons.1 hb with rfl | hb
            · exact p3 a ha b (by simp)
            · rcases List.mem_cons.1 hb with rfl | hb
              · exact Int.le_trans (p3 a ha y (by simp)) hxy
              · exact p3 a ha b (by simp [hb])
  exact fun A B => key A.length A B rfl
theorem isort_ret {l : List Int} (hl : l.length < 1000000000) : (slices_insertionSortOrdered_uint8 l 0 (l.length : Int)).Ret (sortI l) := by
  show (Comp.loop _ _).wp _
  rw [wrap64 (by omega)]
  cases l with
  | nil =>
    refine Comp.loop_fold ?_
    show (if (1 : Int) < ((0 : Nat) : Int) then _ else _ : Comp _).wp _
    rw [Comp.wp_ite, if_neg (by omega)]
    show [] = sortI []
    exact sortI_eq (List.Perm.refl _) List.Pairwise.nil
  | cons x0 l' =>
    refine Comp.loop_idx l'.length (fun k s => ∃ S, s = (S ++ (x0 :: l').drop (k + 1), ((k + 1 : Nat) : Int)) ∧ S.Perm ((x0 :: l').take (k + 1)) ∧ Sd S) (fun k s hk hs => ?_) (fun s hs => ?_) ⟨[x0], by simp, by simp, by simp⟩
    · obtain ⟨S, rfl, hp, hS⟩ := hs
      have hk' : k + 1 < (x0 :: l').length := by simp; omega
      have hSl : S.length = k + 1 := by rw [hp.length_eq]; simp; omega
      simp only [List.length_cons] at hl
      show (if ((k + 1 : Nat) : Int) < (((x0 :: l').length : Nat) : Int) then _ else _ : Comp _).wp _
      rw [Comp.wp_ite, if_pos (by omega)]
      have hd : (x0 :: l').drop (k + 1) = (x0 :: l')[k + 1] :: (x0 :: l').drop (k + 1 + 1) := List.drop_eq_getElem_cons hk'
      have := inner_ret (x := (x0 :: l')[k + 1]) (R := (x0 :: l').drop (k + 1 + 1)) S [] (by omega) (by simpa using hS) (by simp)
      rw [List.nil_append, ← hd, hSl] at this
      refine Comp.wp_next.2 (Comp.mono _ (fun d ⟨S', h1, h2, h3⟩ => ?_) this)
      refine ⟨S', ?_, ?_, h3⟩
      · rw [h1, wrapN (by omega)]
      · rw [(List.take_append_getElem hk').symm]
        refine h2.trans ?_
        simp only [List.append_nil]
        exact (List.Perm.cons _ hp).trans (List.perm_append_singleton _ _).symm
    · obtain ⟨S, rfl, hp, hS⟩ := hs
      show (if ((l'.length + 1 : Nat) : Int) < (((x0 :: l').length : Nat) : Int) then _ else _ : Comp _).wp _
      rw [Comp.wp_ite, if_neg (by simp)]
      show S ++ (x0 :: l').drop (l'.length + 1) = sortI (x0 :: l')
      rw [List.drop_of_length_le (by simp), List.append_nil]
      rw [List.take_of_length_le (by simp)] at hp
      exact sortI_eq hp hS
theorem len_some : ∀ n : Fin 13, ((math_bits_Len (IntKind.u64.wrap (n.val : Int))).ev 1).isSome = true := by decide +kernel
theorem sortU_ret {l : List Int} (hl : l.length ≤ 12) : (slices_Sort_uint8_uint8 l).Ret (sortI l) := by
  have h := len_some ⟨l.length, by omega⟩
  obtain ⟨v, hv⟩ := Option.isSome_iff_exists.1 h
  refine ⟨v, Comp.Ret.of_ev 1 hv, _, ?_, rfl⟩
  refine Comp.wp_next.2 (Comp.loop_fold ?_)
  show (if IntKind.i64.wrap ((l.length : Int) - 0) ≤ 12 then _ else _ : Comp _).wp _
  rw [Comp.wp_ite, wrap64 (by omega), if_pos (by omega)]
  exact ⟨_, isort_ret (by omega), rfl⟩
theorem primes_ret {D : List (Int × List (List M))} (h : D.length ≤ 12) : (components_primes D).Ret (sortI (D.map (·.1))) := fun ks hks => by
  have hl : ks.length ≤ 12 := by have := hks.length_eq; simp at this; omega
  refine ⟨_, sortU_ret hl, ?_⟩
  show sortI ks = _
  exact sortI_eq ((sortI_perm ks).trans hks) (sortI_sd ks)
def primesF (l : List M) : List Int := sortI ((partsF l).map (·.1))
/-- Within what the functions are shown to bear. -/
structure Fit (l : List M) : Prop where
  lb : l.length ≤ 1000000000
  eight : (minimalM l).length ≤ 8
  wf : ∀ m ∈ l, Wf m
  few : (irrF l).length ≤ 100000000
  twelve : (partsF l).length ≤ 12
theorem Irr_ret {l : List M} {n : Int} (hl : Lb l) (h : checkF l n = 0 → Fit l) : (components_Irreducible l n).Ret (if checkF l n = 0 then (irrF l, 0) else ([], checkF l n)) := by
  refine ⟨_, check_ret hl n, ?_⟩
  rw [Comp.wp_ite]
  by_cases h0 : checkF l n = 0
  · rw [if_neg (by simp [h0]), if_pos h0]
    exact ⟨_, irreducible_ret (h h0).lb (h h0).eight (h h0).wf, rfl⟩
  · rw [if_pos h0, if_neg h0]; rfl
theorem Primes_ret {l : List M} {n : Int} (hl : Lb l) (h : checkF l n = 0 → Fit l) : (components_Primes l n).Ret (if checkF l n = 0 then (primesF l, 0) else ([], checkF l n)) := by
  refine ⟨_, check_ret hl n, ?_⟩
  rw [Comp.wp_ite]
  by_cases h0 : checkF l n = 0
  · rw [if_neg (by simp [h0]), if_pos h0]
    have hf := h h0
    exact ⟨_, parts_ret hf.lb hf.eight hf.wf hf.few, _, primes_ret hf.twelve, rfl⟩
  · rw [if_pos h0, if_neg h0]; rfl
def embC (q p : Int) : Bool := if ¬ q = p then decide (IntKind.u8.wrap (BitVec.ofInt IntKind.u8.bits q &&& ~~~ BitVec.ofInt IntKind.u8.bits p).toNat = 0) else false
def embF (ps : List Int) : List Int := ps.filter fun p => ps.any fun q => embC q p
theorem embC_ret (q p : Int) : (components_Embedded_c1 q p).Ret (embC q p) := by
  unfold components_Embedded_c1 embC
  by_cases h : ¬ q = p
  · rw [if_pos h, if_pos h]; rfl
  · rw [if_neg h, if_neg h]; rfl
theorem contF_ret {ps : List Int} (hl : ps.length ≤ 1000000) (p : Int) : (slices_ContainsFunc_uint8_uint8_components_Embedded_c1 ps p).Ret (ps.any fun q => embC q p) := by
  let f := ps.findIdx (fun q => embC q p)
  have hf : ∀ i (h : i < ps.length), i < f → embC ps[i] p = false := fun i h hi => by
    have := List.not_of_lt_findIdx (p := fun q => embC q p) (xs := ps) hi
    simpa using this
  have hfl : f ≤ ps.length := List.findIdx_le_length
  refine ⟨if f < ps.length then (f : Int) else -1, ?_, ?_⟩
  · show (Comp.loop _ _).wp _
    refine Comp.loop_idx ps.length (fun k s => s = (k : Int) ∧ k ≤ f) (fun k s hk hs => ?_) (fun s hs => ?_) ⟨rfl, Nat.zero_le _⟩
    · obtain ⟨rfl, hi⟩ := hs
      show (if (k : Int) < (ps.length : Int) then _ else _ : Comp _).wp _
      rw [Comp.wp_ite, if_pos (by omega)]
      refine ⟨ps[k], idxN hk, _, embC_ret _ _, ?_⟩
      rw [Comp.wp_ite]
      split
      · rename_i h
        show (k : Int) = _
        have : f = k := by
          rcases Nat.lt_or_ge k f with h1 | h1
          · rw [hf k hk h1] at h; cases h
          · omega
        rw [this, if_pos hk]
      · rename_i h
        refine ⟨wrapN (by omega), ?_⟩
        rcases Nat.lt_or_ge k f with h1 | h1
        · exact h1
        · have e : f = k := by omega
          have := List.findIdx_getElem (p := fun q => embC q p) (xs := ps) (w := by show f < ps.length; omega)
          exact absurd (by simpa [show ps.findIdx (fun q => embC q p) = k from e] using this) h
    · obtain ⟨rfl, hi⟩ := hs
      show (if ((ps.length : Nat) : Int) < (ps.length : Int) then _ else _ : Comp _).wp _
      rw [Comp.wp_ite, if_neg (by omega)]
      show (-1 : Int) = _
      rw [if_neg (by omega)]
  · show decide (0 ≤ (if f < ps.length then (f : Int) else -1)) = _
    by_cases h : f < ps.length
    · rw [if_pos h, decide_eq_true (by omega)]
      have := List.findIdx_getElem (p := fun q => embC q p) (xs := ps) (w := h)
      exact (List.any_eq_true.2 ⟨_, List.getElem_mem h, this⟩).symm
    · rw [if_neg h, decide_eq_false (by omega)]
      refine (Bool.eq_false_iff.2 fun h2 => ?_).symm
      obtain ⟨q, hq, hq2⟩ := List.any_eq_true.1 h2
      obtain ⟨i, hi1, rfl⟩ := List.mem_iff_getElem.1 hq
      rw [hf i hi1 (by omega)] at hq2; cases hq2
theorem Embedded_ret {l : List M} {n : Int} (hl : Lb l) (h : checkF l n = 0 → Fit l) : (components_Embedded l n).Ret (if checkF l n = 0 then (embF (primesF l), 0) else ([], checkF l n)) := by
  refine ⟨_, check_ret hl n, ?_⟩
  rw [Comp.wp_ite]
  by_cases h0 : checkF l n = 0
  · rw [if_neg (by simp [h0]), if_pos h0]
    have hf := h h0
    refine ⟨_, parts_ret hf.lb hf.eight hf.wf hf.few, _, primes_ret hf.twelve, ?_⟩
    show (Comp.loop _ _).wp _
    have hlen : (primesF l).length ≤ 12 := by have := (sortI_perm ((partsF l).map (·.1))).length_eq; have := hf.twelve; simp [primesF] at *; omega
    show (components_Embedded_L2 (primesF l) ([], 0)).wp _
    refine Comp.loop_idx (primesF l).length (fun k s => s = (((primesF l).take k).filter (fun p => (primesF l).any fun q => embC q p), (k : Int))) (fun k s hk hs => ?_) (fun s hs => ?_) rfl
    · subst hs
      show (if (k : Int) < ((primesF l).length : Int) then _ else _ : Comp _).wp _
      rw [Comp.wp_ite, if_pos (by omega)]
      refine ⟨(primesF l)[k], idxN hk, _, contF_ret (by omega) _, ?_⟩
      have ht : (primesF l).take (k + 1) = (primesF l).take k ++ [(primesF l)[k]] := (List.take_append_getElem hk).symm
      have hlen2 : (((primesF l).take k).filter (fun p => (primesF l).any fun q => embC q p)).length ≤ k := by
        have := List.length_filter_le (fun p => (primesF l).any fun q => embC q p) ((primesF l).take k)
        simp at this ⊢; omega
      rw [Comp.wp_ite]
      split
      · rename_i hc
        refine ⟨by simp only [List.length_append, List.length_cons, List.length_nil, small]; omega, ?_⟩
        show _ = _
        rw [wrapN (by omega), ht, List.filter_append]
        simp [hc]
      · rename_i hc
        show _ = _
        rw [wrapN (by omega), ht, List.filter_append]
        simp [hc]
    · subst hs
      show (if (((primesF l).length : Nat) : Int) < ((primesF l).length : Int) then _ else _ : Comp _).wp _
      rw [Comp.wp_ite, if_neg (by omega), List.take_length]
      rfl
  · rw [if_pos h0, if_neg h0]; rfl
def partOf (l : List M) (p : Int) : T_api_Part := ⟨p, meetF ((mget (partsF l) p).getD [])⟩
/-- The intersections of the parts stay within the bounds. -/
def PartsOk (l : List M) : Prop := ∀ p ∈ primesF l, (0 ≤ p ∧ p < 256) ∧ ∃ x ms, (mget (partsF l) p).getD [] = x :: ms ∧ MeetOk x ms
theorem Primary_ret {l : List M} {n : Int} (hl : Lb l) (h : checkF l n = 0 → Fit l ∧ PartsOk l) : (components_Primary l n).Ret (if checkF l n = 0 then ((primesF l).map (partOf l), 0) else ([], checkF l n)) := by
  refine ⟨_, check_ret hl n, ?_⟩
  rw [Comp.wp_ite]
  by_cases h0 : checkF l n = 0
  · rw [if_neg (by simp [h0]), if_pos h0]
    obtain ⟨hf, hP⟩ := h h0
    refine ⟨_, parts_ret hf.lb hf.eight hf.wf hf.few, _, primes_ret hf.twelve, ?_⟩
    have hlen : (primesF l).length ≤ 12 := by have := (sortI_perm ((partsF l).map (·.1))).length_eq; have := hf.twelve; simp [primesF] at *; omega
    show (components_Primary_L2 (partsF l) (primesF l) ([], 0)).wp _
    refine Comp.loop_idx (primesF l).length (fun k s => s = (((primesF l).take k).map (partOf l), (k : Int))) (fun k s hk hs => ?_) (fun s hs => ?_) rfl
    · subst hs
      show (if (k : Int) < ((primesF l).length : Int) then _ else _ : Comp _).wp _
      rw [Comp.wp_ite, if_pos (by omega)]
      obtain ⟨hb, x, ms, hx, hms⟩ := hP _ (List.getElem_mem hk)
      refine ⟨(primesF l)[k], idxN hk, u8wf hb, _, by rw [hx]; exact meet_ret hms, by simp [small]; omega, ?_⟩
      show _ = _
      rw [wrapN (by omega), (List.take_append_getElem hk).symm, List.map_append]
      simp only [List.map_cons, List.map_nil, partOf, hx]
    · subst hs
      show (if (((primesF l).length : Nat) : Int) < ((primesF l).length : Int) then _ else _ : Comp _).wp _
      rw [Comp.wp_ite, if_neg (by omega), List.take_length]
      rfl
  · rw [if_pos h0, if_neg h0]; rfl
instance decPart : DecidableEq T_api_Part := fun a b => decidable_of_iff (a.prime = b.prime ∧ a.gens = b.gens) ⟨fun h => by obtain ⟨x, y⟩ := a; obtain ⟨z, w⟩ := b; obtain ⟨h1, h2⟩ := h; cases h1; cases h2; rfl, fun h => by rw [h]; exact ⟨rfl, rfl⟩⟩
theorem SameParts_ret {a b : List T_api_Part} (ha : a.length ≤ 1000000) (hg : ∀ p ∈ a, Lb p.gens) : (R21_SameParts a b).Ret (decide (a = b)) := by
  unfold R21_SameParts
  by_cases hl : a.length = b.length
  · rw [if_neg (by omega)]
    show (Comp.loop _ _).wp _
    refine Comp.loop_idx a.length (fun k s => s = (k : Int) ∧ ∀ i (h1 : i < a.length) (h2 : i < b.length), i < k → a[i] = b[i]) (fun k s hk hs => ?_) (fun s hs => ?_) ⟨rfl, fun i _ _ hi => by omega⟩
    · obtain ⟨rfl, hi⟩ := hs
      show (if (k : Int) < (a.length : Int) then _ else _ : Comp _).wp _
      rw [Comp.wp_ite, if_pos (by omega)]
      have hk2 : k < b.length := by omega
      refine ⟨a[k], idxN hk, b[k], idxN hk2, ?_⟩
      rw [Comp.wp_ite]
      split
      · rename_i h
        show _ = _
        exact (decide_eq_false (fun e => h (by subst e; rfl))).symm
      · rename_i h
        refine ⟨a[k], idxN hk, b[k], idxN hk2, _, Same_ret (hg _ (List.getElem_mem hk)), ?_⟩
        rw [Comp.wp_ite]
        split
        · rename_i h2
          show _ = _
          refine (decide_eq_false (fun e => ?_)).symm
          subst e
          simp at h2
        · rename_i h2
          refine ⟨wrapN (by omega), fun i h3 h4 h5 => ?_⟩
          by_cases e : i = k
          · subst e
            have e1 : a[i].prime = b[i].prime := Classical.not_not.1 h
            have e2 : a[i].gens = b[i].gens := by simpa using h2
            generalize a[i] = x at e1 e2
            generalize b[i] = y at e1 e2
            obtain ⟨x1, x2⟩ := x
            obtain ⟨y1, y2⟩ := y
            cases e1; cases e2; rfl
          · exact hi i h3 h4 (by omega)
    · obtain ⟨rfl, hi⟩ := hs
      show (if ((a.length : Nat) : Int) < (a.length : Int) then _ else _ : Comp _).wp _
      rw [Comp.wp_ite, if_neg (by omega)]
      show _ = _
      exact (decide_eq_true (List.ext_getElem hl (fun i h1 h2 => hi i h1 h2 h1))).symm
  · rw [if_pos (by omega)]
    show _ = _
    exact (decide_eq_false (fun e => hl (by rw [e]))).symm
end Go.EL
