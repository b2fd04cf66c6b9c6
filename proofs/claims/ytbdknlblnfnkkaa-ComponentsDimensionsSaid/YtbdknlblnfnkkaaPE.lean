/- Primes and primary parts: what the functions return. The conditions stand in each statement. -/
import Derived.Test.YtbdknlblnfnkkaaPD
import Derived.Test.YtbdknlblnfnkkaaPC
namespace Go.EL
open Go
theorem primes_ret {D : List (Int × List (List M))} (h : D.length ≤ 15) (hn : (D.map (·.1)).Nodup) : (components_primes D).Ret (sortI (D.map (·.1))) := fun ks hks => by
  have hl : ks.length ≤ 15 := by have := hks.length_eq; simp at this; omega
  refine ⟨_, sortU_ret hl (hks.nodup_iff.2 hn), ?_⟩
  show sortI ks = _
  exact sortI_eq ((sortI_perm ks).trans hks) (sortI_sd ks)
theorem parts_nodup : ∀ (A : List M) (D : List (Int × List (List M))), (D.map (·.1)).Nodup → ((A.foldl partsStep D).map (·.1)).Nodup
  | [], _, h => h
  | a :: A, D, h => parts_nodup A _ (mput_nodup D _ _ h)
def primesF (l : List M) : List Int := sortI ((partsF l).map (·.1))
/-- Within what the functions are shown to bear. -/
structure Fit (l : List M) : Prop where
  lb : l.length ≤ 1000000000
  eight : (minimalM l).length ≤ 8
  wf : ∀ m ∈ l, Wf m
  few : (irrF l).length ≤ 100000000
  twelve : (partsF l).length ≤ 15
theorem Irr_ret {l : List M} {n : Int} (hl : Lb l) (h : checkF l n = 0 → Fit l) : (components_Irreducible l n).Ret (if checkF l n = 0 then (irrF l, 0) else ([], checkF l n)) := by
  refine ⟨_, check_ret hl n, ?_⟩
  rw [Comp.wp_ite]
  by_cases h0 : checkF l n = 0
  · rw [if_neg (by simp [h0]), if_pos h0]
    exact ⟨_, irreducible_ret (h h0).lb (h h0).eight (h h0).wf, rfl⟩
  · rw [if_pos h0, if_neg h0]; rfl
theorem Primes_ret {l : List M} {n : Int} (hl : Lb l) (h : checkF l n = 0 → Fit l) : (components_Primes l n).Ret (if checkF l n = 0 then (primesF l, 0) else ([], checkF l n)) := by
  refine ⟨_, check_ret hl n, ?_⟩
  rw [Comp.wp_ite]
  by_cases h0 : checkF l n = 0
  · rw [if_neg (by simp [h0]), if_pos h0]
    have hf := h h0
    exact ⟨_, parts_ret hf.lb hf.eight hf.wf hf.few, _, primes_ret hf.twelve (parts_nodup _ _ (by simp)), rfl⟩
  · rw [if_pos h0, if_neg h0]; rfl
def embC (q p : Int) : Bool := if ¬ q = p then decide (IntKind.u8.wrap (BitVec.ofInt IntKind.u8.bits q &&& ~~~ BitVec.ofInt IntKind.u8.bits p).toNat = 0) else false
def embF (ps : List Int) : List Int := ps.filter fun p => ps.any fun q => embC q p
theorem embC_ret (q p : Int) : (components_Embedded_c1 q p).Ret (embC q p) := by
  unfold components_Embedded_c1 embC
  by_cases h : ¬ q = p
  · rw [if_pos h, if_pos h]; rfl
  · rw [if_neg h, if_neg h]; rfl
theorem contF_ret {ps : List Int} (hl : ps.length ≤ 1000000) (p : Int) : (slices_ContainsFunc_uint8_uint8_components_Embedded_c1 ps p).Ret (ps.any fun q => embC q p) := by
  let f := ps.findIdx (fun q => embC q p)
  have hf : ∀ i (h : i < ps.length), i < f → embC ps[i] p = false := fun i h hi => by
    have := List.not_of_lt_findIdx (p := fun q => embC q p) (xs := ps) hi
    simpa using this
  have hfl : f ≤ ps.length := List.findIdx_le_length
  refine ⟨if f < ps.length then (f : Int) else -1, ?_, ?_⟩
  · show (Comp.loop _ _).wp _
    refine Comp.loop_idx ps.length (fun k s => s = (k : Int) ∧ k ≤ f) (fun k s hk hs => ?_) (fun s hs => ?_) ⟨rfl, Nat.zero_le _⟩
    · obtain ⟨rfl, hi⟩ := hs
      show (if (k : Int) < (ps.length : Int) then _ else _ : Comp _).wp _
      rw [Comp.wp_ite, if_pos (by omega)]
      refine ⟨ps[k], idxN hk, _, embC_ret _ _, ?_⟩
      rw [Comp.wp_ite]
      split
      · rename_i h
        show (k : Int) = _
        have : f = k := by
          rcases Nat.lt_or_ge k f with h1 | h1
          · rw [hf k hk h1] at h; cases h
          · omega
        rw [this, if_pos hk]
      · rename_i h
        refine ⟨wrapN (by omega), ?_⟩
        rcases Nat.lt_or_ge k f with h1 | h1
        · exact h1
        · have e : f = k := by omega
          have := List.findIdx_getElem (p := fun q => embC q p) (xs := ps) (w := by show f < ps.length; omega)
          exact absurd (by simpa [show ps.findIdx (fun q => embC q p) = k from e] using this) h
    · obtain ⟨rfl, hi⟩ := hs
      show (if ((ps.length : Nat) : Int) < (ps.length : Int) then _ else _ : Comp _).wp _
      rw [Comp.wp_ite, if_neg (by omega)]
      show (-1 : Int) = _
      rw [if_neg (by omega)]
  · show decide (0 ≤ (if f < ps.length then (f : Int) else -1)) = _
    by_cases h : f < ps.length
    · rw [if_pos h, decide_eq_true (by omega)]
      have := List.findIdx_getElem (p := fun q => embC q p) (xs := ps) (w := h)
      exact (List.any_eq_true.2 ⟨_, List.getElem_mem h, this⟩).symm
    · rw [if_neg h, decide_eq_false (by omega)]
      refine (Bool.eq_false_iff.2 fun h2 => ?_).symm
      obtain ⟨q, hq, hq2⟩ := List.any_eq_true.1 h2
      obtain ⟨i, hi1, rfl⟩ := List.mem_iff_getElem.1 hq
      rw [hf i hi1 (by omega)] at hq2; cases hq2
theorem Embedded_ret {l : List M} {n : Int} (hl : Lb l) (h : checkF l n = 0 → Fit l) : (components_Embedded l n).Ret (if checkF l n = 0 then (embF (primesF l), 0) else ([], checkF l n)) := by
  refine ⟨_, check_ret hl n, ?_⟩
  rw [Comp.wp_ite]
  by_cases h0 : checkF l n = 0
  · rw [if_neg (by simp [h0]), if_pos h0]
    have hf := h h0
    refine ⟨_, parts_ret hf.lb hf.eight hf.wf hf.few, _, primes_ret hf.twelve (parts_nodup _ _ (by simp)), ?_⟩
    show (Comp.loop _ _).wp _
    have hlen : (primesF l).length ≤ 15 := by have := (sortI_perm ((partsF l).map (·.1))).length_eq; have := hf.twelve; simp [primesF] at *; omega
    show (components_Embedded_L2 (primesF l) ([], 0)).wp _
    refine Comp.loop_idx (primesF l).length (fun k s => s = (((primesF l).take k).filter (fun p => (primesF l).any fun q => embC q p), (k : Int))) (fun k s hk hs => ?_) (fun s hs => ?_) rfl
    · subst hs
      show (if (k : Int) < ((primesF l).length : Int) then _ else _ : Comp _).wp _
      rw [Comp.wp_ite, if_pos (by omega)]
      refine ⟨(primesF l)[k], idxN hk, _, contF_ret (by omega) _, ?_⟩
      have ht : (primesF l).take (k + 1) = (primesF l).take k ++ [(primesF l)[k]] := (List.take_append_getElem hk).symm
      have hlen2 : (((primesF l).take k).filter (fun p => (primesF l).any fun q => embC q p)).length ≤ k := by
        have := List.length_filter_le (fun p => (primesF l).any fun q => embC q p) ((primesF l).take k)
        simp at this ⊢; omega
      rw [Comp.wp_ite]
      split
      · rename_i hc
        refine ⟨by simp only [List.length_append, List.length_cons, List.length_nil, small]; omega, ?_⟩
        show _ = _
        rw [wrapN (by omega), ht, List.filter_append]
        simp [hc]
      · rename_i hc
        show _ = _
        rw [wrapN (by omega), ht, List.filter_append]
        simp [hc]
    · subst hs
      show (if (((primesF l).length : Nat) : Int) < ((primesF l).length : Int) then _ else _ : Comp _).wp _
      rw [Comp.wp_ite, if_neg (by omega), List.take_length]
      rfl
  · rw [if_pos h0, if_neg h0]; rfl
def partOf (l : List M) (p : Int) : T_api_Part := ⟨p, meetF ((mget (partsF l) p).getD [])⟩
/-- The intersections of the parts stay within the bounds. -/
def PartsOk (l : List M) : Prop := ∀ p ∈ primesF l, (0 ≤ p ∧ p < 256) ∧ ∃ x ms, (mget (partsF l) p).getD [] = x :: ms ∧ MeetOk x ms
theorem Primary_ret {l : List M} {n : Int} (hl : Lb l) (h : checkF l n = 0 → Fit l ∧ PartsOk l) : (components_Primary l n).Ret (if checkF l n = 0 then ((primesF l).map (partOf l), 0) else ([], checkF l n)) := by
  refine ⟨_, check_ret hl n, ?_⟩
  rw [Comp.wp_ite]
  by_cases h0 : checkF l n = 0
  · rw [if_neg (by simp [h0]), if_pos h0]
    obtain ⟨hf, hP⟩ := h h0
    refine ⟨_, parts_ret hf.lb hf.eight hf.wf hf.few, _, primes_ret hf.twelve (parts_nodup _ _ (by simp)), ?_⟩
    have hlen : (primesF l).length ≤ 15 := by have := (sortI_perm ((partsF l).map (·.1))).length_eq; have := hf.twelve; simp [primesF] at *; omega
    show (components_Primary_L2 (partsF l) (primesF l) ([], 0)).wp _
    refine Comp.loop_idx (primesF l).length (fun k s => s = (((primesF l).take k).map (partOf l), (k : Int))) (fun k s hk hs => ?_) (fun s hs => ?_) rfl
    · subst hs
      show (if (k : Int) < ((primesF l).length : Int) then _ else _ : Comp _).wp _
      rw [Comp.wp_ite, if_pos (by omega)]
      obtain ⟨hb, x, ms, hx, hms⟩ := hP _ (List.getElem_mem hk)
      refine ⟨(primesF l)[k], idxN hk, u8wf hb, _, by rw [hx]; exact meet_ret hms, by simp [small]; omega, ?_⟩
      show _ = _
      rw [wrapN (by omega), (List.take_append_getElem hk).symm, List.map_append]
      simp only [List.map_cons, List.map_nil, partOf, hx]
    · subst hs
      show (if (((primesF l).length : Nat) : Int) < ((primesF l).length : Int) then _ else _ : Comp _).wp _
      rw [Comp.wp_ite, if_neg (by omega), List.take_length]
      rfl
  · rw [if_pos h0, if_neg h0]; rfl
instance decPart : DecidableEq T_api_Part := fun a b => decidable_of_iff (a.prime = b.prime ∧ a.gens = b.gens) ⟨fun h => by obtain ⟨x, y⟩ := a; obtain ⟨z, w⟩ := b; obtain ⟨h1, h2⟩ := h; cases h1; cases h2; rfl, fun h => by rw [h]; exact ⟨rfl, rfl⟩⟩
theorem SameParts_ret {a b : List T_api_Part} (ha : a.length ≤ 1000000) (hg : ∀ p ∈ a, Lb p.gens) : (R21_SameParts a b).Ret (decide (a = b)) := by
  unfold R21_SameParts
  by_cases hl : a.length = b.length
  · rw [if_neg (by omega)]
    show (Comp.loop _ _).wp _
    refine Comp.loop_idx a.length (fun k s => s = (k : Int) ∧ ∀ i (h1 : i < a.length) (h2 : i < b.length), i < k → a[i] = b[i]) (fun k s hk hs => ?_) (fun s hs => ?_) ⟨rfl, fun i _ _ hi => by omega⟩
    · obtain ⟨rfl, hi⟩ := hs
      show (if (k : Int) < (a.length : Int) then _ else _ : Comp _).wp _
      rw [Comp.wp_ite, if_pos (by omega)]
      have hk2 : k < b.length := by omega
      refine ⟨a[k], idxN hk, b[k], idxN hk2, ?_⟩
      rw [Comp.wp_ite]
      split
      · rename_i h
        show _ = _
        exact (decide_eq_false (fun e => h (by subst e; rfl))).symm
      · rename_i h
        refine ⟨a[k], idxN hk, b[k], idxN hk2, _, Same_ret (hg _ (List.getElem_mem hk)), ?_⟩
        rw [Comp.wp_ite]
        split
        · rename_i h2
          show _ = _
          refine (decide_eq_false (fun e => ?_)).symm
          subst e
          simp at h2
        · rename_i h2
          refine ⟨wrapN (by omega), fun i h3 h4 h5 => ?_⟩
          by_cases e : i = k
          · subst e
            have e1 : a[i].prime = b[i].prime := Classical.not_not.1 h
            have e2 : a[i].gens = b[i].gens := by simpa using h2
            generalize a[i] = x at e1 e2
            generalize b[i] = y at e1 e2
            obtain ⟨x1, x2⟩ := x
            obtain ⟨y1, y2⟩ := y
            cases e1; cases e2; rfl
          · exact hi i h3 h4 (by omega)
    · obtain ⟨rfl, hi⟩ := hs
      show (if ((a.length : Nat) : Int) < (a.length : Int) then _ else _ : Comp _).wp _
      rw [Comp.wp_ite, if_neg (by omega)]
      show _ = _
      exact (decide_eq_true (List.ext_getElem hl (fun i h1 h2 => hi i h1 h2 h1))).symm
  · rw [if_pos (by omega)]
    show _ = _
    exact (decide_eq_false (fun e => hl (by rw [e]))).symm
end Go.EL
/- The functions in a form that can be run; the fixed examples. No condition. -/
namespace Go.EL
open Go
section
variable {α : Type} (le : α → α → Bool)
def insL (x : α) : List α → List α
  | [] => [x]
  | y :: l => if le x y then x :: y :: l else y :: insL x l
def isortL (l : List α) : List α := l.foldr (insL le) []
variable {le}
theorem insL_perm (x : α) : ∀ l : List α, (insL le x l).Perm (x :: l)
  | [] => List.Perm.refl _
  | y :: l => by
    unfold insL
    split
    · exact List.Perm.refl _
    · exact ((insL_perm x l).cons y).trans (List.Perm.swap x y l)
theorem isortL_perm : ∀ l : List α, (isortL le l).Perm l
  | [] => List.Perm.refl _
  | x :: l => (insL_perm x _).trans ((isortL_perm l).cons x)
theorem insL_sorted (tr : ∀ a b c, le a b = true → le b c = true → le a c = true) (to : ∀ a b, (le a b || le b a) = true) (x : α) : ∀ l : List α, l.Pairwise (fun a b => le a b = true) → (insL le x l).Pairwise (fun a b => le a b = true)
  | [], _ => by simp [insL]
  | y :: l, h => by
    obtain ⟨h1, h2⟩ := List.pairwise_cons.1 h
    unfold insL
    split
    · rename_i hx
      exact List.pairwise_cons.2 ⟨fun b hb => by
        rcases List.mem_cons.1 hb with rfl | hb
        · exact hx
        · exact tr _ _ _ hx (h1 b hb), h⟩
    · rename_i hx
      have hyx : le y x = true := by have := to x y; simp only [Bool.or_eq_true] at this; rcases this with h | h; exact absurd h hx; exact h
      refine List.pairwise_cons.2 ⟨fun b hb => ?_, insL_sorted tr to x l h2⟩
      rcases List.mem_cons.1 ((insL_perm x l).mem_iff.1 hb) with rfl | hb
      · exact hyx
      · exact h1 b hb
theorem isortL_sorted (tr : ∀ a b c, le a b = true → le b c = true → le a c = true) (to : ∀ a b, (le a b || le b a) = true) : ∀ l : List α, (isortL le l).Pairwise (fun a b => le a b = true)
  | [] => List.Pairwise.nil
  | x :: l => insL_sorted tr to x _ (isortL_sorted tr to l)
theorem mergeSort_isortL (tr : ∀ a b c, le a b = true → le b c = true → le a c = true) (to : ∀ a b, (le a b || le b a) = true) (an : ∀ a b, le a b = true → le b a = true → a = b) (l : List α) : l.mergeSort le = isortL le l :=
  List.Perm.eq_of_pairwise (le := fun a b => le a b = true) (fun a b _ _ h1 h2 => an a b h1 h2) (List.pairwise_mergeSort tr to l) (isortL_sorted tr to l) ((List.mergeSort_perm l le).trans (isortL_perm l).symm)
end
def leC (cmp : M → M → Int) (x y : M) : Bool := !(Go.Proofs.ltOf cmp) y x
theorem sortM_run (l : List M) : sortM l = isortL (leC cmpM) l := by
  refine mergeSort_isortL (le := leC cmpM) (fun a b c h1 h2 => ?_) (fun a b => ?_) (fun a b h1 h2 => ?_) l
  · simp only [leC, Bool.not_eq_true'] at *
    exact swoM.ntrans _ _ _ h2 h1
  · simp only [leC, Go.Proofs.ltOf, Bool.or_eq_true, Bool.not_eq_true', decide_eq_false_iff_not]
    have := cmpM_neg a b
    omega
  · simp only [leC, Bool.not_eq_true'] at h1 h2
    exact totM a b h2 h1
theorem sortR_run (l : List M) : sortBy (fun a b => cmpM b a) l = isortL (leC fun a b => cmpM b a) l := by
  refine mergeSort_isortL (le := leC fun a b => cmpM b a) (fun a b c h1 h2 => ?_) (fun a b => ?_) (fun a b h1 h2 => ?_) l
  · simp only [leC, Bool.not_eq_true'] at *
    exact swoR.ntrans _ _ _ h2 h1
  · simp only [leC, Go.Proofs.ltOf, Bool.or_eq_true, Bool.not_eq_true', decide_eq_false_iff_not]
    have := cmpM_neg a b
    omega
  · simp only [leC, Bool.not_eq_true'] at h1 h2
    exact totR a b h2 h1
theorem sortI_run (l : List Int) : sortI l = isortL (fun x y => decide (x ≤ y)) l :=
  mergeSort_isortL (le := fun x y : Int => decide (x ≤ y)) (fun a b c h1 h2 => by simp only [decide_eq_true_eq] at *; omega) (fun a b => by simp only [Bool.or_eq_true, decide_eq_true_eq]; omega) (fun a b h1 h2 => by simp only [decide_eq_true_eq] at *; omega) l
def minimalE (l : List M) : List M := (minAcc (isortL (leC cmpM) l)).reverse
theorem minimal_run (l : List M) : minimalM l = minimalE l := by unfold minimalM minimalE; rw [sortM_run]
def irrE (l : List M) : List M := isortL (leC fun a b => cmpM b a) (irrAcc (minimalE l))
theorem irr_run (l : List M) : irrF l = irrE l := by unfold irrF irrE; rw [sortR_run, minimal_run]
def partsE (l : List M) : List (Int × List (List M)) := (irrE l).foldl partsStep []
theorem parts_run (l : List M) : partsF l = partsE l := by unfold partsF partsE; rw [irr_run]
def primesE (l : List M) : List Int := isortL (fun x y => decide (x ≤ y)) ((partsE l).map (·.1))
theorem primes_run (l : List M) : primesF l = primesE l := by unfold primesF primesE; rw [sortI_run, parts_run]
def meetStepE (R m : List M) : List M := minimalE (R.flatMap fun a => m.map (maxM a))
def meetE : List (List M) → List M
  | [] => []
  | x :: ms => ms.foldl meetStepE (minimalE x)
theorem meet_run (l : List (List M)) : meetF l = meetE l := by
  have : meetStep = meetStepE := by funext R m; exact minimal_run _
  cases l with
  | nil => rfl
  | cons x ms => simp only [meetF, meetE]; rw [this, minimal_run]
def partE (l : List M) (p : Int) : T_api_Part := ⟨p, meetE ((mget (partsE l) p).getD [])⟩
theorem part_run (l : List M) (p : Int) : partOf l p = partE l p := by unfold partOf partE; rw [meet_run, parts_run]
theorem rad_run (l : List M) : radF l = minimalE (l.map radM) := minimal_run _
instance decWf (m : M) : Decidable (Wf m) := inferInstanceAs (Decidable (∀ i, (Lit.int IntKind.i64 (m i)).wf = true))
/-- Bounds in a form that can be run. -/
theorem fit_run {l : List M} (h : (decide (l.length ≤ 1000000000) && decide ((minimalE l).length ≤ 8) && l.all (fun m => decide (Wf m)) && decide ((irrE l).length ≤ 100000000) && decide ((partsE l).length ≤ 15)) = true) : Fit l := by
  simp only [Bool.and_eq_true, decide_eq_true_eq, List.all_eq_true] at h
  obtain ⟨⟨⟨⟨h1, h2⟩, h3⟩, h4⟩, h5⟩ := h
  exact ⟨h1, by rw [minimal_run]; exact h2, h3, by rw [irr_run]; exact h4, by rw [parts_run]; exact h5⟩
theorem meetOk_run {x : List M} {ms : List (List M)} (h : (decide (x.length ≤ 1000000000) && decide (ms.length ≤ 1000000) && (List.range ms.length).all fun k => decide ((ms.getD k []).length ≤ 1000000000) && decide (((ms.take k).foldl meetStepE (minimalE x)).length * (ms.getD k []).length ≤ 1000000000)) = true) : MeetOk x ms := by
  have e : meetStep = meetStepE := by funext R m; exact minimal_run _
  simp only [Bool.and_eq_true, decide_eq_true_eq, List.all_eq_true, List.mem_range] at h
  obtain ⟨⟨h1, h2⟩, h3⟩ := h
  refine ⟨h1, h2, fun k hk => ?_⟩
  have := h3 k hk
  have eg : ms.getD k [] = ms[k] := by simp [List.getD, hk]
  rw [eg] at this
  rw [e, minimal_run]
  exact this
theorem partsOk_run {l : List M} (h : (primesE l).all (fun p => decide (0 ≤ p ∧ p < 256) && match (mget (partsE l) p).getD [] with
    | [] => false
    | x :: ms => (decide (x.length ≤ 1000000000) && decide (ms.length ≤ 1000000) && (List.range ms.length).all fun k => decide ((ms.getD k []).length ≤ 1000000000) && decide (((ms.take k).foldl meetStepE (minimalE x)).length * (ms.getD k []).length ≤ 1000000000))) = true) : PartsOk l := by
  intro p hp
  rw [primes_run] at hp
  have := List.all_eq_true.1 h p hp
  rw [Bool.and_eq_true] at this
  refine ⟨of_decide_eq_true this.1, ?_⟩
  rw [parts_run]
  have h2 := this.2
  cases hg : (mget (partsE l) p).getD [] with
  | nil => rw [hg] at h2; cases h2
  | cons x ms => rw [hg] at h2; exact ⟨x, ms, rfl, meetOk_run h2⟩
def l0 : List M := [setF (fun _ => 0) 0 2, setF (setF (fun _ => 0) 0 1) 1 1]
theorem fit0 : Fit l0 := fit_run (by decide +kernel)
theorem pok0 : PartsOk l0 := partsOk_run (by decide +kernel)
theorem check0 : checkF l0 2 = 0 := by decide +kernel
theorem check1 : checkF l0 1 = 1 := by decide +kernel
theorem irr0 : irrF l0 = [setF (setF (fun _ => 0) 0 2) 1 1, setF (fun _ => 0) 0 1] := by rw [irr_run]; decide +kernel
theorem primes0 : primesF l0 = [1, 3] := by rw [primes_run]; decide +kernel
theorem emb0 : embF [1, 3] = [3] := by decide +kernel
theorem prim0 : [1, 3].map (partOf l0) = [(T_api_Part.mk 1 [setF (fun _ => 0) 0 1]), (T_api_Part.mk 3 [setF (fun _ => 0) 0 2, setF (setF (fun _ => 0) 0 0) 1 1])] := by
  simp only [List.map_cons, List.map_nil, part_run]
  decide +kernel
theorem rad0 : radF l0 = [setF (fun _ => 0) 0 1] := by rw [rad_run]; decide +kernel
theorem meet0 : meet2 [setF (fun _ => 0) 0 1] [setF (setF (fun _ => 0) 0 0) 1 1] = [setF (setF (fun _ => 0) 0 1) 1 1] := by unfold meet2; rw [meet_run]; decide +kernel
theorem lb0 : Lb l0 := by unfold Lb; decide
theorem sanity_ret : law21_sanity.Ret true := by
  refine ⟨_, Irr_ret (l := l0) lb0 (fun _ => fit0), _, Primes_ret (l := l0) lb0 (fun _ => fit0), _, Embedded_ret (l := l0) lb0 (fun _ => fit0), _, Primary_ret (l := l0) lb0 (fun _ => ⟨fit0, pok0⟩), _, Primes_ret (l := l0) (n := 1) lb0 (fun _ => fit0), ?_⟩
  simp only [check0, check1, if_true, irr0, primes0, emb0, prim0, if_neg (show ¬ (1 : Int) = 0 by decide)]
  show (law21_sanity_k1 _ _ _ _ (decide ((1 : Int) = 1))).wp _
  unfold law21_sanity_k1
  rw [if_pos (by decide)]
  refine ⟨true, by have := Same_ret (a := [setF (setF (fun _ => 0) 0 2) 1 1, setF (fun _ => 0) 0 1]) (b := [setF (setF (fun _ => 0) 0 2) 1 1, setF (fun _ => 0) 0 1]) (by unfold Lb; decide); simpa using this, ?_⟩
  refine ⟨true, by show decide _ = true; simp, ?_⟩
  refine ⟨true, by show decide _ = true; simp, ?_⟩
  refine ⟨true, by have := SameParts_ret (a := [(T_api_Part.mk 1 [setF (fun _ => 0) 0 1]), (T_api_Part.mk 3 [setF (fun _ => 0) 0 2, setF (setF (fun _ => 0) 0 0) 1 1])]) (b := [(T_api_Part.mk 1 [setF (fun _ => 0) 0 1]), (T_api_Part.mk 3 [setF (fun _ => 0) 0 2, setF (setF (fun _ => 0) 0 0) 1 1])]) (by decide) (fun p hp => by simp only [List.mem_cons, List.not_mem_nil, or_false] at hp; unfold Lb; rcases hp with rfl | rfl <;> decide); simpa using this, ?_⟩
  refine ⟨_, Radical_ret (l := l0) lb0, ?_⟩
  rw [rad0]
  refine ⟨true, by have := Same_ret (a := [setF (fun _ => 0) 0 1]) (b := [setF (fun _ => 0) 0 1]) (by unfold Lb; decide); simpa using this, ?_⟩
  refine ⟨_, Meet_ret (l := [setF (fun _ => 0) 0 1]) (m := [setF (setF (fun _ => 0) 0 0) 1 1]) (by unfold Lb; decide) (by unfold Lb; decide) (by decide), ?_⟩
  rw [meet0]
  exact ⟨true, by have := Same_ret (a := [setF (setF (fun _ => 0) 0 1) 1 1]) (b := [setF (setF (fun _ => 0) 0 1) 1 1]) (by unfold Lb; decide); simpa using this, rfl⟩
end Go.EL
/- What the reference's functions of monomials return. The conditions stand in each statement. -/
namespace Go.EL
open Go
theorem R04_Divides_ret (a b : M) : (R04_Divides a b).Ret (decide (dvdM a b)) := by
  refine Comp.loop_idx 8 (fun k s => s = (k : Int) ∧ ∀ i : Fin 8, i.val < k → a i ≤ b i) (fun k s hk hs => ?_) (fun s hs => ?_) ⟨rfl, fun i hi => by omega⟩
  · obtain ⟨rfl, hi⟩ := hs
    rw [Comp.wp_ite, if_pos (by omega)]
    refine ⟨by omega, by omega, ?_⟩
    rw [Comp.wp_ite, getFN hk, getFN hk]
    split
    · rename_i h
      show _ = _
      exact (decide_eq_false (fun hd => by have := hd ⟨k, hk⟩; omega)).symm
    · rename_i h
      exact ⟨wrapN (by omega), all_step hi hk (by omega)⟩
  · obtain ⟨rfl, hi⟩ := hs
    rw [Comp.wp_ite, if_neg (by omega)]
    show _ = _
    exact (decide_eq_true (fun i => hi i i.isLt)).symm
theorem R04_In_ret {m : M} {l : List M} (hl : Lb l) : (R04_In m l).Ret (inM m l) := by
  unfold Lb at hl
  refine Comp.loop_idx l.length (fun k s => s = (k : Int) ∧ ∀ i (h : i < l.length), i < k → ¬ dvdM l[i] m) (fun k s hk hs => ?_) (fun s hs => ?_) ⟨rfl, fun i _ hi => by omega⟩
  · obtain ⟨rfl, hi⟩ := hs
    rw [Comp.wp_ite, if_pos (by omega)]
    refine ⟨l[k], idxN hk, _, R04_Divides_ret _ _, ?_⟩
    rw [Comp.wp_ite]
    split
    · rename_i h
      show _ = _
      exact (inM_iff.2 ⟨l[k], List.getElem_mem hk, of_decide_eq_true h⟩).symm
    · rename_i h
      refine ⟨wrapN (by omega), fun i hi1 hi2 => ?_⟩
      by_cases e : i = k
      · subst e; exact fun hd => h (decide_eq_true hd)
      · exact hi i hi1 (by omega)
  · obtain ⟨rfl, hi⟩ := hs
    rw [Comp.wp_ite, if_neg (by omega)]
    show _ = _
    refine (Bool.eq_false_iff.2 fun h => ?_).symm
    obtain ⟨d, hd, hd2⟩ := inM_iff.1 h
    obtain ⟨i, hi1, rfl⟩ := List.mem_iff_getElem.1 hd
    exact hi i hi1 hi1 hd2
theorem R04_Cmp_ret (a b : M) : (R04_Cmp a b).Ret (cmpM a b) := by
  refine Comp.loop_idx 8 (fun k s => s = (k : Int) ∧ ∀ i : Fin 8, i.val < k → a i = b i) (fun k s hk hs => ?_) (fun s hs => ?_) ⟨rfl, fun i hi => by omega⟩
  · obtain ⟨rfl, hi⟩ := hs
    rw [Comp.wp_ite, if_pos (by omega)]
    refine ⟨by omega, by omega, ?_⟩
    rw [Comp.wp_ite, getFN hk, getFN hk]
    split
    · rename_i h
      show _ = _
      exact (cmpM_lt a b hk hi h).symm
    · rename_i h
      refine ⟨by omega, by omega, ?_⟩
      rw [Comp.wp_ite]
      split
      · rename_i h2
        show _ = _
        exact (cmpM_gt a b hk hi h2).symm
      · exact ⟨wrapN (by omega), all_step hi hk (by omega)⟩
  · obtain ⟨rfl, hi⟩ := hs
    rw [Comp.wp_ite, if_neg (by omega)]
    show _ = _
    exact (cmpM_eq a b (fun i => hi i i.isLt)).symm
/-- No other element divides it. -/
def lowM (m : M) (l : List M) : Prop := ∀ d ∈ l, dvdM d m → d = m
instance (m : M) (l : List M) : Decidable (lowM m l) := by unfold lowM; infer_instance
theorem R04_lowest_ret {m : M} {l : List M} (hl : Lb l) : (R04_lowest m l).Ret (decide (lowM m l)) := by
  unfold Lb at hl
  refine Comp.loop_idx l.length (fun k s => s = (k : Int) ∧ ∀ i (h : i < l.length), i < k → dvdM l[i] m → l[i] = m) (fun k s hk hs => ?_) (fun s hs => ?_) ⟨rfl, fun i _ hi => by omega⟩
  · obtain ⟨rfl, hi⟩ := hs
    rw [Comp.wp_ite, if_pos (by omega)]
    refine ⟨l[k], idxN hk, ?_⟩
    rw [Comp.wp_ite]
    have next : (dvdM l[k] m → l[k] = m) → ∀ i (h : i < l.length), i < k + 1 → dvdM l[i] m → l[i] = m := fun hn i hi1 hi2 => by
      by_cases e : i = k
      · subst e; exact hn
      · exact hi i hi1 (by omega)
    split
    · rename_i hne
      refine ⟨l[k], idxN hk, _, R04_Divides_ret _ _, ?_⟩
      rw [Comp.wp_ite]
      split
      · rename_i h
        show _ = _
        exact (decide_eq_false fun hd => hne (hd _ (List.getElem_mem hk) (of_decide_eq_true h))).symm
      · rename_i h
        exact ⟨wrapN (by omega), next fun hd => absurd (decide_eq_true hd) h⟩
    · rename_i h
      exact ⟨wrapN (by omega), next fun _ => by simpa using h⟩
  · obtain ⟨rfl, hi⟩ := hs
    rw [Comp.wp_ite, if_neg (by omega)]
    show _ = _
    refine (decide_eq_true fun d hd hd2 => ?_).symm
    obtain ⟨i, hi1, rfl⟩ := List.mem_iff_getElem.1 hd
    exact hi i hi1 hi1 hd2
/-- Into a decreasing list. -/
def insD (m : M) : List M → List M
  | [] => [m]
  | x :: l => if 0 ≤ cmpM m x then (if x = m then x :: l else m :: x :: l) else x :: insD m l
theorem insD_length (m : M) : ∀ l, (insD m l).length ≤ l.length + 1
  | [] => by simp [insD]
  | x :: l => by
    have := insD_length m l
    unfold insD
    split
    · split <;> simp
    · simp; omega
theorem insD_skip {m : M} {B : List M} : ∀ {A : List M}, (∀ x ∈ A, cmpM m x < 0) → insD m (A ++ B) = A ++ insD m B
  | [], _ => rfl
  | x :: A, h => by
    have h1 := h x (by simp)
    rw [List.cons_append, insD, if_neg (by omega), insD_skip fun y hy => h y (by simp [hy])]; rfl
theorem insD_mem {m y : M} : ∀ {l : List M}, y ∈ insD m l ↔ y = m ∨ y ∈ l
  | [] => by simp [insD]
  | x :: l => by
    unfold insD
    split
    · split
      · rename_i e; subst e; simp
      · simp
    · simp only [List.mem_cons, insD_mem (l := l)]
      constructor
      · rintro (h | h | h) <;> simp [h]
      · rintro (h | h | h) <;> simp [h]
abbrev Dec (l : List M) : Prop := l.Pairwise fun x y => cmpM y x < 0
theorem insD_dec {m : M} : ∀ {l : List M}, Dec l → Dec (insD m l)
  | [], _ => by simp [insD]
  | x :: l, h => by
    have h' := List.pairwise_cons.1 h
    unfold insD
    split
    · rename_i h1
      split
      · exact h
      · rename_i h2
        have h3 : cmpM x m < 0 := by
          have := cmpM_neg m x
          have : cmpM m x ≠ 0 := fun e => h2 (cmpM_zero e).symm
          omega
        refine List.pairwise_cons.2 ⟨fun y hy => ?_, h⟩
        rcases List.mem_cons.1 hy with rfl | hy
        · exact h3
        · have := h'.1 y hy
          exact cmpM_lt_trans (by omega) (by omega) (Or.inl this)
    · rename_i h1
      refine List.pairwise_cons.2 ⟨fun y hy => ?_, insD_dec h'.2⟩
      rcases insD_mem.1 hy with rfl | hy
      · omega
      · exact h'.1 y hy
theorem dec_ext {l l' : List M} (h1 : Dec l) (h2 : Dec l') (hm : ∀ m, m ∈ l ↔ m ∈ l') : l = l' := by
  have nd : ∀ l : List M, Dec l → l.Nodup := fun l h => h.imp fun {a b} hab e => by rw [e, cmpM_self] at hab; omega
  refine List.Perm.eq_of_pairwise (le := fun x y => cmpM y x < 0) ?_ h1 h2 ((List.perm_ext_iff_of_nodup (nd _ h1) (nd _ h2)).2 hm)
  intro a b _ _ h1 h2
  have := cmpM_neg a b
  omega
theorem minimal_idem (l : List M) : minimalM (minimalM l) = minimalM l := by
  refine dec_ext (minimalM_strict _) (minimalM_strict _) fun m => ?_
  rw [minimalM_mem]
  exact ⟨fun h => h.1, fun h => ⟨h, fun d hd hdm => (minimalM_mem.1 h).2 d (minimalM_mem.1 hd).1 hdm⟩⟩
theorem R04_insert_ret {l : List M} {m : M} (hl : l.length < 1000000000) : (R04_insert l m).Ret (insD m l) := by
  have hlen := insD_length m l
  refine Comp.loop_idx l.length (fun k s => ∃ out done, s = (out, done, (k : Int)) ∧ (done = true → out ++ l.drop k = insD m l) ∧ (done = false → out = l.take k ∧ ∀ x ∈ l.take k, cmpM m x < 0)) (fun k s hk hs => ?_) (fun s hs => ?_) ⟨[], false, rfl, by simp, by simp⟩
  · obtain ⟨out, done, rfl, h1, h2⟩ := hs
    show (if ((k : Nat) : Int) < (l.length : Int) then _ else _ : Comp _).wp _
    rw [Comp.wp_ite, if_pos (by omega), Comp.wp_ite]
    have hd : l.drop k = l[k] :: l.drop (k + 1) := List.drop_eq_getElem_cons hk
    have ht : l.take (k + 1) = l.take k ++ [l[k]] := (List.take_append_getElem hk).symm
    cases done with
    | true =>
      rw [if_pos rfl]
      have h1 := h1 rfl
      rw [hd] at h1
      have hlen' := congrArg List.length h1
      simp at hlen'
      refine ⟨l[k], idxN hk, ?_, ⟨_, _, by rw [wrapN (by omega)], fun _ => by rw [← h1]; simp, fun h => by simp at h⟩⟩
      simp [small]; omega
    | false =>
      rw [if_neg (by simp)]
      obtain ⟨rfl, h4⟩ := h2 rfl; replace h2 := h4
      have hsk : insD m l = l.take k ++ insD m (l.drop k) := by
        rw [← insD_skip h2, List.take_append_drop]
      refine ⟨l[k], idxN hk, _, R04_Cmp_ret _ _, ?_⟩
      rw [Comp.wp_ite]
      split
      · rename_i hc
        refine ⟨l[k], idxN hk, ?_⟩
        rw [Comp.wp_ite]
        split
        · rename_i hne
          refine ⟨by simp [small]; omega, l[k], idxN hk, by simp [small]; omega, ⟨_, _, by rw [wrapN (by omega)], fun _ => ?_, fun h => by simp at h⟩⟩
          rw [hsk, hd, insD, if_pos hc, if_neg hne]; simp
        · rename_i hne
          refine ⟨l[k], idxN hk, by simp [small]; omega, ⟨_, _, by rw [wrapN (by omega)], fun _ => ?_, fun h => by simp at h⟩⟩
          rw [hsk, hd, insD, if_pos hc, if_pos (by simpa using hne)]; simp
      · rename_i hc
        refine ⟨l[k], idxN hk, by simp [small]; omega, ⟨_, _, by rw [wrapN (by omega)], fun h => by simp at h, fun _ => ⟨ht.symm, fun x hx => ?_⟩⟩⟩
        rw [ht] at hx
        rcases List.mem_append.1 hx with hx | hx
        · exact h2 x hx
        · simp at hx; subst hx; omega
  · obtain ⟨out, done, rfl, h1, h2⟩ := hs
    show (if ((l.length : Nat) : Int) < (l.length : Int) then _ else _ : Comp _).wp _
    rw [Comp.wp_ite, if_neg (by omega)]
    show (R04_insert_k1 m out done).wp _
    unfold R04_insert_k1
    rw [Comp.wp_ite]
    cases done with
    | true =>
      rw [if_neg (by simp)]
      show _ = _
      have := h1 rfl
      simpa using this
    | false =>
      rw [if_pos (by simp)]
      obtain ⟨rfl, h4⟩ := h2 rfl; replace h2 := h4
      rw [List.take_length] at h2 ⊢
      have : insD m (l ++ []) = l ++ insD m [] := insD_skip h2
      rw [List.append_nil] at this
      refine ⟨by simp [small]; omega, ?_⟩
      show _ = _
      rw [this]; rfl
theorem R04_Minimal_ret {l : List M} (hl : Lb l) : (R04_Minimal l).Ret (minimalM l) := by
  have hl' := hl
  unfold Lb at hl
  refine Comp.loop_idx l.length (fun k s => ∃ out, s = (out, (k : Int)) ∧ out.length ≤ k ∧ Dec out ∧ ∀ y, y ∈ out ↔ y ∈ l.take k ∧ lowM y l) (fun k s hk hs => ?_) (fun s hs => ?_) ⟨[], rfl, by simp, by simp, by simp⟩
  · obtain ⟨out, rfl, h1, h2, h3⟩ := hs
    have ht : l.take (k + 1) = l.take k ++ [l[k]] := (List.take_append_getElem hk).symm
    show (if ((k : Nat) : Int) < (l.length : Int) then _ else _ : Comp _).wp _
    rw [Comp.wp_ite, if_pos (by omega)]
    refine ⟨l[k], idxN hk, _, R04_lowest_ret hl', ?_⟩
    rw [Comp.wp_ite]
    split
    · rename_i h
      have h := of_decide_eq_true h
      have := insD_length l[k] out
      refine ⟨l[k], idxN hk, _, R04_insert_ret (by omega), ⟨_, by rw [wrapN (by omega)], by omega, insD_dec h2, fun y => ?_⟩⟩
      rw [insD_mem, h3, ht, List.mem_append, List.mem_singleton]
      constructor
      · rintro (rfl | ⟨h4, h5⟩)
        · exact ⟨.inr rfl, h⟩
        · exact ⟨.inl h4, h5⟩
      · rintro ⟨h4 | rfl, h5⟩
        · exact .inr ⟨h4, h5⟩
        · exact .inl rfl
    · rename_i h
      refine ⟨_, by rw [wrapN (by omega)], by omega, h2, fun y => ?_⟩
      rw [h3, ht, List.mem_append, List.mem_singleton]
      constructor
      · rintro ⟨h4, h5⟩; exact ⟨.inl h4, h5⟩
      · rintro ⟨h4 | rfl, h5⟩
        · exact ⟨h4, h5⟩
        · exact absurd (decide_eq_true h5) h
  · obtain ⟨out, rfl, h1, h2, h3⟩ := hs
    show (if ((l.length : Nat) : Int) < (l.length : Int) then _ else _ : Comp _).wp _
    rw [Comp.wp_ite, if_neg (by omega)]
    show _ = _
    refine dec_ext h2 (minimalM_strict l) fun m => ?_
    rw [h3, List.take_length, minimalM_mem]
    exact Iff.rfl
end Go.EL
