/- Primes and primary parts: what the functions return. The conditions stand in each statement. -/
import Derived.Test.YtbdknlblnfnkkaaPu
namespace Go.EL
open Go
theorem primes_ret {D : List (Int × List (List M))} (h : D.length ≤ 15) (hn : (D.map (·.1)).Nodup) : (components_primes D).Ret (sortI (D.map (·.1))) := fun ks hks => by
  have hl : ks.length ≤ 15 := by have := hks.length_eq; simp at this; omega
  refine ⟨_, sortU_ret hl (hks.nodup_iff.2 hn), ?_⟩
  show sortI ks = _
  exact sortI_eq ((sortI_perm ks).trans hks) (sortI_sd ks)
theorem parts_nodup : ∀ (A : List M) (D : List (Int × List (List M))), (D.map (·.1)).Nodup → ((A.foldl partsStep D).map (·.1)).Nodup
  | [], _, h => h
  | a :: A, D, h => parts_nodup A _ (mput_nodup D _ _ h)
def primesF (l : List M) : List Int := sortI ((partsF l).map (·.1))
/-- Within what the functions are shown to bear. -/
structure Fit (l : List M) : Prop where
  lb : l.length ≤ 1000000000
  eight : (minimalM l).length ≤ 8
  wf : ∀ m ∈ l, Wf m
  few : (irrF l).length ≤ 100000000
  twelve : (partsF l).length ≤ 15
theorem Irr_ret {l : List M} {n : Int} (hl : Lb l) (h : checkF l n = 0 → Fit l) : (components_Irreducible l n).Ret (if checkF l n = 0 then (irrF l, 0) else ([], checkF l n)) := by
  refine ⟨_, check_ret hl n, ?_⟩
  rw [Comp.wp_ite]
  by_cases h0 : checkF l n = 0
  · rw [if_neg (by simp [h0]), if_pos h0]
    exact ⟨_, irreducible_ret (h h0).lb (h h0).eight (h h0).wf, rfl⟩
  · rw [if_pos h0, if_neg h0]; rfl
theorem Primes_ret {l : List M} {n : Int} (hl : Lb l) (h : checkF l n = 0 → Fit l) : (components_Primes l n).Ret (if checkF l n = 0 then (primesF l, 0) else ([], checkF l n)) := by
  refine ⟨_, check_ret hl n, ?_⟩
  rw [Comp.wp_ite]
  by_cases h0 : checkF l n = 0
  · rw [if_neg (by simp [h0]), if_pos h0]
    have hf := h h0
    exact ⟨_, parts_ret hf.lb hf.eight hf.wf hf.few, _, primes_ret hf.twelve (parts_nodup _ _ (by simp)), rfl⟩
  · rw [if_pos h0, if_neg h0]; rfl
def embC (q p : Int) : Bool := if ¬ q = p then decide (IntKind.u8.wrap (BitVec.ofInt IntKind.u8.bits q &&& ~~~ BitVec.ofInt IntKind.u8.bits p).toNat = 0) else false
def embF (ps : List Int) : List Int := ps.filter fun p => ps.any fun q => embC q p
theorem embC_ret (q p : Int) : (components_Embedded_c1 q p).Ret (embC q p) := by
  unfold components_Embedded_c1 embC
  by_cases h : ¬ q = p
  · rw [if_pos h, if_pos h]; rfl
  · rw [if_neg h, if_neg h]; rfl
theorem contF_ret {ps : List Int} (hl : ps.length ≤ 1000000) (p : Int) : (slices_ContainsFunc_uint8_uint8_components_Embedded_c1 ps p).Ret (ps.any fun q => embC q p) := by
  let f := ps.findIdx (fun q => embC q p)
  have hf : ∀ i (h : i < ps.length), i < f → embC ps[i] p = false := fun i h hi => by
    have := List.not_of_lt_findIdx (p := fun q => embC q p) (xs := ps) hi
    simpa using this
  have hfl : f ≤ ps.length := List.findIdx_le_length
  refine ⟨if f < ps.length then (f : Int) else -1, ?_, ?_⟩
  · show (Comp.loop _ _).wp _
    refine Comp.loop_idx ps.length (fun k s => s = (k : Int) ∧ k ≤ f) (fun k s hk hs => ?_) (fun s hs => ?_) ⟨rfl, Nat.zero_le _⟩
    · obtain ⟨rfl, hi⟩ := hs
      show (if (k : Int) < (ps.length : Int) then _ else _ : Comp _).wp _
      rw [Comp.wp_ite, if_pos (by omega)]
      refine ⟨ps[k], idxN hk, _, embC_ret _ _, ?_⟩
      rw [Comp.wp_ite]
      split
      · rename_i h
        show (k : Int) = _
        have : f = k := by
          rcases Nat.lt_or_ge k f with h1 | h1
          · rw [hf k hk h1] at h; cases h
          · omega
        rw [this, if_pos hk]
      · rename_i h
        refine ⟨wrapN (by omega), ?_⟩
        rcases Nat.lt_or_ge k f with h1 | h1
        · exact h1
        · have e : f = k := by omega
          have := List.findIdx_getElem (p := fun q => embC q p) (xs := ps) (w := by show f < ps.length; omega)
          exact absurd (by simpa [show ps.findIdx (fun q => embC q p) = k from e] using this) h
    · obtain ⟨rfl, hi⟩ := hs
      show (if ((ps.length : Nat) : Int) < (ps.length : Int) then _ else _ : Comp _).wp _
      rw [Comp.wp_ite, if_neg (by omega)]
      show (-1 : Int) = _
      rw [if_neg (by omega)]
  · show decide (0 ≤ (if f < ps.length then (f : Int) else -1)) = _
    by_cases h : f < ps.length
    · rw [if_pos h, decide_eq_true (by omega)]
      have := List.findIdx_getElem (p := fun q => embC q p) (xs := ps) (w := h)
      exact (List.any_eq_true.2 ⟨_, List.getElem_mem h, this⟩).symm
    · rw [if_neg h, decide_eq_false (by omega)]
      refine (Bool.eq_false_iff.2 fun h2 => ?_).symm
      obtain ⟨q, hq, hq2⟩ := List.any_eq_true.1 h2
      obtain ⟨i, hi1, rfl⟩ := List.mem_iff_getElem.1 hq
      rw [hf i hi1 (by omega)] at hq2; cases hq2
theorem Embedded_ret {l : List M} {n : Int} (hl : Lb l) (h : checkF l n = 0 → Fit l) : (components_Embedded l n).Ret (if checkF l n = 0 then (embF (primesF l), 0) else ([], checkF l n)) := by
  refine ⟨_, check_ret hl n, ?_⟩
  rw [Comp.wp_ite]
  by_cases h0 : checkF l n = 0
  · rw [if_neg (by simp [h0]), if_pos h0]
    have hf := h h0
    refine ⟨_, parts_ret hf.lb hf.eight hf.wf hf.few, _, primes_ret hf.twelve (parts_nodup _ _ (by simp)), ?_⟩
    show (Comp.loop _ _).wp _
    have hlen : (primesF l).length ≤ 15 := by have := (sortI_perm ((partsF l).map (·.1))).length_eq; have := hf.twelve; simp [primesF] at *; omega
    show (components_Embedded_L2 (primesF l) ([], 0)).wp _
    refine Comp.loop_idx (primesF l).length (fun k s => s = (((primesF l).take k).filter (fun p => (primesF l).any fun q => embC q p), (k : Int))) (fun k s hk hs => ?_) (fun s hs => ?_) rfl
    · subst hs
      show (if (k : Int) < ((primesF l).length : Int) then _ else _ : Comp _).wp _
      rw [Comp.wp_ite, if_pos (by omega)]
      refine ⟨(primesF l)[k], idxN hk, _, contF_ret (by omega) _, ?_⟩
      have ht : (primesF l).take (k + 1) = (primesF l).take k ++ [(primesF l)[k]] := (List.take_append_getElem hk).symm
      have hlen2 : (((primesF l).take k).filter (fun p => (primesF l).any fun q => embC q p)).length ≤ k := by
        have := List.length_filter_le (fun p => (primesF l).any fun q => embC q p) ((primesF l).take k)
        simp at this ⊢; omega
      rw [Comp.wp_ite]
      split
      · rename_i hc
        refine ⟨by simp only [List.length_append, List.length_cons, List.length_nil, small]; omega, ?_⟩
        show _ = _
        rw [wrapN (by omega), ht, List.filter_append]
        simp [hc]
      · rename_i hc
        show _ = _
        rw [wrapN (by omega), ht, List.filter_append]
        simp [hc]
    · subst hs
      show (if (((primesF l).length : Nat) : Int) < ((primesF l).length : Int) then _ else _ : Comp _).wp _
      rw [Comp.wp_ite, if_neg (by omega), List.take_length]
      rfl
  · rw [if_pos h0, if_neg h0]; rfl
def partOf (l : List M) (p : Int) : T_api_Part := ⟨p, meetF ((mget (partsF l) p).getD [])⟩
/-- The intersections of the parts stay within the bounds. -/
def PartsOk (l : List M) : Prop := ∀ p ∈ primesF l, (0 ≤ p ∧ p < 256) ∧ ∃ x ms, (mget (partsF l) p).getD [] = x :: ms ∧ MeetOk x ms
theorem Primary_ret {l : List M} {n : Int} (hl : Lb l) (h : checkF l n = 0 → Fit l ∧ PartsOk l) : (components_Primary l n).Ret (if checkF l n = 0 then ((primesF l).map (partOf l), 0) else ([], checkF l n)) := by
  refine ⟨_, check_ret hl n, ?_⟩
  rw [Comp.wp_ite]
  by_cases h0 : checkF l n = 0
  · rw [if_neg (by simp [h0]), if_pos h0]
    obtain ⟨hf, hP⟩ := h h0
    refine ⟨_, parts_ret hf.lb hf.eight hf.wf hf.few, _, primes_ret hf.twelve (parts_nodup _ _ (by simp)), ?_⟩
    have hlen : (primesF l).length ≤ 15 := by have := (sortI_perm ((partsF l).map (·.1))).length_eq; have := hf.twelve; simp [primesF] at *; omega
    show (components_Primary_L2 (partsF l) (primesF l) ([], 0)).wp _
    refine Comp.loop_idx (primesF l).length (fun k s => s = (((primesF l).take k).map (partOf l), (k : Int))) (fun k s hk hs => ?_) (fun s hs => ?_) rfl
    · subst hs
      show (if (k : Int) < ((primesF l).length : Int) then _ else _ : Comp _).wp _
      rw [Comp.wp_ite, if_pos (by omega)]
      obtain ⟨hb, x, ms, hx, hms⟩ := hP _ (List.getElem_mem hk)
      refine ⟨(primesF l)[k], idxN hk, u8wf hb, _, by rw [hx]; exact meet_ret hms, by simp [small]; omega, ?_⟩
      show _ = _
      rw [wrapN (by omega), (List.take_append_getElem hk).symm, List.map_append]
      simp only [List.map_cons, List.map_nil, partOf, hx]
    · subst hs
      show (if (((primesF l).length : Nat) : Int) < ((primesF l).length : Int) then _ else _ : Comp _).wp _
      rw [Comp.wp_ite, if_neg (by omega), List.take_length]
      rfl
  · rw [if_pos h0, if_neg h0]; rfl
instance decPart : DecidableEq T_api_Part := fun a b => decidable_of_iff (a.prime = b.prime ∧ a.gens = b.gens) ⟨fun h => by obtain ⟨x, y⟩ := a; obtain ⟨z, w⟩ := b; obtain ⟨h1, h2⟩ := h; cases h1; cases h2; rfl, fun h => by rw [h]; exact ⟨rfl, rfl⟩⟩
theorem SameParts_ret {a b : List T_api_Part} (ha : a.length ≤ 1000000) (hg : ∀ p ∈ a, Lb p.gens) : (R21_SameParts a b).Ret (decide (a = b)) := by
  unfold R21_SameParts
  by_cases hl : a.length = b.length
  · rw [if_neg (by omega)]
    show (Comp.loop _ _).wp _
    refine Comp.loop_idx a.length (fun k s => s = (k : Int) ∧ ∀ i (h1 : i < a.length) (h2 : i < b.length), i < k → a[i] = b[i]) (fun k s hk hs => ?_) (fun s hs => ?_) ⟨rfl, fun i _ _ hi => by omega⟩
    · obtain ⟨rfl, hi⟩ := hs
      show (if (k : Int) < (a.length : Int) then _ else _ : Comp _).wp _
      rw [Comp.wp_ite, if_pos (by omega)]
      have hk2 : k < b.length := by omega
      refine ⟨a[k], idxN hk, b[k], idxN hk2, ?_⟩
      rw [Comp.wp_ite]
      split
      · rename_i h
        show _ = _
        exact (decide_eq_false (fun e => h (by subst e; rfl))).symm
      · rename_i h
        refine ⟨a[k], idxN hk, b[k], idxN hk2, _, Same_ret (hg _ (List.getElem_mem hk)), ?_⟩
        rw [Comp.wp_ite]
        split
        · rename_i h2
          show _ = _
          refine (decide_eq_false (fun e => ?_)).symm
          subst e
          simp at h2
        · rename_i h2
          refine ⟨wrapN (by omega), fun i h3 h4 h5 => ?_⟩
          by_cases e : i = k
          · subst e
            have e1 : a[i].prime = b[i].prime := Classical.not_not.1 h
            have e2 : a[i].gens = b[i].gens := by simpa using h2
            generalize a[i] = x at e1 e2
            generalize b[i] = y at e1 e2
            obtain ⟨x1, x2⟩ := x
            obtain ⟨y1, y2⟩ := y
            cases e1; cases e2; rfl
          · exact hi i h3 h4 (by omega)
    · obtain ⟨rfl, hi⟩ := hs
      show (if ((a.length : Nat) : Int) < (a.length : Int) then _ else _ : Comp _).wp _
      rw [Comp.wp_ite, if_neg (by omega)]
      show _ = _
      exact (decide_eq_true (List.ext_getElem hl (fun i h1 h2 => hi i h1 h2 h1))).symm
  · rw [if_pos (by omega)]
    show _ = _
    exact (decide_eq_false (fun e => hl (by rw [e]))).symm
end Go.EL
