/- What the other functions of components return. The conditions stand in each statement. -/
import Derived.Test.YtbdknlblnfnkkaaPe
namespace Go.EL
open Go
theorem Valid_ret (m : M) : (monomial_Valid m).Ret (decide (Ok m)) := by
  show (Comp.loop _ _).wp _
  refine Comp.loop_idx 8 (fun k s => s = (k : Int) ∧ ∀ i : Fin 8, i.val < k → 0 ≤ m i ∧ m i ≤ 65535) (fun k s hk hs => ?_) (fun s hs => ?_) ⟨rfl, fun i hi => by omega⟩
  · obtain ⟨rfl, hi⟩ := hs
    show (if (k : Int) < 8 then _ else _ : Comp _).wp _
    rw [Comp.wp_ite, if_pos (by omega)]
    refine ⟨by omega, ?_⟩
    rw [Comp.wp_ite, getFN hk]
    split
    · rename_i h
      show _ = _
      exact (decide_eq_false (fun hd => by have := hd ⟨k, hk⟩; omega)).symm
    · rename_i h
      rw [Comp.wp_ite]
      split
      · rename_i h2
        show _ = _
        exact (decide_eq_false (fun hd => by have := hd ⟨k, hk⟩; omega)).symm
      · rename_i h2
        exact ⟨wrapN (by omega), all_step hi hk (by omega)⟩
  · obtain ⟨rfl, hi⟩ := hs
    show (if ((8 : Nat) : Int) < 8 then _ else _ : Comp _).wp _
    rw [Comp.wp_ite, if_neg (by omega)]
    show _ = _
    exact (decide_eq_true (fun i => hi i i.isLt)).symm
theorem Support_ret (m : M) : (monomial_Support m).Ret (suppM m) := by
  show (Comp.loop _ _).wp _
  refine Comp.loop_idx 8 (fun k s => s = (suppTo m k, (k : Int))) (fun k s hk hs => ?_) (fun s hs => ?_) rfl
  · subst hs
    show (if (k : Int) < 8 then _ else _ : Comp _).wp _
    rw [Comp.wp_ite, if_pos (by omega)]
    refine ⟨by omega, ?_⟩
    rw [Comp.wp_ite, getFN hk]
    have hb := suppTo_lt m k
    split
    · rename_i h
      refine ⟨by omega, ?_⟩
      show _ = _
      rw [wrapN (by omega), p2_shift hk, or_p2 hk hb.1 hb.2, suppTo_yes m hk h]
    · rename_i h
      show _ = _
      rw [wrapN (by omega), suppTo_no m hk h]
  · subst hs
    show (if ((8 : Nat) : Int) < 8 then _ else _ : Comp _).wp _
    rw [Comp.wp_ite, if_neg (by omega)]
    rfl
theorem suppM_bd (m : M) : 0 ≤ suppM m ∧ suppM m < 256 := by
  have := suppTo_lt m 8
  have := p2_le (Nat.le_refl 8)
  unfold suppM
  omega
/-- The exponents are valid, and no variable beyond the first n occurs. -/
def okN (n : Int) (m : M) : Prop := Ok m ∧ Int.fdiv (suppM m) (2 ^ (min n.toNat 64)) = 0
instance decOkN (n : Int) (m : M) : Decidable (okN n m) := inferInstanceAs (Decidable (_ ∧ _))
def checkF (l : List M) (n : Int) : Int := if n < 0 then 1 else if 8 < n then 1 else if ∀ m ∈ l, okN n m then (if 8 < (l.length : Int) then 2 else 0) else 1
theorem check_ret {l : List M} (hl : Lb l) (n : Int) : (components_check l n).Ret (checkF l n) := by
  unfold Lb at hl
  unfold components_check checkF
  by_cases h0 : n < 0
  · rw [if_pos h0, if_pos h0]; rfl
  rw [if_neg h0, if_neg h0]
  by_cases h8 : 8 < n
  · rw [if_pos h8, if_pos h8]; rfl
  rw [if_neg h8, if_neg h8]
  show (Comp.loop _ _).wp _
  refine Comp.loop_idx l.length (fun k s => s = (k : Int) ∧ ∀ i (h : i < l.length), i < k → okN n l[i]) (fun k s hk hs => ?_) (fun s hs => ?_) ⟨rfl, fun i _ hi => by omega⟩
  · obtain ⟨rfl, hi⟩ := hs
    show (if (k : Int) < (l.length : Int) then _ else _ : Comp _).wp _
    rw [Comp.wp_ite, if_pos (by omega)]
    refine ⟨l[k], idxN hk, _, Valid_ret _, ?_⟩
    by_cases hv : Ok l[k]
    · rw [decide_eq_true hv]
      refine ⟨_, Support_ret _, by omega, ?_⟩
      rw [Comp.wp_ite]
      have hb := suppM_bd l[k]
      have e1 : IntKind.i64.wrap (suppM l[k]) = suppM l[k] := wrap64 (by omega)
      rw [e1]
      split
      · rename_i h
        show (1 : Int) = _
        rw [if_neg]
        exact fun h2 => h (h2 _ (List.getElem_mem hk)).2
      · rename_i h
        refine ⟨wrapN (by omega), fun i h1 h2 => ?_⟩
        by_cases e : i = k
        · subst e; exact ⟨hv, Classical.not_not.1 h⟩
        · exact hi i h1 (by omega)
    · rw [decide_eq_false hv]
      show (1 : Int) = _
      rw [if_neg]
      exact fun h2 => hv (h2 _ (List.getElem_mem hk)).1
  · obtain ⟨rfl, hi⟩ := hs
    show (if ((l.length : Nat) : Int) < (l.length : Int) then _ else _ : Comp _).wp _
    rw [Comp.wp_ite, if_neg (by omega)]
    have hall : ∀ m ∈ l, okN n m := fun m hm => by
      obtain ⟨i, h1, rfl⟩ := List.mem_iff_getElem.1 hm
      exact hi i h1 h1
    show (if 8 < (l.length : Int) then _ else _ : Comp _).wp _
    rw [Comp.wp_ite, if_pos hall]
    split <;> rfl
/-- The generators of an irreducible ideal. -/
def gensM (a : M) : List M := splitTo zeroM a 8
def partsStep (D : List (Int × List (List M))) (a : M) : List (Int × List (List M)) := mput D (suppM a) ((mget D (suppM a)).getD [] ++ [gensM a])
def partsF (l : List M) : List (Int × List (List M)) := (irrF l).foldl partsStep []
theorem gens_ret (x : M) : (components_parts_L4 x ([], 0)).Ret (gensM x) := by
  refine Comp.loop_idx 8 (fun k s => s = (splitTo zeroM x k, (k : Int))) (fun k s hk hs => ?_) (fun s hs => ?_) rfl
  · subst hs
    have hlen := splitTo_length zeroM x k
    show (if (k : Int) < 8 then _ else _ : Comp _).wp _
    rw [Comp.wp_ite, if_pos (by omega)]
    refine ⟨by omega, ?_⟩
    rw [Comp.wp_ite, getFN hk, wrapN (by omega)]
    split
    · rename_i hp
      refine ⟨by omega, by simp [small]; omega, ?_⟩
      show _ = _
      simp [splitTo, hk, hp]; rfl
    · rename_i hp
      show _ = _
      simp [splitTo, hk, hp]
  · subst hs
    show (if ((8 : Nat) : Int) < 8 then _ else _ : Comp _).wp _
    rw [Comp.wp_ite, if_neg (by omega)]
    rfl
theorem u8wf {x : Int} (h : 0 ≤ x ∧ x < 256) : (Lit.int IntKind.u8 x).wf = true := by
  simp [Lit.wf, IntKind.min, IntKind.max, IntKind.signed, IntKind.bits]
  omega
theorem mget_bound {D : List (Int × List (List M))} {n : Nat} (h : ∀ p ∈ D, p.2.length ≤ n) (k : Int) : ((mget D k).getD []).length ≤ n := by
  induction D with
  | nil => simp [mget]
  | cons p D ih =>
    simp only [mget]
    split
    · exact h p (by simp)
    · exact ih (fun q hq => h q (by simp [hq]))
theorem mput_bound {D : List (Int × List (List M))} {n : Nat} {k : Int} {x : List (List M)} (h : ∀ p ∈ D, p.2.length ≤ n) (hx : x.length ≤ n) : ∀ p ∈ mput D k x, p.2.length ≤ n := by
  induction D with
  | nil => intro p hp; simp only [mput, List.mem_singleton] at hp; subst hp; exact hx
  | cons q D ih =>
    intro p hp
    simp only [mput] at hp
    split at hp
    · rcases List.mem_cons.1 hp with rfl | hp
      · exact hx
      · exact h p (by simp [hp])
    · rcases List.mem_cons.1 hp with rfl | hp
      · exact h p (by simp)
      · exact ih (fun q hq => h q (by simp [hq])) p hp
theorem parts_ret {l : List M} (hl : Lb l) (h8 : (minimalM l).length ≤ 8) (hw : ∀ m ∈ l, Wf m) (hn : (irrF l).length ≤ 100000000) : (components_parts l).Ret (partsF l) := by
  refine ⟨_, irreducible_ret hl h8 hw, ?_⟩
  show (Comp.loop _ _).wp _
  refine Comp.loop_idx (irrF l).length (fun k s => ∃ D, s = ((k : Int), D) ∧ D = ((irrF l).take k).foldl partsStep [] ∧ D.length ≤ k ∧ ∀ p ∈ D, p.2.length ≤ k) (fun k s hk hs => ?_) (fun s hs => ?_) ⟨[], rfl, rfl, by simp, by simp⟩
  · obtain ⟨D, rfl, hD, hDl, hDp⟩ := hs
    show (if (k : Int) < ((irrF l).length : Int) then _ else _ : Comp _).wp _
    rw [Comp.wp_ite, if_pos (by omega)]
    refine ⟨(irrF l)[k], idxN hk, Comp.wp_next.2 ((gens_ret _).then ?_)⟩
    have hb := u8wf (suppM_bd (irrF l)[k])
    have hg := mget_bound hDp (suppM (irrF l)[k])
    have hl1 : ((mget D (suppM (irrF l)[k])).getD [] ++ [gensM (irrF l)[k]]).length ≤ k + 1 := by simp; omega
    have hl2 := mput_length D (suppM (irrF l)[k]) ((mget D (suppM (irrF l)[k])).getD [] ++ [gensM (irrF l)[k]])
    refine ⟨_, Support_ret _, hb, by simp only [small]; omega, ⟨hb, by simp only [small]; omega⟩, ?_⟩
    refine ⟨_, by rw [wrapN (by omega)], ?_, by omega, mput_bound (fun p hp => Nat.le_succ_of_le (hDp p hp)) hl1⟩
    rw [(List.take_append_getElem hk).symm, List.foldl_append, ← hD]; rfl
  · obtain ⟨D, rfl, hD, hDl, hDp⟩ := hs
    show (if (((irrF l).length : Nat) : Int) < ((irrF l).length : Int) then _ else _ : Comp _).wp _
    rw [Comp.wp_ite, if_neg (by omega)]
    rw [List.take_length] at hD
    exact hD
theorem Lcm_ret (a b : M) : (monomial_Lcm a b).Ret (maxM a b) := by
  show (Comp.loop _ _).wp _
  refine Comp.loop_idx 8 (fun k s => s = ((k : Int), mixM k (maxM a b) a)) (fun k s hk hs => ?_) (fun s hs => ?_) (by rw [mix_zero]; rfl)
  · subst hs
    show (if (k : Int) < 8 then _ else _ : Comp _).wp _
    rw [Comp.wp_ite, if_pos (by omega)]
    refine ⟨by omega, by omega, by omega, ?_⟩
    show _ = _
    rw [wrapN (by omega), getFN hk, getFN hk, mix_at _ _ hk]
    have : (if a ⟨k, hk⟩ < b ⟨k, hk⟩ then b ⟨k, hk⟩ else a ⟨k, hk⟩) = maxM a b ⟨k, hk⟩ := rfl
    rw [this, show ((k : Int)).toNat = k by omega, mix_step _ _ hk]
  · subst hs
    show (if ((8 : Nat) : Int) < 8 then _ else _ : Comp _).wp _
    rw [Comp.wp_ite, if_neg (by omega), mix_all _ _ (by omega)]
    rfl
def meetStep (R m : List M) : List M := minimalM (R.flatMap fun a => m.map (maxM a))
def meetF : List (List M) → List M
  | [] => []
  | x :: ms => ms.foldl meetStep (minimalM x)
theorem meet_L6 {m : List M} (a : M) {A : List M} (hb : A.length + m.length ≤ 1000000000) : (components_meet_L6 m a (A, 0)).Ret (A ++ m.map (maxM a)) := by
  refine Comp.loop_idx m.length (fun k s => s = (A ++ (m.take k).map (maxM a), (k : Int))) (fun k s hk hs => ?_) (fun s hs => ?_) (by simp)
  · subst hs
    show (if (k : Int) < (m.length : Int) then _ else _ : Comp _).wp _
    rw [Comp.wp_ite, if_pos (by omega)]
    refine ⟨m[k], idxN hk, _, Lcm_ret _ _, by simp [small]; omega, ?_⟩
    show _ = _
    rw [wrapN (by omega), (List.take_append_getElem hk).symm, List.map_append, ← List.append_assoc]
    rfl
  · subst hs
    show (if ((m.length : Nat) : Int) < (m.length : Int) then _ else _ : Comp _).wp _
    rw [Comp.wp_ite, if_neg (by omega), List.take_length]
    rfl
theorem meet_L4 {R m : List M} (hb : R.length * m.length ≤ 1000000000) (hR : Lb R) (hm : Lb m) : (components_meet_L4 R m ([], 0)).Ret (R.flatMap fun a => m.map (maxM a)) := by
  unfold Lb at hR hm
  refine Comp.loop_idx R.length (fun k s => s = ((R.take k).flatMap (fun a => m.map (maxM a)), (k : Int))) (fun k s hk hs => ?_) (fun s hs => ?_) rfl
  · subst hs
    show (if (k : Int) < (R.length : Int) then _ else _ : Comp _).wp _
    rw [Comp.wp_ite, if_pos (by omega)]
    have h1 := flatMap_len (fun a => m.map (maxM a)) m.length (R.take k) (fun e _ => by simp)
    have h2 : (k + 1) * m.length ≤ R.length * m.length := Nat.mul_le_mul_right _ hk
    rw [List.length_take, Nat.min_eq_left (by omega)] at h1
    rw [Nat.add_mul] at h2
    refine ⟨R[k], idxN hk, Comp.wp_next.2 ((meet_L6 _ (by omega)).then ?_)⟩
    show _ = _
    rw [wrapN (by omega), (List.take_append_getElem hk).symm, List.flatMap_append]
    simp
  · subst hs
    show (if ((R.length : Nat) : Int) < (R.length : Int) then _ else _ : Comp _).wp _
    rw [Comp.wp_ite, if_neg (by omega), List.take_length]
    rfl
/-- The intersections that are met on the way stay within the bounds. -/
def MeetOk (x : List M) (ms : List (List M)) : Prop := Lb x ∧ ms.length ≤ 1000000 ∧ ∀ k (h : k < ms.length), Lb ms[k] ∧ ((ms.take k).foldl meetStep (minimalM x)).length * ms[k].length ≤ 1000000000
theorem meet_ret {x : List M} {ms : List (List M)} (h : MeetOk x ms) : (components_meet (x :: ms)).Ret (meetF (x :: ms)) := by
  obtain ⟨hx, hn, hk⟩ := h
  refine ⟨x, ⟨by omega, rfl⟩, _, monomial_Minimal_ret hx, ⟨by omega, by simp only [List.length_cons]; omega, by simp⟩, ?_⟩
  have ht : (((x :: ms).take (((x :: ms).length : Nat) : Int).toNat).drop (1 : Int).toNat) = ms := by simp
  show (Comp.loop _ _).wp _
  rw [ht]
  have hb : ∀ k, k ≤ ms.length → Lb ((ms.take k).foldl meetStep (minimalM x)) := fun k hk' => by
    cases k with
    | zero => have := minimalM_length x; unfold Lb at *; simp; omega
    | succ k =>
      have hk1 : k < ms.length := by omega
      rw [(List.take_append_getElem hk1).symm, List.foldl_append]
      have h1 := flatMap_len (fun a => ms[k].map (maxM a)) ms[k].length ((ms.take k).foldl meetStep (minimalM x)) (fun e _ => by simp)
      have h2 := minimalM_length (((ms.take k).foldl meetStep (minimalM x)).flatMap fun a => ms[k].map (maxM a))
      have h3 := (hk k hk1).2
      unfold Lb
      simp only [List.foldl_cons, List.foldl_nil, meetStep]
      omega
  refine Comp.loop_idx ms.length (fun k s => s = ((ms.take k).foldl meetStep (minimalM x), (k : Int))) (fun k s hk' hs => ?_) (fun s hs => ?_) rfl
  · subst hs
    show (if (k : Int) < (ms.length : Int) then _ else _ : Comp _).wp _
    rw [Comp.wp_ite, if_pos (by omega)]
    have h1 := flatMap_len (fun a => ms[k].map (maxM a)) ms[k].length ((ms.take k).foldl meetStep (minimalM x)) (fun e _ => by simp)
    refine ⟨ms[k], idxN hk', Comp.wp_next.2 ((meet_L4 (hk k hk').2 (hb k (by omega)) (hk k hk').1).then ?_)⟩
    refine ⟨_, monomial_Minimal_ret (by have := (hk k hk').2; unfold Lb; omega), ?_⟩
    show _ = _
    rw [wrapN (by omega), (List.take_append_getElem hk').symm, List.foldl_append]
    rfl
  · subst hs
    show (if ((ms.length : Nat) : Int) < (ms.length : Int) then _ else _ : Comp _).wp _
    rw [Comp.wp_ite, if_neg (by omega), List.take_length]
    rfl
def radM (m : M) : M := fun i => if 1 < m i then 1 else m i
def radF (l : List M) : List M := minimalM (l.map radM)
theorem Radical_L4 (x : M) : (components_Radical_L4 (0, x)).Ret (radM x) := by
  refine Comp.loop_idx 8 (fun k s => s = ((k : Int), mixM k (radM x) x)) (fun k s hk hs => ?_) (fun s hs => ?_) (by rw [mix_zero]; rfl)
  · subst hs
    show (if (k : Int) < 8 then _ else _ : Comp _).wp _
    rw [Comp.wp_ite, if_pos (by omega)]
    refine ⟨by omega, by omega, ?_⟩
    show _ = _
    rw [wrapN (by omega), getFN hk, mix_at _ _ hk]
    have : (if 1 < x ⟨k, hk⟩ then 1 else x ⟨k, hk⟩) = radM x ⟨k, hk⟩ := rfl
    rw [this, show ((k : Int)).toNat = k by omega, mix_step _ _ hk]
  · subst hs
    show (if ((8 : Nat) : Int) < 8 then _ else _ : Comp _).wp _
    rw [Comp.wp_ite, if_neg (by omega), mix_all _ _ (by omega)]
    rfl
theorem Radical_ret {l : List M} (hl : Lb l) : (components_Radical l).Ret (radF l) := by
  have hl' := hl
  unfold Lb at hl
  show (Comp.loop _ _).wp _
  refine Comp.loop_idx l.length (fun k s => s = ((l.take k).map radM, (k : Int))) (fun k s hk hs => ?_) (fun s hs => ?_) rfl
  · subst hs
    show (if (k : Int) < (l.length : Int) then _ else _ : Comp _).wp _
    rw [Comp.wp_ite, if_pos (by omega)]
    refine ⟨l[k], idxN hk, Comp.wp_next.2 ((Radical_L4 _).then ⟨by simp [small]; omega, ?_⟩)⟩
    show _ = _
    rw [wrapN (by omega), (List.take_append_getElem hk).symm, List.map_append]
    rfl
  · subst hs
    show (if ((l.length : Nat) : Int) < (l.length : Int) then _ else _ : Comp _).wp _
    rw [Comp.wp_ite, if_neg (by omega), List.take_length]
    exact ⟨_, monomial_Minimal_ret (by unfold Lb; simpa using hl), rfl⟩
def meet2 (l m : List M) : List M := meetF [l, m]
theorem Meet_ret {l m : List M} (hl : Lb l) (hm : Lb m) (hb : l.length * m.length ≤ 1000000000) : (components_Meet l m).Ret (meet2 l m) := by
  refine ⟨_, meet_ret ⟨hl, by simp, fun k hk => ?_⟩, rfl⟩
  have : k = 0 := by simp at hk; omega
  subst this
  refine ⟨hm, ?_⟩
  have h1 := minimalM_length l
  exact Nat.le_trans (Nat.mul_le_mul_right _ h1) hb
theorem Same_ret {a b : List M} (ha : Lb a) : (R04_Same a b).Ret (decide (a = b)) := by
  unfold Lb at ha
  unfold R04_Same
  by_cases hl : a.length = b.length
  · rw [if_neg (by omega)]
    show (Comp.loop _ _).wp _
    refine Comp.loop_idx a.length (fun k s => s = (k : Int) ∧ ∀ i (h1 : i < a.length) (h2 : i < b.length), i < k → a[i] = b[i]) (fun k s hk hs => ?_) (fun s hs => ?_) ⟨rfl, fun i _ _ hi => by omega⟩
    · obtain ⟨rfl, hi⟩ := hs
      show (if (k : Int) < (a.length : Int) then _ else _ : Comp _).wp _
      rw [Comp.wp_ite, if_pos (by omega)]
      have hk2 : k < b.length := by omega
      refine ⟨a[k], idxN hk, b[k], idxN hk2, ?_⟩
      rw [Comp.wp_ite]
      split
      · rename_i h
        show _ = _
        exact (decide_eq_false (fun e => h (by subst e; rfl))).symm
      · rename_i h
        refine ⟨wrapN (by omega), fun i h1 h2 h3 => ?_⟩
        by_cases e : i = k
        · subst e; exact Classical.not_not.1 h
        · exact hi i h1 h2 (by omega)
    · obtain ⟨rfl, hi⟩ := hs
      show (if ((a.length : Nat) : Int) < (a.length : Int) then _ else _ : Comp _).wp _
      rw [Comp.wp_ite, if_neg (by omega)]
      show _ = _
      exact (decide_eq_true (List.ext_getElem hl (fun i h1 h2 => hi i h1 h2 h1))).symm
  · rw [if_pos (by omega)]
    show _ = _
    exact (decide_eq_false (fun e => hl (by rw [e]))).symm
end Go.EL
