/- The inputs of the laws of components: made lists, all small monomials; the law ComponentsMeet on the models. The conditions stand in each statement. -/
import Derived.Test.YtbdknlblnfnkkaaPE
namespace Go.EL
open Go
/-- Numbers of a byte. -/
def U8s (l : List (Fin 4 → Int)) : Prop := ∀ v ∈ l, ∀ j, 0 ≤ v j ∧ v j ≤ 255
/-- One monomial of a description. -/
def mk1 (n top : Nat) (v : Fin 4 → Int) : M := fun j => if h : j.val < 4 then (if j.val < n then Int.tmod (v ⟨j.val, h⟩) ((top : Int) + 1) else 0) else 0
def madeF (x : List (Fin 4 → Int)) (n most top : Nat) : List M := (x.take most).map (mk1 n top)
theorem mk1_bd {n top : Nat} {v : Fin 4 → Int} (h : ∀ j, 0 ≤ v j) (j : Fin 8) : 0 ≤ mk1 n top v j ∧ mk1 n top v j ≤ top ∧ (n ≤ j.val → mk1 n top v j = 0) := by
  unfold mk1
  by_cases h4 : j.val < 4
  · rw [dif_pos h4]
    by_cases hn : j.val < n
    · rw [if_pos hn]
      have h0 := h ⟨j.val, h4⟩
      rw [Int.tmod_eq_emod_of_nonneg h0]
      have h1 := Int.emod_nonneg (v ⟨j.val, h4⟩) (b := (top : Int) + 1) (by omega)
      have h2 := Int.emod_lt_of_pos (v ⟨j.val, h4⟩) (b := (top : Int) + 1) (by omega)
      exact ⟨h1, by omega, fun h => by omega⟩
    · rw [if_neg hn]; exact ⟨by omega, by omega, fun _ => rfl⟩
  · rw [dif_neg h4]; exact ⟨by omega, by omega, fun _ => rfl⟩
theorem made_bd {x : List (Fin 4 → Int)} {n most top : Nat} (hx : U8s x) {m : M} (h : m ∈ madeF x n most top) (j : Fin 8) : 0 ≤ m j ∧ m j ≤ top ∧ (n ≤ j.val → m j = 0) := by
  unfold madeF at h
  obtain ⟨v, hv, rfl⟩ := List.mem_map.1 h
  exact mk1_bd (fun j => (hx v (List.mem_of_mem_take hv) j).1) j
theorem made_len (x : List (Fin 4 → Int)) (n most top : Nat) : (madeF x n most top).length ≤ most := by
  unfold madeF; simp; omega
theorem getF4 {a : Fin 4 → Int} {k : Nat} (h : k < 4) : getF a (k : Int) = a ⟨k, h⟩ := by rw [getF_eq a (by simpa using h)]; rfl
theorem Made_L4 {x : List (Fin 4 → Int)} {n top k : Nat} (hx : U8s x) (hn : n ≤ 8) (ht : top ≤ 1000) (hk : k < x.length) : (R18_Made_L4 x n top k (0, fun _ => 0)).Ret (mk1 n top x[k]) := by
  have h4 : min n 4 ≤ 4 := by omega
  refine Comp.loop_idx (min n 4) (fun i s => s = ((i : Int), mixM i (mk1 n top x[k]) zeroM)) (fun i s hi hs => ?_) (fun s hs => ?_) (by rw [mix_zero]; rfl)
  · subst hs
    show (if (i : Int) < (n : Int) then _ else _ : Comp _).wp _
    rw [Comp.wp_ite, if_pos (by omega), Comp.wp_ite, if_pos (by omega)]
    have hv := hx x[k] (List.getElem_mem hk) ⟨i, by omega⟩
    refine ⟨x[k], idxN hk, by omega, ?_, by omega, ?_⟩
    · rw [wrap64 (by omega)]; omega
    · show _ = _
      rw [wrapN (by omega), ← mix_step (mk1 n top x[k]) zeroM (show i < 8 by omega), wrap64 (show _ ≤ (top : Int) + 1 ∧ _ by omega), getF4 (show i < 4 by omega), wrap64 (by omega)]
      congr 2
      unfold mk1
      rw [dif_pos (show i < 4 by omega), if_pos (show i < n by omega)]
  · subst hs
    have hfin : mixM (min n 4) (mk1 n top x[k]) zeroM = mk1 n top x[k] := by
      funext j
      unfold mixM
      split
      · rfl
      · rename_i h
        unfold mk1
        by_cases h4 : j.val < 4
        · rw [dif_pos h4, if_neg (by omega)]; rfl
        · rw [dif_neg h4]; rfl
    show (if ((min n 4 : Nat) : Int) < (n : Int) then _ else _ : Comp _).wp _
    rw [Comp.wp_ite]
    split
    · rw [Comp.wp_ite, if_neg (by omega)]
      exact hfin
    · exact hfin
theorem Made_ret {x : List (Fin 4 → Int)} {n most top : Nat} (hx : U8s x) (hn : n ≤ 8) (ht : top ≤ 1000) (hm : most ≤ 1000) : (R18_Made x n most top).Ret (madeF x n most top) := by
  refine Comp.loop_idx (min x.length most) (fun k s => s = ((x.take k).map (mk1 n top), (k : Int))) (fun k s hk hs => ?_) (fun s hs => ?_) rfl
  · subst hs
    show (if (k : Int) < (x.length : Int) then _ else _ : Comp _).wp _
    have hk' : k < x.length := by omega
    rw [Comp.wp_ite, if_pos (by omega), Comp.wp_ite, if_pos (by omega)]
    refine Comp.wp_next.2 ((Made_L4 hx hn ht hk').then ⟨by simp [small]; omega, ?_⟩)
    show _ = _
    rw [wrapN (by omega), (List.take_append_getElem hk').symm, List.map_append]
    rfl
  · subst hs
    have hfin : (x.take (min x.length most)).map (mk1 n top) = madeF x n most top := by
      unfold madeF; congr 1; rw [← List.take_take]; exact List.take_of_length_le (by simp; omega)
    show (if ((min x.length most : Nat) : Int) < (x.length : Int) then _ else _ : Comp _).wp _
    rw [Comp.wp_ite]
    split
    · rw [Comp.wp_ite, if_neg (by omega)]; exact hfin
    · exact hfin
/-- The number of variables of an input. -/
def varsF (x : T_law21_Input) : Nat := (x.n % 5).toNat
theorem vars_eq {x : T_law21_Input} (h : 0 ≤ x.n ∧ x.n ≤ 255) : IntKind.i64.wrap (Int.tmod x.n 5) = (varsF x : Int) ∧ varsF x ≤ 4 := by
  unfold varsF
  rw [Int.tmod_eq_emod_of_nonneg h.1, wrap64 (by omega)]
  omega
theorem vars_ret {x : T_law21_Input} (h : 0 ≤ x.n ∧ x.n ≤ 255) : (law21_vars x).Ret (varsF x : Int) := (vars_eq h).1
theorem made_ret {x : T_law21_Input} (h : 0 ≤ x.n ∧ x.n ≤ 255) (hx : U8s x.l) : (law21_made x).Ret (madeF x.l (varsF x) 4 3) := by
  refine ⟨_, ?_, rfl⟩
  rw [(vars_eq h).1]
  exact Made_ret (most := 4) (top := 3) hx (by have := (vars_eq h).2; omega) (by omega) (by omega)
def stepF (n : Nat) (m : M) : List M := (List.range 5).map fun e : Nat => setF m n (e : Int)
def allF : Nat → List M
  | 0 => [zeroM]
  | k + 1 => (allF k).flatMap (stepF k)
theorem all_len : ∀ n, (allF n).length = 5 ^ n
  | 0 => rfl
  | n + 1 => by
    have key : ∀ l : List M, (l.flatMap (stepF n)).length = l.length * 5 := by
      intro l
      induction l with
      | nil => rfl
      | cons a l ih => rw [List.flatMap_cons, List.length_append, ih]; simp [stepF]; omega
    rw [allF, key, all_len n, Nat.pow_succ]
theorem all_bd : ∀ {n : Nat} {m : M}, m ∈ allF n → ∀ j, 0 ≤ m j ∧ m j ≤ 4
  | 0, m, h, j => by simp [allF] at h; subst h; simp [zeroM]
  | n + 1, m, h, j => by
    simp only [allF, stepF, List.mem_flatMap, List.mem_map, List.mem_range] at h
    obtain ⟨a, ha, e, he, rfl⟩ := h
    unfold setF
    split
    · omega
    · exact all_bd ha j
theorem all_L6 {out A : List M} {n k : Nat} (hn : n < 8) (hk : k < out.length) (hb : A.length + 5 ≤ 1000000) : (law21_all_L6 out n k (A, 0)).Ret (A ++ stepF n out[k]) := by
  refine Comp.loop_idx 5 (fun i s => s = (A ++ (List.range i).map (fun e => setF out[k] n ((e : Nat) : Int)), (i : Int))) (fun i s hi hs => ?_) (fun s hs => ?_) (by simp)
  · subst hs
    show (if (i : Int) ≤ 4 then _ else _ : Comp _).wp _
    rw [Comp.wp_ite, if_pos (by omega)]
    refine ⟨out[k], idxN hk, by omega, by simp [small]; omega, ?_⟩
    show _ = _
    rw [wrapN (by omega), List.range_succ, List.map_append]
    simp
  · subst hs
    show (if ((5 : Nat) : Int) ≤ 4 then _ else _ : Comp _).wp _
    rw [Comp.wp_ite, if_neg (by omega)]
    rfl
theorem all_L4 {out : List M} {n : Nat} (hn : n < 8) (hb : out.length * 5 ≤ 100000) : (law21_all_L4 out n ([], 0)).Ret (out.flatMap (stepF n)) := by
  refine Comp.loop_idx out.length (fun k s => s = ((out.take k).flatMap (stepF n), (k : Int))) (fun k s hk hs => ?_) (fun s hs => ?_) rfl
  · subst hs
    show (if (k : Int) < (out.length : Int) then _ else _ : Comp _).wp _
    rw [Comp.wp_ite, if_pos (by omega)]
    have h1 := flatMap_len (stepF n) 5 (out.take k) (fun e _ => by simp [stepF])
    rw [List.length_take, Nat.min_eq_left (by omega)] at h1
    refine Comp.wp_next.2 ((all_L6 hn hk (by omega)).then ?_)
    show _ = _
    rw [wrapN (by omega), (List.take_append_getElem hk).symm, List.flatMap_append]
    simp
  · subst hs
    show (if ((out.length : Nat) : Int) < (out.length : Int) then _ else _ : Comp _).wp _
    rw [Comp.wp_ite, if_neg (by omega), List.take_length]
    rfl
theorem all_ret {n : Nat} (hn : n ≤ 4) : (law21_all (n : Int)).Ret (allF n) := by
  refine Comp.loop_idx n (fun k s => s = (allF k, (k : Int))) (fun k s hk hs => ?_) (fun s hs => ?_) rfl
  · subst hs
    show (if (k : Int) < (n : Int) then _ else _ : Comp _).wp _
    rw [Comp.wp_ite, if_pos (by omega)]
    have h1 := all_len k
    have h2 : 5 ^ k ≤ 5 ^ 4 := Nat.pow_le_pow_right (by decide) (by omega)
    refine Comp.wp_next.2 ((all_L4 (by omega) (by omega)).then ?_)
    show _ = _
    rw [wrapN (by omega)]; rfl
  · subst hs
    show (if (n : Int) < (n : Int) then _ else _ : Comp _).wp _
    rw [Comp.wp_ite, if_neg (by omega)]
    rfl
theorem all_few {n : Nat} (hn : n ≤ 4) : (allF n).length ≤ 625 := by
  rw [all_len]; exact Nat.le_trans (Nat.pow_le_pow_right (by decide) hn) (by decide)
/-- What is in an intersection. -/
theorem inM_meet (t : M) (l m : List M) : inM t (meet2 l m) = (inM t l && inM t m) := by
  have h1 : inM t (meet2 l m) = inM t ((minimalM l).flatMap fun a => m.map (maxM a)) := (inM_minimal _ _).symm
  rw [h1, inM_minimal t l, Bool.eq_iff_iff, Bool.and_eq_true, inM_iff, inM_iff, inM_iff]
  constructor
  · rintro ⟨d, hd, hdt⟩
    obtain ⟨a, ha, hd⟩ := List.mem_flatMap.1 hd
    obtain ⟨b, hb, rfl⟩ := List.mem_map.1 hd
    exact ⟨⟨a, ha, (max_dvd_iff.1 hdt).1⟩, ⟨b, hb, (max_dvd_iff.1 hdt).2⟩⟩
  · rintro ⟨⟨a, ha, h1⟩, ⟨b, hb, h2⟩⟩
    exact ⟨maxM a b, List.mem_flatMap.2 ⟨a, ha, List.mem_map.2 ⟨b, hb, rfl⟩⟩, max_dvd_iff.2 ⟨h1, h2⟩⟩
def cubeM (t : M) : M := fun i => 3 * t i
theorem inM_rad {t : M} {l : List M} (ht : ∀ i, 0 ≤ t i) (hl : ∀ m ∈ l, ∀ i, 0 ≤ m i ∧ m i ≤ 3) : inM t (radF l) = inM (cubeM t) l := by
  have h1 : inM t (radF l) = inM t (l.map radM) := (inM_minimal _ _).symm
  rw [h1, Bool.eq_iff_iff, inM_iff, inM_iff]
  have key : ∀ a ∈ l, dvdM (radM a) t ↔ dvdM a (cubeM t) := fun a ha => forall_congr' fun i => by
    have h2 := hl a ha i
    have h3 := ht i
    simp only [radM, cubeM]
    split <;> omega
  constructor
  · rintro ⟨d, hd, hdt⟩
    obtain ⟨a, ha, rfl⟩ := List.mem_map.1 hd
    exact ⟨a, ha, (key a ha).1 hdt⟩
  · rintro ⟨a, ha, h⟩
    exact ⟨_, List.mem_map.2 ⟨a, ha, rfl⟩, (key a ha).2 h⟩
theorem cube_L4 {t : M} (ht : ∀ j, 0 ≤ t j ∧ t j ≤ 4) : (law21_ComponentsMeet_L4 t (0, fun _ => 0)).Ret (cubeM t) := by
  refine Comp.loop_idx 8 (fun k s => s = ((k : Int), mixM k (cubeM t) zeroM)) (fun k s hk hs => ?_) (fun s hs => ?_) (by rw [mix_zero]; rfl)
  · subst hs
    show (if (k : Int) < 8 then _ else _ : Comp _).wp _
    rw [Comp.wp_ite, if_pos (by omega)]
    refine ⟨by omega, by omega, ?_⟩
    have := ht ⟨k, hk⟩
    show _ = _
    rw [wrapN (by omega), getFN hk, wrap64 (by omega), ← mix_step _ _ hk]
    rfl
  · subst hs
    show (if ((8 : Nat) : Int) < 8 then _ else _ : Comp _).wp _
    rw [Comp.wp_ite, if_neg (by omega), mix_all _ _ (by omega)]
    rfl
theorem cube_L6 {t : M} (ht : ∀ j, 0 ≤ t j ∧ t j ≤ 4) : (law21_ComponentsMeet_L6 t (0, fun _ => 0)).Ret (cubeM t) := cube_L4 ht
theorem Same_self {a b : List M} (ha : Lb a) (h : a = b) : (R04_Same a b).Ret true := by
  have := Same_ret (b := b) ha
  rwa [decide_eq_true h] at this
theorem meet2_lb {l m : List M} (h : l.length * m.length ≤ 1000000000) : Lb (meet2 l m) := by
  have h1 := flatMap_len (fun a => m.map (maxM a)) m.length (minimalM l) (fun e _ => by simp)
  have h2 := minimalM_length ((minimalM l).flatMap fun a => m.map (maxM a))
  have h3 := Nat.mul_le_mul_right m.length (minimalM_length l)
  have : meet2 l m = minimalM ((minimalM l).flatMap fun a => m.map (maxM a)) := rfl
  unfold Lb
  rw [this]
  omega
theorem meet_law_ret {x : T_law21_Input} {y : List (Fin 4 → Int)} (hn : 0 ≤ x.n ∧ x.n ≤ 255) (hx : U8s x.l) (hy : U8s y) : (law21_ComponentsMeet x y).Ret true := by
  have hv := (vars_eq hn).2
  have h4 := made_len x.l (varsF x) 4 3
  have h5 := made_len y (varsF x) 4 3
  have lbl : Lb (madeF x.l (varsF x) 4 3) := by unfold Lb; omega
  have lbm : Lb (madeF y (varsF x) 4 3) := by unfold Lb; omega
  have hmul : (madeF x.l (varsF x) 4 3).length * (madeF y (varsF x) 4 3).length ≤ 1000000000 := Nat.le_trans (Nat.mul_le_mul h4 h5) (by decide)
  have lbb := meet2_lb hmul
  have lbr : Lb (radF (madeF x.l (varsF x) 4 3)) := by have := minimalM_length ((madeF x.l (varsF x) 4 3).map radM); unfold Lb radF; simp at this; omega
  refine ⟨true, sanity_ret, ?_⟩
  rw [Comp.wp_ite, if_neg (by simp)]
  refine ⟨_, made_ret hn hx, _, vars_ret hn, _, Made_ret (most := 4) (top := 3) hy (by omega) (by omega) (by omega), _, Meet_ret lbl lbm hmul, _, Radical_ret lbl, _, R04_Minimal_ret lbb, true, Same_self lbb (minimal_idem _).symm, ?_⟩
  refine ⟨_, R04_Minimal_ret lbr, true, Same_self lbr (minimal_idem _).symm, ?_⟩
  rw [Comp.wp_ite, if_neg (by simp)]
  refine ⟨_, vars_ret hn, _, all_ret hv, ?_⟩
  have hfew := all_few hv
  refine Comp.wp_next.2 (Comp.loop_idx (allF (varsF x)).length (fun k s => s = (k : Int)) (fun k s hk hs => ?_) (fun s hs => ?_) rfl)
  · subst hs
    rw [Comp.wp_ite, if_pos (by omega)]
    have ht := all_bd (List.getElem_mem hk)
    have hm := inM_meet (allF (varsF x))[k] (madeF x.l (varsF x) 4 3) (madeF y (varsF x) 4 3)
    have hr := inM_rad (t := (allF (varsF x))[k]) (l := madeF x.l (varsF x) 4 3) (fun i => (ht i).1) (fun m hm i => ⟨(made_bd hx hm i).1, (made_bd hx hm i).2.1⟩)
    refine ⟨_, idxN hk, _, R04_In_ret lbb, _, R04_In_ret lbl, ?_⟩
    rw [hm]
    cases e : inM (allF (varsF x))[k] (madeF x.l (varsF x) 4 3) with
    | false =>
      show (if ¬ (false && _) = false then _ else _ : Comp _).wp _
      rw [Comp.wp_ite, if_neg (by simp)]
      refine Comp.wp_next.2 ((cube_L4 ht).then ?_)
      refine ⟨_, R04_In_ret lbr, _, R04_In_ret lbl, ?_⟩
      rw [hr, Comp.wp_ite, if_neg (by simp)]
      exact wrapN (by omega)
    | true =>
      refine ⟨_, R04_In_ret lbm, ?_⟩
      rw [Comp.wp_ite, if_neg (by simp)]
      refine Comp.wp_next.2 ((cube_L6 ht).then ?_)
      refine ⟨_, R04_In_ret lbr, _, R04_In_ret lbl, ?_⟩
      rw [hr, Comp.wp_ite, if_neg (by simp)]
      exact wrapN (by omega)
  · subst hs
    rw [Comp.wp_ite, if_neg (by omega)]
    rfl
end Go.EL
/- The decomposition of monomial ideals into irreducible ones, in plain mathematics. The conditions stand in each statement. -/
namespace Go.EL
open Go
/-- No negative exponents. -/
def Nn (a : M) : Prop := ∀ i, 0 ≤ a i
/-- t lies in the irreducible ideal of a. -/
def irrIn (a t : M) : Prop := ∃ i, 0 < a i ∧ a i ≤ t i
theorem setF_at {a : M} {i : Fin 8} {x : Int} : setF a i.val x i = x := by simp [setF]
theorem setF_ne {a : M} {i j : Fin 8} {x : Int} (h : j ≠ i) : setF a i.val x j = a j := by
  unfold setF; rw [if_neg (fun e => h (Fin.ext e))]
theorem split_in {a g t : M} (ht : Nn t) : (∀ b ∈ splitM a g, irrIn b t) ↔ irrIn a t ∨ dvdM g t := by
  unfold splitM
  by_cases h : ∃ i, 0 < a i ∧ a i ≤ g i
  · rw [if_pos h]
    obtain ⟨i, h1, h2⟩ := h
    constructor
    · intro hb; exact .inl (hb a (by simp))
    · rintro (hb | hb) b hm
      · simp at hm; subst hm; exact hb
      · simp at hm; subst hm; exact ⟨i, h1, Int.le_trans h2 (hb i)⟩
  · rw [if_neg h]
    simp only [splitTo_mem (Nat.le_refl 8)]
    constructor
    · intro hb
      by_cases ha : irrIn a t
      · exact .inl ha
      · refine .inr fun i => ?_
        by_cases hg : 0 < g i
        · obtain ⟨k, h1, h2⟩ := hb _ ⟨i, i.isLt, hg, rfl⟩
          by_cases e : k = i
          · subst e; rw [setF_at] at h2; exact h2
          · rw [setF_ne e] at h1 h2; exact absurd ⟨k, h1, h2⟩ ha
        · have := ht i; omega
    · rintro (⟨k, h1, h2⟩ | hd) b ⟨i, _, hg, rfl⟩
      · by_cases e : k = i
        · subst e
          refine ⟨k, by rw [setF_at]; exact hg, ?_⟩
          rw [setF_at]
          have : ¬ a k ≤ g k := fun h' => h ⟨k, h1, h'⟩
          omega
        · exact ⟨k, by rw [setF_ne e]; exact h1, by rw [setF_ne e]; exact h2⟩
      · exact ⟨i, by rw [setF_at]; exact hg, by rw [setF_at]; exact hd i⟩
theorem split_ind {Q : Fin 8 → Int → Prop} {a g b : M} (ha : ∀ i, Q i (a i)) (hg : ∀ i, Q i (g i)) (hb : b ∈ splitM a g) : ∀ i, Q i (b i) := by
  unfold splitM at hb
  split at hb
  · simp at hb; subst hb; exact ha
  · obtain ⟨k, _, _, rfl⟩ := (splitTo_mem (Nat.le_refl 8)).1 hb
    intro i
    by_cases e : i = k
    · subst e; rw [setF_at]; exact hg i
    · rw [setF_ne e]; exact ha i
theorem cont_in {a b t : M} (ha : Nn a) (h : contM a b) (hb : irrIn b t) : irrIn a t := by
  obtain ⟨i, h1, h2⟩ := hb
  obtain ⟨h3, h4⟩ := h i h1
  exact ⟨i, by have := ha i; omega, by omega⟩
theorem cont_refl (a : M) : contM a a := fun i h => ⟨by omega, by omega⟩
theorem cont_trans {a b c : M} (hb : Nn b) (h1 : contM a b) (h2 : contM b c) : contM a c := fun i h => by
  have h3 := h2 i h
  have h4 := h1 i (by have := hb i; omega)
  exact ⟨h4.1, by omega⟩
theorem cont_anti {a b : M} (ha : Nn a) (hb : Nn b) (h1 : contM a b) (h2 : contM b a) : a = b := by
  funext i
  have h3 := ha i
  have h4 := hb i
  have h5 := h1 i
  have h6 := h2 i
  by_cases e : 0 < b i
  · have := h5 e
    have := h6 (by omega)
    omega
  · by_cases e' : 0 < a i
    · have := h6 e'; omega
    · omega
theorem filter_lt {α : Type} {p q : α → Bool} (hpq : ∀ x, p x = true → q x = true) {y : α} (h1 : p y = false) (h2 : q y = true) : ∀ {l : List α}, y ∈ l → (l.filter p).length < (l.filter q).length
  | x :: l, h => by
    have hle : ∀ l : List α, (l.filter p).length ≤ (l.filter q).length := fun l => by
      induction l with
      | nil => simp
      | cons z l ih =>
        simp only [List.filter_cons]
        split
        · rename_i hz; rw [if_pos (hpq z hz)]; simp; omega
        · split
          · simp; omega
          · exact ih
    rcases List.mem_cons.1 h with rfl | h
    · simp only [List.filter_cons, h1, h2, if_true]
      have := hle l
      simp; omega
    · have ih := filter_lt hpq h1 h2 h
      simp only [List.filter_cons]
      split
      · rename_i hz; rw [if_pos (hpq x hz)]; simp; omega
      · split
        · simp; omega
        · exact ih
/-- Every component contains one that is not redundant. -/
theorem least_below {F : List M} (hF : ∀ x ∈ F, Nn x) : ∀ (n : Nat) {x : M}, x ∈ F → (F.filter fun z => decide (contM x z)).length ≤ n → ∃ y ∈ F, ¬ redM F y ∧ contM x y := by
  intro n
  induction n with
  | zero =>
    intro x hx hn
    exfalso
    have : x ∈ F.filter fun z => decide (contM x z) := List.mem_filter.2 ⟨hx, decide_eq_true (cont_refl x)⟩
    have := List.length_pos_of_mem this
    omega
  | succ n ih =>
    intro x hx hn
    by_cases hr : redM F x
    · obtain ⟨b, hb, hne, hc⟩ := hr
      have hlt := filter_lt (p := fun z => decide (contM b z)) (q := fun z => decide (contM x z)) (fun z hz => decide_eq_true (cont_trans (hF b hb) hc (of_decide_eq_true hz))) (y := x) (decide_eq_false fun h => hne (cont_anti (hF x hx) (hF b hb) hc h)) (decide_eq_true (cont_refl x)) hx
      obtain ⟨y, hy, h1, h2⟩ := ih hb (by omega)
      exact ⟨y, hy, h1, cont_trans (hF b hb) hc h2⟩
    · exact ⟨x, hx, hr, cont_refl x⟩
/-- What is shown of the components of a list of generators. -/
structure IrrOk (G S : List M) : Prop where
  nn : ∀ a ∈ S, Nn a
  mem : ∀ t, Nn t → ((∀ a ∈ S, irrIn a t) ↔ ∃ g ∈ G, dvdM g t)
  anti : ∀ a ∈ S, ∀ b ∈ S, contM a b → a = b
  nodup : S.Nodup
theorem irr_step {G S : List M} {g : M} (h : IrrOk G S) (hg : Nn g) : IrrOk (G ++ [g]) (irrStep S g) := by
  have hF : ∀ x ∈ S.flatMap (splitM · g), Nn x := fun x hx => by
    obtain ⟨a, ha, hx⟩ := List.mem_flatMap.1 hx
    exact split_ind (Q := fun _ z => 0 ≤ z) (h.nn a ha) hg hx
  refine ⟨fun a ha => hF a (irrStep_mem.1 ha).1, fun t ht => ?_, fun a ha b hb hc => ?_, irrStep_nodup S g⟩
  · constructor
    · intro hs
      have hall : ∀ b ∈ S.flatMap (splitM · g), irrIn b t := fun b hb => by
        obtain ⟨y, hy, h1, h2⟩ := least_below hF _ hb (Nat.le_refl _)
        exact cont_in (hF b hb) h2 (hs y (irrStep_mem.2 ⟨hy, h1⟩))
      by_cases hd : dvdM g t
      · exact ⟨g, by simp, hd⟩
      · obtain ⟨g', hg', hd'⟩ := (h.mem t ht).1 fun a ha => ((split_in ht).1 fun b hb => hall b (List.mem_flatMap.2 ⟨a, ha, hb⟩)).resolve_right hd
        exact ⟨g', by simp [hg'], hd'⟩
    · rintro ⟨g', hg', hd⟩ a ha
      obtain ⟨s, hs, ha⟩ := List.mem_flatMap.1 (irrStep_mem.1 ha).1
      refine (split_in ht).2 ?_ a ha
      rcases List.mem_append.1 hg' with hg' | hg'
      · exact .inl ((h.mem t ht).2 ⟨g', hg', hd⟩ s hs)
      · simp at hg'; subst hg'; exact .inr hd
  · apply Classical.byContradiction
    intro hne
    exact (irrStep_mem.1 ha).2 ⟨b, (irrStep_mem.1 hb).1, hne, hc⟩
theorem irrAcc_snoc (T : List M) (a : M) : irrAcc (T ++ [a]) = irrStep (irrAcc T) a := by unfold irrAcc; rw [List.foldl_append]; rfl
theorem irr_ok : ∀ G : List M, (∀ g ∈ G, Nn g) → IrrOk G (irrAcc G) := snoc_ind (fun _ => ⟨fun a ha => by simp [irrAcc] at ha; subst ha; exact fun _ => Int.le_refl _, fun t _ => ⟨fun h => by
      obtain ⟨i, h1, _⟩ := h zeroM (by simp [irrAcc])
      simp [zeroM] at h1, fun ⟨g, hg, _⟩ => by simp at hg⟩, fun a ha b hb _ => by simp [irrAcc] at ha hb; rw [ha, hb], by simp [irrAcc]⟩) fun T a ih h => by
  rw [irrAcc_snoc]
  exact irr_step (ih fun g hg => h g (by simp [hg])) (h a (by simp))
theorem irr_ind {Q : Fin 8 → Int → Prop} (h0 : ∀ i, Q i 0) : ∀ G : List M, (∀ g ∈ G, ∀ i, Q i (g i)) → ∀ a ∈ irrAcc G, ∀ i, Q i (a i) := snoc_ind (fun _ a ha => by simp [irrAcc] at ha; subst ha; exact h0) fun T a ih h b hb => by
  rw [irrAcc_snoc] at hb
  obtain ⟨s, hs, hb⟩ := List.mem_flatMap.1 (irrStep_mem.1 hb).1
  exact split_ind (ih (fun g hg => h g (by simp [hg])) s hs) (h a (by simp)) hb
theorem irrF_perm (l : List M) : (irrF l).Perm (irrAcc (minimalM l)) := sortBy_perm _ _
theorem irrF_ok {l : List M} (h : ∀ g ∈ l, Nn g) : IrrOk l (irrF l) := by
  have h1 := irr_ok (minimalM l) fun g hg => h g (minimalM_mem.1 hg).1
  have hm := fun x => (irrF_perm l).mem_iff (a := x)
  refine ⟨fun a ha => h1.nn a ((hm a).1 ha), fun t ht => ?_, fun a ha b hb => h1.anti a ((hm a).1 ha) b ((hm b).1 hb), (irrF_perm l).nodup_iff.2 h1.nodup⟩
  have h2 := h1.mem t ht
  simp only [hm]
  rw [h2, ← inM_iff, ← inM_iff, ← inM_minimal]
theorem irrF_ind {Q : Fin 8 → Int → Prop} (h0 : ∀ i, Q i 0) {l : List M} (h : ∀ g ∈ l, ∀ i, Q i (g i)) : ∀ a ∈ irrF l, ∀ i, Q i (a i) := fun a ha =>
  irr_ind h0 (minimalM l) (fun g hg => h g (minimalM_mem.1 hg).1) a ((irrF_perm l).mem_iff.1 ha)
theorem irrF_dec {l : List M} (h : ∀ g ∈ l, Nn g) : Dec (irrF l) := by
  have tr : ∀ a b c : M, (!(Go.Proofs.ltOf fun a b => cmpM b a) b a) = true → (!(Go.Proofs.ltOf fun a b => cmpM b a) c b) = true → (!(Go.Proofs.ltOf fun a b => cmpM b a) c a) = true := fun a b c h1 h2 => by
    simp only [Bool.not_eq_true'] at *
    exact swoR.ntrans _ _ _ h2 h1
  have to : ∀ a b : M, ((!(Go.Proofs.ltOf fun a b => cmpM b a) b a) || (!(Go.Proofs.ltOf fun a b => cmpM b a) a b)) = true := fun a b => by
    simp only [Go.Proofs.ltOf, Bool.or_eq_true, Bool.not_eq_true', decide_eq_false_iff_not]
    have := cmpM_neg a b
    omega
  have hs : (irrF l).Pairwise fun a b => (!(Go.Proofs.ltOf fun a b => cmpM b a) b a) = true := List.pairwise_mergeSort tr to _
  refine (hs.and (irrF_ok h).nodup).imp fun {a b} hab => ?_
  have h1 := hab.1
  simp only [Go.Proofs.ltOf, Bool.not_eq_true', decide_eq_false_iff_not] at h1
  have h2 : cmpM b a ≠ 0 := fun e => hab.2 (cmpM_zero e).symm
  have := cmpM_neg a b
  omega
/-- A monomial in all components but one. -/
def outside (a : M) (B : Int) : M := fun i => if a i = 0 then B else a i - 1
theorem outside_spec {a : M} {B : Int} (ha : Nn a) (hB : 0 ≤ B) : Nn (outside a B) ∧ ¬ irrIn a (outside a B) ∧ ∀ b : M, (∀ i, b i ≤ B) → ¬ contM a b → irrIn b (outside a B) := by
  refine ⟨fun i => ?_, fun ⟨i, h1, h2⟩ => ?_, fun b hb hc => ?_⟩
  · have := ha i; unfold outside; split <;> omega
  · unfold outside at h2; split at h2 <;> omega
  · have : ∃ i, 0 < b i ∧ ¬ (¬ a i = 0 ∧ a i ≤ b i) := by
      apply Classical.byContradiction
      intro h
      exact hc fun i hi => Classical.byContradiction fun h' => h ⟨i, hi, h'⟩
    obtain ⟨i, h1, h2⟩ := this
    refine ⟨i, h1, ?_⟩
    have h3 := hb i
    have h4 := ha i
    unfold outside
    split
    · exact h3
    · rename_i e
      have : ¬ a i ≤ b i := fun h' => h2 ⟨e, h'⟩
      omega
/-- Lists of generators without superfluous ones are the same, if the ideals are. -/
theorem minimal_eq {X Y : List M} (hX : minimalM X = X) (hY : minimalM Y = Y) (nX : ∀ x ∈ X, Nn x) (nY : ∀ y ∈ Y, Nn y) (h : ∀ t, Nn t → inM t X = inM t Y) : X = Y := by
  have half : ∀ {X Y : List M}, minimalM X = X → (∀ x ∈ X, Nn x) → (∀ y ∈ Y, Nn y) → (∀ t, Nn t → inM t X = inM t Y) → ∀ x ∈ X, x ∈ Y := by
    intro X Y hX nX nY h x hx
    have h1 : inM x Y = true := by rw [← h x (nX x hx)]; exact inM_iff.2 ⟨x, hx, dvd_refl x⟩
    obtain ⟨y, hy, hyx⟩ := inM_iff.1 h1
    have h2 : inM y X = true := by rw [h y (nY y hy)]; exact inM_iff.2 ⟨y, hy, dvd_refl y⟩
    obtain ⟨x', hx', hxy⟩ := inM_iff.1 h2
    have h3 := (minimalM_mem.1 (by rw [hX]; exact hx : x ∈ minimalM X)).2 x' hx' (dvd_trans hxy hyx)
    subst h3
    rw [dvd_antisymm hxy hyx]; exact hy
  have d1 : Dec X := by rw [← hX]; exact minimalM_strict X
  have d2 : Dec Y := by rw [← hY]; exact minimalM_strict Y
  exact dec_ext d1 d2 fun m => ⟨half hX nX nY h m, half hY nY nX (fun t ht => (h t ht).symm) m⟩
/-- The intersection of irreducible ideals. -/
def meetAll (A : List M) : List M := A.foldl (fun o a => meetStep o (gensM a)) [zeroM]
theorem gens_in {a t : M} (ht : Nn t) : inM t (gensM a) = true ↔ irrIn a t := by
  rw [inM_iff]
  unfold gensM irrIn
  constructor
  · rintro ⟨d, hd, hdt⟩
    obtain ⟨i, _, h1, rfl⟩ := (splitTo_mem (Nat.le_refl 8)).1 hd
    have := hdt i
    rw [setF_at] at this
    exact ⟨i, h1, this⟩
  · rintro ⟨i, h1, h2⟩
    refine ⟨_, (splitTo_mem (Nat.le_refl 8)).2 ⟨i, i.isLt, h1, rfl⟩, fun j => ?_⟩
    by_cases e : j = i
    · subst e; rw [setF_at]; exact h2
    · rw [setF_ne e]; exact ht j
theorem step_in (t : M) (R m : List M) : inM t (meetStep R m) = (inM t R && inM t m) := by
  have h1 : inM t (meetStep R m) = inM t (R.flatMap fun a => m.map (maxM a)) := (inM_minimal _ _).symm
  rw [h1, Bool.eq_iff_iff, Bool.and_eq_true, inM_iff, inM_iff, inM_iff]
  constructor
  · rintro ⟨d, hd, hdt⟩
    obtain ⟨a, ha, hd⟩ := List.mem_flatMap.1 hd
    obtain ⟨b, hb, rfl⟩ := List.mem_map.1 hd
    exact ⟨⟨a, ha, (max_dvd_iff.1 hdt).1⟩, ⟨b, hb, (max_dvd_iff.1 hdt).2⟩⟩
  · rintro ⟨⟨a, ha, h1⟩, ⟨b, hb, h2⟩⟩
    exact ⟨maxM a b, List.mem_flatMap.2 ⟨a, ha, List.mem_map.2 ⟨b, hb, rfl⟩⟩, max_dvd_iff.2 ⟨h1, h2⟩⟩
theorem meetAll_snoc (T : List M) (a : M) : meetAll (T ++ [a]) = meetStep (meetAll T) (gensM a) := by unfold meetAll; rw [List.foldl_append]; rfl
theorem minimal_one : minimalM [zeroM] = [zeroM] := by rw [minimal_run]; decide +kernel
theorem meetAll_min : ∀ A : List M, minimalM (meetAll A) = meetAll A := snoc_ind minimal_one fun T a _ => by rw [meetAll_snoc]; exact minimal_idem _
theorem meetAll_in {t : M} (ht : Nn t) : ∀ A : List M, (inM t (meetAll A) = true ↔ ∀ a ∈ A, irrIn a t) := snoc_ind (by
    simp only [List.not_mem_nil, false_implies, implies_true, iff_true]
    exact inM_iff.2 ⟨zeroM, by simp [meetAll], ht⟩) fun T a ih => by
  rw [meetAll_snoc, step_in, Bool.and_eq_true, ih, gens_in ht]
  constructor
  · rintro ⟨h1, h2⟩ b hb
    rcases List.mem_append.1 hb with hb | hb
    · exact h1 b hb
    · simp at hb; subst hb; exact h2
  · intro h; exact ⟨fun b hb => h b (by simp [hb]), h a (by simp)⟩
theorem step_ind {Q : Fin 8 → Int → Prop} {R m : List M} (hR : ∀ g ∈ R, ∀ i, Q i (g i)) (hm : ∀ g ∈ m, ∀ i, Q i (g i)) : ∀ x ∈ meetStep R m, ∀ i, Q i (x i) := fun x hx i => by
  obtain ⟨a, ha, hx⟩ := List.mem_flatMap.1 (minimalM_mem.1 hx).1
  obtain ⟨b, hb, rfl⟩ := List.mem_map.1 hx
  unfold maxM
  split
  · exact hm b hb i
  · exact hR a ha i
theorem gens_ind {Q : Fin 8 → Int → Prop} (h0 : ∀ i, Q i 0) {a : M} (ha : ∀ i, Q i (a i)) : ∀ x ∈ gensM a, ∀ i, Q i (x i) := fun x hx i => by
  obtain ⟨k, _, _, rfl⟩ := (splitTo_mem (Nat.le_refl 8)).1 hx
  by_cases e : i = k
  · subst e; rw [setF_at]; exact ha i
  · rw [setF_ne e]; exact h0 i
theorem meetAll_ind {Q : Fin 8 → Int → Prop} (h0 : ∀ i, Q i 0) : ∀ A : List M, (∀ a ∈ A, ∀ i, Q i (a i)) → ∀ x ∈ meetAll A, ∀ i, Q i (x i) := snoc_ind (fun _ x hx => by simp [meetAll] at hx; subst hx; exact h0) fun T a ih h x hx => by
  rw [meetAll_snoc] at hx
  exact step_ind (ih fun b hb => h b (by simp [hb])) (gens_ind h0 (h a (by simp))) x hx
theorem nodup_lt : ∀ (n : Nat) {l : List Nat}, l.Nodup → (∀ x ∈ l, x < n) → l.length ≤ n
  | 0, l, _, h => by
    cases l with
    | nil => simp
    | cons x l => exact absurd (h x (by simp)) (by omega)
  | n + 1, l, hn, h => by
    by_cases hm : n ∈ l
    · have h1 := nodup_lt n (l := l.erase n) (hn.erase n) (fun x hx => by
        have h2 := (hn.mem_erase_iff).1 hx
        have := h x h2.2
        have := h2.1
        omega)
      rw [List.length_erase_of_mem hm] at h1
      omega
    · have := nodup_lt n hn (fun x hx => by
        have := h x hx
        have : x ≠ n := fun e => hm (e ▸ hx)
        omega)
      omega
theorem code_len {l : List M} (c : M → Nat) (n : Nat) (hn : l.Nodup) (hc : ∀ x ∈ l, c x < n) (hi : ∀ x ∈ l, ∀ y ∈ l, c x = c y → x = y) : l.length ≤ n := by
  have h1 : (l.map c).Nodup := by
    rw [List.Nodup, List.pairwise_map]
    exact hn.imp_of_mem fun {a b} ha hb hab e => hab (hi a ha b hb e)
  have := nodup_lt n h1 (fun x hx => by obtain ⟨y, hy, rfl⟩ := List.mem_map.1 hx; exact hc y hy)
  simpa using this
/-- Small exponents, in four variables. -/
def Qs (i : Fin 8) (x : Int) : Prop := 0 ≤ x ∧ x ≤ 3 ∧ (4 ≤ i.val → x = 0)
def Sm (m : M) : Prop := ∀ i, Qs i (m i)
theorem sm_few {l : List M} (h : ∀ m ∈ l, Sm m) (hn : l.Nodup) : l.length ≤ 256 := by
  refine code_len (fun m => (m 0 + 4 * m 1 + 16 * m 2 + 64 * m 3).toNat) 256 hn (fun x hx => ?_) (fun x hx y hy e => ?_)
  · have h0 := h x hx 0; have h1 := h x hx 1; have h2 := h x hx 2; have h3 := h x hx 3
    unfold Qs at h0 h1 h2 h3
    show Int.toNat _ < 256
    omega
  · have h0 := h x hx 0; have h1 := h x hx 1; have h2 := h x hx 2; have h3 := h x hx 3
    have g0 := h y hy 0; have g1 := h y hy 1; have g2 := h y hy 2; have g3 := h y hy 3
    unfold Qs at h0 h1 h2 h3 g0 g1 g2 g3
    replace e : Int.toNat _ = Int.toNat _ := e
    funext i
    match i with
    | 0 => omega
    | 1 => omega
    | 2 => omega
    | 3 => omega
    | 4 => have := (h x hx 4).2.2 (by decide); have := (h y hy 4).2.2 (by decide); omega
    | 5 => have := (h x hx 5).2.2 (by decide); have := (h y hy 5).2.2 (by decide); omega
    | 6 => have := (h x hx 6).2.2 (by decide); have := (h y hy 6).2.2 (by decide); omega
    | 7 => have := (h x hx 7).2.2 (by decide); have := (h y hy 7).2.2 (by decide); omega
theorem irr_few {G S : List M} (h : IrrOk G S) (hs : ∀ m ∈ S, Sm m) : S.length ≤ 64 := by
  refine code_len (fun m => (m 0 + 4 * m 1 + 16 * m 2).toNat) 64 h.nodup (fun x hx => ?_) (fun x hx y hy e => ?_)
  · have h0 := hs x hx 0; have h1 := hs x hx 1; have h2 := hs x hx 2
    unfold Qs at h0 h1 h2
    show Int.toNat _ < 64
    omega
  · have h0 := hs x hx 0; have h1 := hs x hx 1; have h2 := hs x hx 2; have h3 := hs x hx 3
    have g0 := hs y hy 0; have g1 := hs y hy 1; have g2 := hs y hy 2; have g3 := hs y hy 3
    unfold Qs at h0 h1 h2 h3 g0 g1 g2 g3
    replace e : Int.toNat _ = Int.toNat _ := e
    have e0 : x 0 = y 0 := by omega
    have e1 : x 1 = y 1 := by omega
    have e2 : x 2 = y 2 := by omega
    have key : ∀ a b : M, (∀ i, Qs i (a i)) → (∀ i, Qs i (b i)) → a 0 = b 0 → a 1 = b 1 → a 2 = b 2 → (b 3 = 0 ∨ (a 3 ≠ 0 ∧ a 3 ≤ b 3)) → contM a b := by
      intro a b ha hb h0 h1 h2 h3 i hi
      match i with
      | 0 => exact ⟨by omega, by omega⟩
      | 1 => exact ⟨by omega, by omega⟩
      | 2 => exact ⟨by omega, by omega⟩
      | 3 => rcases h3 with h3 | h3
             · omega
             · exact h3
      | 4 => have := (hb 4).2.2 (by decide); omega
      | 5 => have := (hb 5).2.2 (by decide); omega
      | 6 => have := (hb 6).2.2 (by decide); omega
      | 7 => have := (hb 7).2.2 (by decide); omega
    by_cases c : y 3 = 0 ∨ (x 3 ≠ 0 ∧ x 3 ≤ y 3)
    · exact h.anti x hx y hy (key x y (hs x hx) (hs y hy) e0 e1 e2 c)
    · exact (h.anti y hy x hx (key y x (hs y hy) (hs x hx) e0.symm e1.symm e2.symm (by omega))).symm
end Go.EL
/- The law ComponentsIrreducible on the models. The conditions stand in each statement. -/
namespace Go.EL
open Go
theorem R04_Valid_ret (m : M) : (R04_Valid m).Ret (decide (Ok m)) := by
  refine Comp.loop_idx 8 (fun k s => s = (k : Int) ∧ ∀ i : Fin 8, i.val < k → 0 ≤ m i ∧ m i ≤ 65535) (fun k s hk hs => ?_) (fun s hs => ?_) ⟨rfl, fun i hi => by omega⟩
  · obtain ⟨rfl, hi⟩ := hs
    rw [Comp.wp_ite, if_pos (by omega)]
    refine ⟨by omega, ?_⟩
    rw [Comp.wp_ite, getFN hk]
    split
    · rename_i h
      show _ = _
      exact (decide_eq_false (fun hd => by have := hd ⟨k, hk⟩; omega)).symm
    · rename_i h
      refine ⟨by omega, ?_⟩
      rw [Comp.wp_ite]
      split
      · rename_i h2
        show _ = _
        exact (decide_eq_false (fun hd => by have := hd ⟨k, hk⟩; omega)).symm
      · rename_i h2
        exact ⟨wrapN (by omega), all_step hi hk ⟨by omega, by omega⟩⟩
  · obtain ⟨rfl, hi⟩ := hs
    rw [Comp.wp_ite, if_neg (by omega)]
    show _ = _
    exact (decide_eq_true (fun i => hi i i.isLt)).symm
theorem R21_Gens_ret (x : M) : (R21_Gens x).Ret (gensM x) := by
  refine Comp.loop_idx 8 (fun k s => s = (splitTo zeroM x k, (k : Int))) (fun k s hk hs => ?_) (fun s hs => ?_) rfl
  · subst hs
    have hlen := splitTo_length zeroM x k
    show (if (k : Int) < 8 then _ else _ : Comp _).wp _
    rw [Comp.wp_ite, if_pos (by omega)]
    refine ⟨by omega, ?_⟩
    rw [Comp.wp_ite, getFN hk, wrapN (by omega)]
    split
    · rename_i hp
      refine ⟨by omega, by omega, by simp [small]; omega, ?_⟩
      show _ = _
      simp [splitTo, hk, hp]; rfl
    · rename_i hp
      show _ = _
      simp [splitTo, hk, hp]
  · subst hs
    show (if ((8 : Nat) : Int) < 8 then _ else _ : Comp _).wp _
    rw [Comp.wp_ite, if_neg (by omega)]
    rfl
theorem R04_Lcm_ret (a b : M) : (R04_Lcm a b).Ret (maxM a b) := by
  refine Comp.loop_idx 8 (fun k s => s = ((k : Int), mixM k (maxM a b) a)) (fun k s hk hs => ?_) (fun s hs => ?_) (by rw [mix_zero]; rfl)
  · subst hs
    show (if (k : Int) < 8 then _ else _ : Comp _).wp _
    rw [Comp.wp_ite, if_pos (by omega)]
    refine ⟨by omega, by omega, by omega, ?_⟩
    show _ = _
    rw [wrapN (by omega), getFN hk, getFN hk, mix_at _ _ hk, ← mix_step _ _ hk]
    rfl
  · subst hs
    show (if ((8 : Nat) : Int) < 8 then _ else _ : Comp _).wp _
    rw [Comp.wp_ite, if_neg (by omega), mix_all _ _ (by omega)]
    rfl
theorem R21_Meet_L4_ret {l m : List M} {i : Nat} (hi : i < l.length) {A : List M} (hb : A.length + m.length ≤ 1000000000) : (R21_Meet_L4 l m i (A, 0)).Ret (A ++ m.map (maxM l[i])) := by
  refine Comp.loop_idx m.length (fun k s => s = (A ++ (m.take k).map (maxM l[i]), (k : Int))) (fun k s hk hs => ?_) (fun s hs => ?_) (by simp)
  · subst hs
    show (if (k : Int) < (m.length : Int) then _ else _ : Comp _).wp _
    rw [Comp.wp_ite, if_pos (by omega)]
    refine ⟨l[i], idxN hi, m[k], idxN hk, _, R04_Lcm_ret _ _, by simp [small]; omega, ?_⟩
    show _ = _
    rw [wrapN (by omega), (List.take_append_getElem hk).symm, List.map_append]
    simp
  · subst hs
    show (if ((m.length : Nat) : Int) < (m.length : Int) then _ else _ : Comp _).wp _
    rw [Comp.wp_ite, if_neg (by omega), List.take_length]
    rfl
theorem R21_Meet_ret {l m : List M} (hb : l.length * m.length ≤ 1000000) (hl : l.length ≤ 1000000) (hm : m.length ≤ 1000000) : (R21_Meet l m).Ret (meetStep l m) := by
  refine Comp.loop_idx l.length (fun k s => s = ((l.take k).flatMap (fun a => m.map (maxM a)), (k : Int))) (fun k s hk hs => ?_) (fun s hs => ?_) rfl
  · subst hs
    show (if (k : Int) < (l.length : Int) then _ else _ : Comp _).wp _
    rw [Comp.wp_ite, if_pos (by omega)]
    have h1 := flatMap_len (fun a => m.map (maxM a)) m.length (l.take k) (fun e _ => by simp)
    have h2 : (k + 1) * m.length ≤ l.length * m.length := Nat.mul_le_mul_right _ hk
    rw [List.length_take, Nat.min_eq_left (by omega)] at h1
    rw [Nat.add_mul] at h2
    refine Comp.wp_next.2 ((R21_Meet_L4_ret hk (by omega)).then ?_)
    show _ = _
    rw [wrapN (by omega), (List.take_append_getElem hk).symm, List.flatMap_append]
    simp
  · subst hs
    show (if ((l.length : Nat) : Int) < (l.length : Int) then _ else _ : Comp _).wp _
    rw [Comp.wp_ite, if_neg (by omega), List.take_length]
    have h1 := flatMap_len (fun a => m.map (maxM a)) m.length l (fun e _ => by simp)
    exact ⟨_, R04_Minimal_ret (by unfold Lb; omega), rfl⟩
/-- The list without the element of an index. -/
def butL (l : List M) (but : Int) : Nat → List M
  | 0 => []
  | k + 1 => butL l but k ++ (if (k : Int) = but then [] else (l[k]?).toList)
theorem butL_mem {l : List M} {but : Int} {x : M} : ∀ {k : Nat}, x ∈ butL l but k ↔ ∃ j, j < k ∧ (j : Int) ≠ but ∧ l[j]? = some x
  | 0 => by simp [butL]
  | k + 1 => by
    simp only [butL, List.mem_append, butL_mem (k := k)]
    constructor
    · rintro (⟨j, h1, h2⟩ | h)
      · exact ⟨j, by omega, h2⟩
      · split at h
        · simp at h
        · rename_i hk
          exact ⟨k, by omega, hk, by simpa using h⟩
    · rintro ⟨j, h1, h2, h3⟩
      by_cases e : j = k
      · subst e; right; rw [if_neg h2]; simp [h3]
      · exact .inl ⟨j, by omega, h2, h3⟩
theorem minimal_nodup (l : List M) : (minimalM l).Nodup := (minimalM_strict l).imp fun {a b} hab e => by rw [e, cmpM_self] at hab; omega
theorem meetAll_few {A : List M} (h : ∀ a ∈ A, Sm a) : (meetAll A).length ≤ 256 := by
  refine sm_few (fun m hm i => meetAll_ind (fun i => ⟨by omega, by omega, fun _ => rfl⟩) A h m hm i) ?_
  rw [← meetAll_min]; exact minimal_nodup _
theorem law_meet_ret {l : List M} {but : Int} (h : ∀ a ∈ l, Sm a) (hl : l.length ≤ 1000) : (law21_meet l but).Ret (meetAll (butL l but l.length)) := by
  refine Comp.loop_idx l.length (fun k s => s = (meetAll (butL l but k), (k : Int))) (fun k s hk hs => ?_) (fun s hs => ?_) rfl
  · subst hs
    show (if (k : Int) < (l.length : Int) then _ else _ : Comp _).wp _
    rw [Comp.wp_ite, if_pos (by omega), Comp.wp_ite]
    split
    · rename_i hne
      have h1 := meetAll_few (A := butL l but k) (fun a ha => by
        obtain ⟨j, _, _, hj⟩ := butL_mem.1 ha
        exact h a (List.mem_of_getElem? hj))
      have h2 := splitTo_length zeroM l[k] 8
      have h3 : (meetAll (butL l but k)).length * (gensM l[k]).length ≤ 256 * 8 := Nat.mul_le_mul h1 h2
      refine ⟨l[k], idxN hk, _, R21_Gens_ret _, _, R21_Meet_ret (by omega) (by omega) (by unfold gensM; omega), ?_⟩
      show _ = _
      rw [wrapN (by omega), butL, if_neg hne, List.getElem?_eq_getElem hk, Option.toList, meetAll_snoc]
    · rename_i hne
      show _ = _
      rw [wrapN (by omega), butL, if_pos (by simpa using hne), List.append_nil]
  · subst hs
    show (if ((l.length : Nat) : Int) < (l.length : Int) then _ else _ : Comp _).wp _
    rw [Comp.wp_ite, if_neg (by omega)]
    rfl
theorem supp_zero {a : M} {n : Nat} (h : ∀ j : Fin 8, n ≤ j.val → a j = 0) : ∀ k, n ≤ k → suppTo a k = suppTo a n := by
  intro k hk
  induction k with
  | zero => have : n = 0 := by omega
            subst this; rfl
  | succ k ih =>
    by_cases e : n = k + 1
    · subst e; rfl
    · rw [suppTo, ih (by omega)]
      split
      · rename_i h8
        rw [if_neg (by rw [h ⟨k, h8⟩ (by simp; omega)]; omega), Int.add_zero]
      · rw [Int.add_zero]
theorem check_made {l : List M} {n : Nat} (hn : n ≤ 8) (hl : l.length ≤ 8) (h : ∀ m ∈ l, ∀ j : Fin 8, 0 ≤ m j ∧ m j ≤ 65535 ∧ (n ≤ j.val → m j = 0)) : checkF l (n : Int) = 0 := by
  unfold checkF
  rw [if_neg (by omega), if_neg (by omega), if_pos, if_neg (by omega)]
  intro m hm
  refine ⟨fun i => ⟨(h m hm i).1, (h m hm i).2.1⟩, ?_⟩
  have h1 := suppTo_lt m n
  have h2 : suppM m = suppTo m n := supp_zero (fun j hj => (h m hm j).2.2 hj) 8 hn
  have h3 : (2 : Int) ^ (min (n : Int).toNat 64) = p2 n := by
    rw [p2_nat]
    have : min (n : Int).toNat 64 = n := by omega
    rw [this]; simp
  rw [h2, h3]
  exact Int.fdiv_eq_zero_of_lt h1.1 h1.2
theorem Irr_ret2 {l : List M} {n : Int} (hl : l.length ≤ 8) (hw : ∀ m ∈ l, Wf m) (h : checkF l n = 0) : (components_Irreducible l n).Ret (irrF l, 0) := by
  refine ⟨_, check_ret (by unfold Lb; omega) n, ?_⟩
  rw [Comp.wp_ite, h, if_neg (by simp)]
  exact ⟨_, irreducible_ret (by unfold Lb; omega) (by have := minimalM_length l; omega) hw, rfl⟩
theorem Wf_of {m : M} (h : ∀ j, 0 ≤ m j ∧ m j ≤ 65535) : Wf m := fun i => by
  have := h i
  simp only [Lit.wf, Bool.and_eq_true, decide_eq_true_eq]
  have h1 : IntKind.i64.min = -9223372036854775808 := by decide
  have h2 : IntKind.i64.max = 9223372036854775807 := by decide
  omega
/-- What is known of the lists that are made. -/
structure Inp (l : List M) (n : Nat) : Prop where
  sm : ∀ m ∈ l, Sm m
  len : l.length ≤ 8
  few : n ≤ 4
  vars : ∀ m ∈ l, ∀ j : Fin 8, n ≤ j.val → m j = 0
namespace Inp
variable {l : List M} {n : Nat} (h : Inp l n)
include h
theorem nn : ∀ m ∈ l, Nn m := fun m hm i => (h.sm m hm i).1
theorem lb : Lb l := by have := h.len; unfold Lb; omega
theorem wf : ∀ m ∈ l, Wf m := fun m hm => Wf_of fun j => by have := h.sm m hm j; unfold Qs at this; omega
theorem check : checkF l (n : Int) = 0 := check_made (by have := h.few; omega) h.len fun m hm j => by
  have h1 := h.sm m hm j
  unfold Qs at h1
  exact ⟨h1.1, by omega, h.vars m hm j⟩
theorem irr : (components_Irreducible l (n : Int)).Ret (irrF l, 0) := Irr_ret2 h.len h.wf h.check
theorem ok : IrrOk l (irrF l) := irrF_ok h.nn
theorem irrSm : ∀ m ∈ irrF l, Sm m := fun m hm i => irrF_ind (fun i => ⟨by omega, by omega, fun _ => rfl⟩) h.sm m hm i
theorem irrLen : (irrF l).length ≤ 64 := irr_few h.ok h.irrSm
theorem meet_all : meetAll (irrF l) = minimalM l := by
  refine minimal_eq (meetAll_min _) (minimal_idem l) (fun x hx i => (meetAll_ind (fun i => ⟨by omega, by omega, fun _ => rfl⟩) _ h.irrSm x hx i).1) (fun y hy => h.nn y (minimalM_mem.1 hy).1) fun t ht => ?_
  rw [Bool.eq_iff_iff, meetAll_in ht, h.ok.mem t ht, ← inM_iff, inM_minimal]
theorem meet_but {k : Nat} (hk : k < (irrF l).length) : meetAll (butL (irrF l) (k : Int) (irrF l).length) ≠ minimalM l := fun e => by
  have ha := List.getElem_mem hk
  obtain ⟨h1, h2, h3⟩ := outside_spec (B := 3) (h.ok.nn _ ha) (by omega)
  have h4 : inM (outside (irrF l)[k] 3) (meetAll (butL (irrF l) (k : Int) (irrF l).length)) = true := by
    rw [meetAll_in h1]
    intro b hb
    obtain ⟨j, hj, hne, hjb⟩ := butL_mem.1 hb
    have hbm := List.mem_of_getElem? hjb
    refine h3 b (fun i => (h.irrSm b hbm i).2.1) fun hc => ?_
    have e := h.ok.anti _ ha b hbm hc
    rw [← e] at hjb
    have := (List.getElem?_inj hk h.ok.nodup (j := j)).1 (by rw [hjb, List.getElem?_eq_getElem hk])
    omega
  rw [e, ← inM_minimal, inM_iff, ← h.ok.mem _ h1] at h4
  exact h2 (h4 _ ha)
end Inp
theorem inp_made {x : List (Fin 4 → Int)} {n most : Nat} (hx : U8s x) (hn : n ≤ 4) (hm : most ≤ 8) : Inp (madeF x n most 3) n := by
  refine ⟨fun m h i => ?_, by have := made_len x n most 3; omega, hn, fun m h j hj => (made_bd hx h j).2.2 hj⟩
  have := made_bd hx h i
  exact ⟨this.1, by omega, fun h4 => this.2.2 (by omega)⟩
theorem butL_all (l : List M) : butL l (-1) l.length = l := by
  have : ∀ k, k ≤ l.length → butL l (-1) k = l.take k := by
    intro k
    induction k with
    | zero => intro _; rfl
    | succ k ih =>
      intro hk
      rw [butL, ih (by omega), if_neg (by omega), List.getElem?_eq_getElem (by omega), Option.toList]
      exact List.take_append_getElem (by omega)
  rw [this _ (Nat.le_refl _), List.take_length]
theorem Same_not {a b : List M} (ha : Lb a) (h : a ≠ b) : (R04_Same a b).Ret false := by
  have := Same_ret (b := b) ha
  rwa [decide_eq_false h] at this
theorem irr_law_ret {x : T_law21_Input} (hn : 0 ≤ x.n ∧ x.n ≤ 255) (hx : U8s x.l) : (law21_ComponentsIrreducible x).Ret true := by
  have hv := (vars_eq hn).2
  have hi : Inp (madeF x.l (varsF x) 4 3) (varsF x) := inp_made hx hv (by omega)
  have made := made_ret hn hx
  revert hi made
  generalize madeF x.l (varsF x) 4 3 = l
  intro hi made
  have h64 := hi.irrLen
  have lbm : ∀ A : List M, (∀ a ∈ A, Sm a) → Lb (meetAll A) := fun A h => by have := meetAll_few h; unfold Lb; omega
  refine ⟨true, sanity_ret, ?_⟩
  rw [Comp.wp_ite, if_neg (by simp)]
  refine ⟨_, made, _, vars_ret hn, _, hi.irr, ?_⟩
  rw [Comp.wp_ite, if_neg (by simp), Comp.wp_ite, if_neg (by simp; omega)]
  have hm := law_meet_ret (but := -1) hi.irrSm (by omega)
  rw [butL_all, hi.meet_all] at hm
  have lbl : Lb (minimalM l) := by have := minimalM_length l; have := hi.len; unfold Lb; omega
  refine ⟨_, hm, _, R04_Minimal_ret hi.lb, true, Same_self lbl rfl, ?_⟩
  rw [Comp.wp_ite, if_neg (by simp)]
  refine Comp.wp_next.2 (Comp.loop_idx (irrF l).length (fun k s => s = (k : Int)) (fun k s hk hs => ?_) (fun s hs => ?_) rfl)
  · subst hs
    rw [Comp.wp_ite, if_pos (by simpa using hk)]
    have hok : Ok (irrF l)[k] := fun i => by have := hi.irrSm _ (List.getElem_mem hk) i; unfold Qs at this; omega
    have hval := R04_Valid_ret (irrF l)[k]
    rw [decide_eq_true hok] at hval
    refine ⟨(irrF l)[k], idxN hk, true, hval, ?_⟩
    have hsub : ∀ a ∈ butL (irrF l) (k : Int) (irrF l).length, Sm a := fun a ha => by
      obtain ⟨j, _, _, hj⟩ := butL_mem.1 ha
      exact hi.irrSm a (List.mem_of_getElem? hj)
    have hmk := law_meet_ret (l := irrF l) (but := (k : Int)) hi.irrSm (by omega)
    show (if 0 < (k : Int) then _ else _ : Comp _).wp _
    rw [Comp.wp_ite]
    split
    · rename_i h0
      have e1 : IntKind.i64.wrap ((k : Int) - 1) = ((k - 1 : Nat) : Int) := by rw [wrap64 (by omega)]; omega
      refine ⟨(irrF l)[k - 1], by rw [e1]; exact idxN (l := irrF l) (k := k - 1) (by omega), (irrF l)[k], idxN hk, _, R04_Cmp_ret _ _, ?_⟩
      have hd := List.pairwise_iff_getElem.1 (irrF_dec hi.nn) (k - 1) k (by omega) hk (by omega)
      have hneg := cmpM_neg (irrF l)[k] (irrF l)[k - 1]
      rw [Comp.wp_ite, if_neg (by omega)]
      refine ⟨_, hmk, _, R04_Minimal_ret hi.lb, false, Same_not (lbm _ hsub) (hi.meet_but hk), ?_⟩
      rw [Comp.wp_ite, if_neg (by simp)]
      exact wrapN (by omega)
    · refine ⟨_, hmk, _, R04_Minimal_ret hi.lb, false, Same_not (lbm _ hsub) (hi.meet_but hk), ?_⟩
      rw [Comp.wp_ite, if_neg (by simp)]
      exact wrapN (by omega)
  · subst hs
    rw [Comp.wp_ite, if_neg (by simp)]
    rfl
end Go.EL
