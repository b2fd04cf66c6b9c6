/- The inputs of the laws of components: made lists, all small monomials; the law ComponentsMeet on the models. The conditions stand in each statement. -/
import Derived.Test.YtbdknlblnfnkkaaPj
import Derived.Test.YtbdknlblnfnkkaaPh
namespace Go.EL
open Go
/-- Numbers of a byte. -/
def U8s (l : List (Fin 4 → Int)) : Prop := ∀ v ∈ l, ∀ j, 0 ≤ v j ∧ v j ≤ 255
/-- One monomial of a description. -/
def mk1 (n top : Nat) (v : Fin 4 → Int) : M := fun j => if h : j.val < 4 then (if j.val < n then Int.tmod (v ⟨j.val, h⟩) ((top : Int) + 1) else 0) else 0
def madeF (x : List (Fin 4 → Int)) (n most top : Nat) : List M := (x.take most).map (mk1 n top)
theorem mk1_bd {n top : Nat} {v : Fin 4 → Int} (h : ∀ j, 0 ≤ v j) (j : Fin 8) : 0 ≤ mk1 n top v j ∧ mk1 n top v j ≤ top ∧ (n ≤ j.val → mk1 n top v j = 0) := by
  unfold mk1
  by_cases h4 : j.val < 4
  · rw [dif_pos h4]
    by_cases hn : j.val < n
    · rw [if_pos hn]
      have h0 := h ⟨j.val, h4⟩
      rw [Int.tmod_eq_emod_of_nonneg h0]
      have h1 := Int.emod_nonneg (v ⟨j.val, h4⟩) (b := (top : Int) + 1) (by omega)
      have h2 := Int.emod_lt_of_pos (v ⟨j.val, h4⟩) (b := (top : Int) + 1) (by omega)
      exact ⟨h1, by omega, fun h => by omega⟩
    · rw [if_neg hn]; exact ⟨by omega, by omega, fun _ => rfl⟩
  · rw [dif_neg h4]; exact ⟨by omega, by omega, fun _ => rfl⟩
theorem made_bd {x : List (Fin 4 → Int)} {n most top : Nat} (hx : U8s x) {m : M} (h : m ∈ madeF x n most top) (j : Fin 8) : 0 ≤ m j ∧ m j ≤ top ∧ (n ≤ j.val → m j = 0) := by
  unfold madeF at h
  obtain ⟨v, hv, rfl⟩ := List.mem_map.1 h
  exact mk1_bd (fun j => (hx v (List.mem_of_mem_take hv) j).1) j
theorem made_len (x : List (Fin 4 → Int)) (n most top : Nat) : (madeF x n most top).length ≤ most := by
  unfold madeF; simp; omega
theorem getF4 {a : Fin 4 → Int} {k : Nat} (h : k < 4) : getF a (k : Int) = a ⟨k, h⟩ := by rw [getF_eq a (by simpa using h)]; rfl
theorem Made_L4 {x : List (Fin 4 → Int)} {n top k : Nat} (hx : U8s x) (hn : n ≤ 8) (ht : top ≤ 1000) (hk : k < x.length) : (R18_Made_L4 x n top k (0, fun _ => 0)).Ret (mk1 n top x[k]) := by
  have h4 : min n 4 ≤ 4 := by omega
  refine Comp.loop_idx (min n 4) (fun i s => s = ((i : Int), mixM i (mk1 n top x[k]) zeroM)) (fun i s hi hs => ?_) (fun s hs => ?_) (by rw [mix_zero]; rfl)
  · subst hs
    show (if (i : Int) < (n : Int) then _ else _ : Comp _).wp _
    rw [Comp.wp_ite, if_pos (by omega), Comp.wp_ite, if_pos (by omega)]
    have hv := hx x[k] (List.getElem_mem hk) ⟨i, by omega⟩
    refine ⟨x[k], idxN hk, by omega, ?_, by omega, ?_⟩
    · rw [wrap64 (by omega)]; omega
    · show _ = _
      rw [wrapN (by omega), ← mix_step (mk1 n top x[k]) zeroM (show i < 8 by omega), wrap64 (show _ ≤ (top : Int) + 1 ∧ _ by omega), getF4 (show i < 4 by omega), wrap64 (by omega)]
      congr 2
      unfold mk1
      rw [dif_pos (show i < 4 by omega), if_pos (show i < n by omega)]
  · subst hs
    have hfin : mixM (min n 4) (mk1 n top x[k]) zeroM = mk1 n top x[k] := by
      funext j
      unfold mixM
      split
      · rfl
      · rename_i h
        unfold mk1
        by_cases h4 : j.val < 4
        · rw [dif_pos h4, if_neg (by omega)]; rfl
        · rw [dif_neg h4]; rfl
    show (if ((min n 4 : Nat) : Int) < (n : Int) then _ else _ : Comp _).wp _
    rw [Comp.wp_ite]
    split
    · rw [Comp.wp_ite, if_neg (by omega)]
      exact hfin
    · exact hfin
theorem Made_ret {x : List (Fin 4 → Int)} {n most top : Nat} (hx : U8s x) (hn : n ≤ 8) (ht : top ≤ 1000) (hm : most ≤ 1000) : (R18_Made x n most top).Ret (madeF x n most top) := by
  refine Comp.loop_idx (min x.length most) (fun k s => s = ((x.take k).map (mk1 n top), (k : Int))) (fun k s hk hs => ?_) (fun s hs => ?_) rfl
  · subst hs
    show (if (k : Int) < (x.length : Int) then _ else _ : Comp _).wp _
    have hk' : k < x.length := by omega
    rw [Comp.wp_ite, if_pos (by omega), Comp.wp_ite, if_pos (by omega)]
    refine Comp.wp_next.2 ((Made_L4 hx hn ht hk').then ⟨by simp [small]; omega, ?_⟩)
    show _ = _
    rw [wrapN (by omega), (List.take_append_getElem hk').symm, List.map_append]
    rfl
  · subst hs
    have hfin : (x.take (min x.length most)).map (mk1 n top) = madeF x n most top := by
      unfold madeF; congr 1; rw [← List.take_take]; exact List.take_of_length_le (by simp; omega)
    show (if ((min x.length most : Nat) : Int) < (x.length : Int) then _ else _ : Comp _).wp _
    rw [Comp.wp_ite]
    split
    · rw [Comp.wp_ite, if_neg (by omega)]; exact hfin
    · exact hfin
/-- The number of variables of an input. -/
def varsF (x : T_law21_Input) : Nat := (x.n % 5).toNat
theorem vars_eq {x : T_law21_Input} (h : 0 ≤ x.n ∧ x.n ≤ 255) : IntKind.i64.wrap (Int.tmod x.n 5) = (varsF x : Int) ∧ varsF x ≤ 4 := by
  unfold varsF
  rw [Int.tmod_eq_emod_of_nonneg h.1, wrap64 (by omega)]
  omega
theorem vars_ret {x : T_law21_Input} (h : 0 ≤ x.n ∧ x.n ≤ 255) : (law21_vars x).Ret (varsF x : Int) := (vars_eq h).1
theorem made_ret {x : T_law21_Input} (h : 0 ≤ x.n ∧ x.n ≤ 255) (hx : U8s x.l) : (law21_made x).Ret (madeF x.l (varsF x) 4 3) := by
  refine ⟨_, ?_, rfl⟩
  rw [(vars_eq h).1]
  exact Made_ret (most := 4) (top := 3) hx (by have := (vars_eq h).2; omega) (by omega) (by omega)
def stepF (n : Nat) (m : M) : List M := (List.range 5).map fun e : Nat => setF m n (e : Int)
def allF : Nat → List M
  | 0 => [zeroM]
  | k + 1 => (allF k).flatMap (stepF k)
theorem all_len : ∀ n, (allF n).length = 5 ^ n
  | 0 => rfl
  | n + 1 => by
    have key : ∀ l : List M, (l.flatMap (stepF n)).length = l.length * 5 := by
      intro l
      induction l with
      | nil => rfl
      | cons a l ih => rw [List.flatMap_cons, List.length_append, ih]; simp [stepF]; omega
    rw [allF, key, all_len n, Nat.pow_succ]
theorem all_bd : ∀ {n : Nat} {m : M}, m ∈ allF n → ∀ j, 0 ≤ m j ∧ m j ≤ 4
  | 0, m, h, j => by simp [allF] at h; subst h; simp [zeroM]
  | n + 1, m, h, j => by
    simp only [allF, stepF, List.mem_flatMap, List.mem_map, List.mem_range] at h
    obtain ⟨a, ha, e, he, rfl⟩ := h
    unfold setF
    split
    · omega
    · exact all_bd ha j
theorem all_L6 {out A : List M} {n k : Nat} (hn : n < 8) (hk : k < out.length) (hb : A.length + 5 ≤ 1000000) : (law21_all_L6 out n k (A, 0)).Ret (A ++ stepF n out[k]) := by
  refine Comp.loop_idx 5 (fun i s => s = (A ++ (List.range i).map (fun e => setF out[k] n ((e : Nat) : Int)), (i : Int))) (fun i s hi hs => ?_) (fun s hs => ?_) (by simp)
  · subst hs
    show (if (i : Int) ≤ 4 then _ else _ : Comp _).wp _
    rw [Comp.wp_ite, if_pos (by omega)]
    refine ⟨out[k], idxN hk, by omega, by simp [small]; omega, ?_⟩
    show _ = _
    rw [wrapN (by omega), List.range_succ, List.map_append]
    simp
  · subst hs
    show (if ((5 : Nat) : Int) ≤ 4 then _ else _ : Comp _).wp _
    rw [Comp.wp_ite, if_neg (by omega)]
    rfl
theorem all_L4 {out : List M} {n : Nat} (hn : n < 8) (hb : out.length * 5 ≤ 100000) : (law21_all_L4 out n ([], 0)).Ret (out.flatMap (stepF n)) := by
  refine Comp.loop_idx out.length (fun k s => s = ((out.take k).flatMap (stepF n), (k : Int))) (fun k s hk hs => ?_) (fun s hs => ?_) rfl
  · subst hs
    show (if (k : Int) < (out.length : Int) then _ else _ : Comp _).wp _
    rw [Comp.wp_ite, if_pos (by omega)]
    have h1 := flatMap_len (stepF n) 5 (out.take k) (fun e _ => by simp [stepF])
    rw [List.length_take, Nat.min_eq_left (by omega)] at h1
    refine Comp.wp_next.2 ((all_L6 hn hk (by omega)).then ?_)
    show _ = _
    rw [wrapN (by omega), (List.take_append_getElem hk).symm, List.flatMap_append]
    simp
  · subst hs
    show (if ((out.length : Nat) : Int) < (out.length : Int) then _ else _ : Comp _).wp _
    rw [Comp.wp_ite, if_neg (by omega), List.take_length]
    rfl
theorem all_ret {n : Nat} (hn : n ≤ 4) : (law21_all (n : Int)).Ret (allF n) := by
  refine Comp.loop_idx n (fun k s => s = (allF k, (k : Int))) (fun k s hk hs => ?_) (fun s hs => ?_) rfl
  · subst hs
    show (if (k : Int) < (n : Int) then _ else _ : Comp _).wp _
    rw [Comp.wp_ite, if_pos (by omega)]
    have h1 := all_len k
    have h2 : 5 ^ k ≤ 5 ^ 4 := Nat.pow_le_pow_right (by decide) (by omega)
    refine Comp.wp_next.2 ((all_L4 (by omega) (by omega)).then ?_)
    show _ = _
    rw [wrapN (by omega)]; rfl
  · subst hs
    show (if (n : Int) < (n : Int) then _ else _ : Comp _).wp _
    rw [Comp.wp_ite, if_neg (by omega)]
    rfl
theorem all_few {n : Nat} (hn : n ≤ 4) : (allF n).length ≤ 625 := by
  rw [all_len]; exact Nat.le_trans (Nat.pow_le_pow_right (by decide) hn) (by decide)
/-- What is in an intersection. -/
theorem inM_meet (t : M) (l m : List M) : inM t (meet2 l m) = (inM t l && inM t m) := by
  have h1 : inM t (meet2 l m) = inM t ((minimalM l).flatMap fun a => m.map (maxM a)) := (inM_minimal _ _).symm
  rw [h1, inM_minimal t l, Bool.eq_iff_iff, Bool.and_eq_true, inM_iff, inM_iff, inM_iff]
  constructor
  · rintro ⟨d, hd, hdt⟩
    obtain ⟨a, ha, hd⟩ := List.mem_flatMap.1 hd
    obtain ⟨b, hb, rfl⟩ := List.mem_map.1 hd
    exact ⟨⟨a, ha, (max_dvd_iff.1 hdt).1⟩, ⟨b, hb, (max_dvd_iff.1 hdt).2⟩⟩
  · rintro ⟨⟨a, ha, h1⟩, ⟨b, hb, h2⟩⟩
    exact ⟨maxM a b, List.mem_flatMap.2 ⟨a, ha, List.mem_map.2 ⟨b, hb, rfl⟩⟩, max_dvd_iff.2 ⟨h1, h2⟩⟩
def cubeM (t : M) : M := fun i => 3 * t i
theorem inM_rad {t : M} {l : List M} (ht : ∀ i, 0 ≤ t i) (hl : ∀ m ∈ l, ∀ i, 0 ≤ m i ∧ m i ≤ 3) : inM t (radF l) = inM (cubeM t) l := by
  have h1 : inM t (radF l) = inM t (l.map radM) := (inM_minimal _ _).symm
  rw [h1, Bool.eq_iff_iff, inM_iff, inM_iff]
  have key : ∀ a ∈ l, dvdM (radM a) t ↔ dvdM a (cubeM t) := fun a ha => forall_congr' fun i => by
    have h2 := hl a ha i
    have h3 := ht i
    simp only [radM, cubeM]
    split <;> omega
  constructor
  · rintro ⟨d, hd, hdt⟩
    obtain ⟨a, ha, rfl⟩ := List.mem_map.1 hd
    exact ⟨a, ha, (key a ha).1 hdt⟩
  · rintro ⟨a, ha, h⟩
    exact ⟨_, List.mem_map.2 ⟨a, ha, rfl⟩, (key a ha).2 h⟩
theorem cube_L4 {t : M} (ht : ∀ j, 0 ≤ t j ∧ t j ≤ 4) : (law21_ComponentsMeet_L4 t (0, fun _ => 0)).Ret (cubeM t) := by
  refine Comp.loop_idx 8 (fun k s => s = ((k : Int), mixM k (cubeM t) zeroM)) (fun k s hk hs => ?_) (fun s hs => ?_) (by rw [mix_zero]; rfl)
  · subst hs
    show (if (k : Int) < 8 then _ else _ : Comp _).wp _
    rw [Comp.wp_ite, if_pos (by omega)]
    refine ⟨by omega, by omega, ?_⟩
    have := ht ⟨k, hk⟩
    show _ = _
    rw [wrapN (by omega), getFN hk, wrap64 (by omega), ← mix_step _ _ hk]
    rfl
  · subst hs
    show (if ((8 : Nat) : Int) < 8 then _ else _ : Comp _).wp _
    rw [Comp.wp_ite, if_neg (by omega), mix_all _ _ (by omega)]
    rfl
theorem cube_L6 {t : M} (ht : ∀ j, 0 ≤ t j ∧ t j ≤ 4) : (law21_ComponentsMeet_L6 t (0, fun _ => 0)).Ret (cubeM t) := cube_L4 ht
theorem Same_self {a b : List M} (ha : Lb a) (h : a = b) : (R04_Same a b).Ret true := by
  have := Same_ret (b := b) ha
  rwa [decide_eq_true h] at this
theorem meet2_lb {l m : List M} (h : l.length * m.length ≤ 1000000000) : Lb (meet2 l m) := by
  have h1 := flatMap_len (fun a => m.map (maxM a)) m.length (minimalM l) (fun e _ => by simp)
  have h2 := minimalM_length ((minimalM l).flatMap fun a => m.map (maxM a))
  have h3 := Nat.mul_le_mul_right m.length (minimalM_length l)
  have : meet2 l m = minimalM ((minimalM l).flatMap fun a => m.map (maxM a)) := rfl
  unfold Lb
  rw [this]
  omega
theorem meet_law_ret {x : T_law21_Input} {y : List (Fin 4 → Int)} (hn : 0 ≤ x.n ∧ x.n ≤ 255) (hx : U8s x.l) (hy : U8s y) : (law21_ComponentsMeet x y).Ret true := by
  have hv := (vars_eq hn).2
  have h4 := made_len x.l (varsF x) 4 3
  have h5 := made_len y (varsF x) 4 3
  have lbl : Lb (madeF x.l (varsF x) 4 3) := by unfold Lb; omega
  have lbm : Lb (madeF y (varsF x) 4 3) := by unfold Lb; omega
  have hmul : (madeF x.l (varsF x) 4 3).length * (madeF y (varsF x) 4 3).length ≤ 1000000000 := Nat.le_trans (Nat.mul_le_mul h4 h5) (by decide)
  have lbb := meet2_lb hmul
  have lbr : Lb (radF (madeF x.l (varsF x) 4 3)) := by have := minimalM_length ((madeF x.l (varsF x) 4 3).map radM); unfold Lb radF; simp at this; omega
  refine ⟨true, sanity_ret, ?_⟩
  rw [Comp.wp_ite, if_neg (by simp)]
  refine ⟨_, made_ret hn hx, _, vars_ret hn, _, Made_ret (most := 4) (top := 3) hy (by omega) (by omega) (by omega), _, Meet_ret lbl lbm hmul, _, Radical_ret lbl, _, R04_Minimal_ret lbb, true, Same_self lbb (minimal_idem _).symm, ?_⟩
  refine ⟨_, R04_Minimal_ret lbr, true, Same_self lbr (minimal_idem _).symm, ?_⟩
  rw [Comp.wp_ite, if_neg (by simp)]
  refine ⟨_, vars_ret hn, _, all_ret hv, ?_⟩
  have hfew := all_few hv
  refine Comp.wp_next.2 (Comp.loop_idx (allF (varsF x)).length (fun k s => s = (k : Int)) (fun k s hk hs => ?_) (fun s hs => ?_) rfl)
  · subst hs
    rw [Comp.wp_ite, if_pos (by omega)]
    have ht := all_bd (List.getElem_mem hk)
    have hm := inM_meet (allF (varsF x))[k] (madeF x.l (varsF x) 4 3) (madeF y (varsF x) 4 3)
    have hr := inM_rad (t := (allF (varsF x))[k]) (l := madeF x.l (varsF x) 4 3) (fun i => (ht i).1) (fun m hm i => ⟨(made_bd hx hm i).1, (made_bd hx hm i).2.1⟩)
    refine ⟨_, idxN hk, _, R04_In_ret lbb, _, R04_In_ret lbl, ?_⟩
    rw [hm]
    cases e : inM (allF (varsF x))[k] (madeF x.l (varsF x) 4 3) with
    | false =>
      show (if ¬ (false && _) = false then _ else _ : Comp _).wp _
      rw [Comp.wp_ite, if_neg (by simp)]
      refine Comp.wp_next.2 ((cube_L4 ht).then ?_)
      refine ⟨_, R04_In_ret lbr, _, R04_In_ret lbl, ?_⟩
      rw [hr, Comp.wp_ite, if_neg (by simp)]
      exact wrapN (by omega)
    | true =>
      refine ⟨_, R04_In_ret lbm, ?_⟩
      rw [Comp.wp_ite, if_neg (by simp)]
      refine Comp.wp_next.2 ((cube_L6 ht).then ?_)
      refine ⟨_, R04_In_ret lbr, _, R04_In_ret lbl, ?_⟩
      rw [hr, Comp.wp_ite, if_neg (by simp)]
      exact wrapN (by omega)
  · subst hs
    rw [Comp.wp_ite, if_neg (by omega)]
    rfl
end Go.EL
