/- The law ComponentsIrreducible on the models. The conditions stand in each statement. -/
import Derived.Test.YtbdknlblnfnkkaaPm
namespace Go.EL
open Go
theorem R04_Valid_ret (m : M) : (R04_Valid m).Ret (decide (Ok m)) := by
  refine Comp.loop_idx 8 (fun k s => s = (k : Int) ∧ ∀ i : Fin 8, i.val < k → 0 ≤ m i ∧ m i ≤ 65535) (fun k s hk hs => ?_) (fun s hs => ?_) ⟨rfl, fun i hi => by omega⟩
  · obtain ⟨rfl, hi⟩ := hs
    rw [Comp.wp_ite, if_pos (by omega)]
    refine ⟨by omega, ?_⟩
    rw [Comp.wp_ite, getFN hk]
    split
    · rename_i h
      show _ = _
      exact (decide_eq_false (fun hd => by have := hd ⟨k, hk⟩; omega)).symm
    · rename_i h
      refine ⟨by omega, ?_⟩
      rw [Comp.wp_ite]
      split
      · rename_i h2
        show _ = _
        exact (decide_eq_false (fun hd => by have := hd ⟨k, hk⟩; omega)).symm
      · rename_i h2
        exact ⟨wrapN (by omega), all_step hi hk ⟨by omega, by omega⟩⟩
  · obtain ⟨rfl, hi⟩ := hs
    rw [Comp.wp_ite, if_neg (by omega)]
    show _ = _
    exact (decide_eq_true (fun i => hi i i.isLt)).symm
theorem R21_Gens_ret (x : M) : (R21_Gens x).Ret (gensM x) := by
  refine Comp.loop_idx 8 (fun k s => s = (splitTo zeroM x k, (k : Int))) (fun k s hk hs => ?_) (fun s hs => ?_) rfl
  · subst hs
    have hlen := splitTo_length zeroM x k
    show (if (k : Int) < 8 then _ else _ : Comp _).wp _
    rw [Comp.wp_ite, if_pos (by omega)]
    refine ⟨by omega, ?_⟩
    rw [Comp.wp_ite, getFN hk, wrapN (by omega)]
    split
    · rename_i hp
      refine ⟨by omega, by omega, by simp [small]; omega, ?_⟩
      show _ = _
      simp [splitTo, hk, hp]; rfl
    · rename_i hp
      show _ = _
      simp [splitTo, hk, hp]
  · subst hs
    show (if ((8 : Nat) : Int) < 8 then _ else _ : Comp _).wp _
    rw [Comp.wp_ite, if_neg (by omega)]
    rfl
theorem R04_Lcm_ret (a b : M) : (R04_Lcm a b).Ret (maxM a b) := by
  refine Comp.loop_idx 8 (fun k s => s = ((k : Int), mixM k (maxM a b) a)) (fun k s hk hs => ?_) (fun s hs => ?_) (by rw [mix_zero]; rfl)
  · subst hs
    show (if (k : Int) < 8 then _ else _ : Comp _).wp _
    rw [Comp.wp_ite, if_pos (by omega)]
    refine ⟨by omega, by omega, by omega, ?_⟩
    show _ = _
    rw [wrapN (by omega), getFN hk, getFN hk, mix_at _ _ hk, ← mix_step _ _ hk]
    rfl
  · subst hs
    show (if ((8 : Nat) : Int) < 8 then _ else _ : Comp _).wp _
    rw [Comp.wp_ite, if_neg (by omega), mix_all _ _ (by omega)]
    rfl
theorem R21_Meet_L4_ret {l m : List M} {i : Nat} (hi : i < l.length) {A : List M} (hb : A.length + m.length ≤ 1000000000) : (R21_Meet_L4 l m i (A, 0)).Ret (A ++ m.map (maxM l[i])) := by
  refine Comp.loop_idx m.length (fun k s => s = (A ++ (m.take k).map (maxM l[i]), (k : Int))) (fun k s hk hs => ?_) (fun s hs => ?_) (by simp)
  · subst hs
    show (if (k : Int) < (m.length : Int) then _ else _ : Comp _).wp _
    rw [Comp.wp_ite, if_pos (by omega)]
    refine ⟨l[i], idxN hi, m[k], idxN hk, _, R04_Lcm_ret _ _, by simp [small]; omega, ?_⟩
    show _ = _
    rw [wrapN (by omega), (List.take_append_getElem hk).symm, List.map_append]
    simp
  · subst hs
    show (if ((m.length : Nat) : Int) < (m.length : Int) then _ else _ : Comp _).wp _
    rw [Comp.wp_ite, if_neg (by omega), List.take_length]
    rfl
theorem R21_Meet_ret {l m : List M} (hb : l.length * m.length ≤ 1000000) (hl : l.length ≤ 1000000) (hm : m.length ≤ 1000000) : (R21_Meet l m).Ret (meetStep l m) := by
  refine Comp.loop_idx l.length (fun k s => s = ((l.take k).flatMap (fun a => m.map (maxM a)), (k : Int))) (fun k s hk hs => ?_) (fun s hs => ?_) rfl
  · subst hs
    show (if (k : Int) < (l.length : Int) then _ else _ : Comp _).wp _
    rw [Comp.wp_ite, if_pos (by omega)]
    have h1 := flatMap_len (fun a => m.map (maxM a)) m.length (l.take k) (fun e _ => by simp)
    have h2 : (k + 1) * m.length ≤ l.length * m.length := Nat.mul_le_mul_right _ hk
    rw [List.length_take, Nat.min_eq_left (by omega)] at h1
    rw [Nat.add_mul] at h2
    refine Comp.wp_next.2 ((R21_Meet_L4_ret hk (by omega)).then ?_)
    show _ = _
    rw [wrapN (by omega), (List.take_append_getElem hk).symm, List.flatMap_append]
    simp
  · subst hs
    show (if ((l.length : Nat) : Int) < (l.length : Int) then _ else _ : Comp _).wp _
    rw [Comp.wp_ite, if_neg (by omega), List.take_length]
    have h1 := flatMap_len (fun a => m.map (maxM a)) m.length l (fun e _ => by simp)
    exact ⟨_, R04_Minimal_ret (by unfold Lb; omega), rfl⟩
/-- The list without the element of an index. -/
def butL (l : List M) (but : Int) : Nat → List M
  | 0 => []
  | k + 1 => butL l but k ++ (if (k : Int) = but then [] else (l[k]?).toList)
theorem butL_mem {l : List M} {but : Int} {x : M} : ∀ {k : Nat}, x ∈ butL l but k ↔ ∃ j, j < k ∧ (j : Int) ≠ but ∧ l[j]? = some x
  | 0 => by simp [butL]
  | k + 1 => by
    simp only [butL, List.mem_append, butL_mem (k := k)]
    constructor
    · rintro (⟨j, h1, h2⟩ | h)
      · exact ⟨j, by omega, h2⟩
      · split at h
        · simp at h
        · rename_i hk
          exact ⟨k, by omega, hk, by simpa using h⟩
    · rintro ⟨j, h1, h2, h3⟩
      by_cases e : j = k
      · subst e; right; rw [if_neg h2]; simp [h3]
      · exact .inl ⟨j, by omega, h2, h3⟩
theorem minimal_nodup (l : List M) : (minimalM l).Nodup := (minimalM_strict l).imp fun {a b} hab e => by rw [e, cmpM_self] at hab; omega
theorem meetAll_few {A : List M} (h : ∀ a ∈ A, Sm a) : (meetAll A).length ≤ 256 := by
  refine sm_few (fun m hm i => meetAll_ind (fun i => ⟨by omega, by omega, fun _ => rfl⟩) A h m hm i) ?_
  rw [← meetAll_min]; exact minimal_nodup _
theorem law_meet_ret {l : List M} {but : Int} (h : ∀ a ∈ l, Sm a) (hl : l.length ≤ 1000) : (law21_meet l but).Ret (meetAll (butL l but l.length)) := by
  refine Comp.loop_idx l.length (fun k s => s = (meetAll (butL l but k), (k : Int))) (fun k s hk hs => ?_) (fun s hs => ?_) rfl
  · subst hs
    show (if (k : Int) < (l.length : Int) then _ else _ : Comp _).wp _
    rw [Comp.wp_ite, if_pos (by omega), Comp.wp_ite]
    split
    · rename_i hne
      have h1 := meetAll_few (A := butL l but k) (fun a ha => by
        obtain ⟨j, _, _, hj⟩ := butL_mem.1 ha
        exact h a (List.mem_of_getElem? hj))
      have h2 := splitTo_length zeroM l[k] 8
      have h3 : (meetAll (butL l but k)).length * (gensM l[k]).length ≤ 256 * 8 := Nat.mul_le_mul h1 h2
      refine ⟨l[k], idxN hk, _, R21_Gens_ret _, _, R21_Meet_ret (by omega) (by omega) (by unfold gensM; omega), ?_⟩
      show _ = _
      rw [wrapN (by omega), butL, if_neg hne, List.getElem?_eq_getElem hk, Option.toList, meetAll_snoc]
    · rename_i hne
      show _ = _
      rw [wrapN (by omega), butL, if_pos (by simpa using hne), List.append_nil]
  · subst hs
    show (if ((l.length : Nat) : Int) < (l.length : Int) then _ else _ : Comp _).wp _
    rw [Comp.wp_ite, if_neg (by omega)]
    rfl
theorem supp_zero {a : M} {n : Nat} (h : ∀ j : Fin 8, n ≤ j.val → a j = 0) : ∀ k, n ≤ k → suppTo a k = suppTo a n := by
  intro k hk
  induction k with
  | zero => have : n = 0 := by omega
            subst this; rfl
  | succ k ih =>
    by_cases e : n = k + 1
    · subst e; rfl
    · rw [suppTo, ih (by omega)]
      split
      · rename_i h8
        rw [if_neg (by rw [h ⟨k, h8⟩ (by simp; omega)]; omega), Int.add_zero]
      · rw [Int.add_zero]
theorem check_made {l : List M} {n : Nat} (hn : n ≤ 8) (hl : l.length ≤ 8) (h : ∀ m ∈ l, ∀ j : Fin 8, 0 ≤ m j ∧ m j ≤ 65535 ∧ (n ≤ j.val → m j = 0)) : checkF l (n : Int) = 0 := by
  unfold checkF
  rw [if_neg (by omega), if_neg (by omega), if_pos, if_neg (by omega)]
  intro m hm
  refine ⟨fun i => ⟨(h m hm i).1, (h m hm i).2.1⟩, ?_⟩
  have h1 := suppTo_lt m n
  have h2 : suppM m = suppTo m n := supp_zero (fun j hj => (h m hm j).2.2 hj) 8 hn
  have h3 : (2 : Int) ^ (min (n : Int).toNat 64) = p2 n := by
    rw [p2_nat]
    have : min (n : Int).toNat 64 = n := by omega
    rw [this]; simp
  rw [h2, h3]
  exact Int.fdiv_eq_zero_of_lt h1.1 h1.2
theorem Irr_ret2 {l : List M} {n : Int} (hl : l.length ≤ 8) (hw : ∀ m ∈ l, Wf m) (h : checkF l n = 0) : (components_Irreducible l n).Ret (irrF l, 0) := by
  refine ⟨_, check_ret (by unfold Lb; omega) n, ?_⟩
  rw [Comp.wp_ite, h, if_neg (by simp)]
  exact ⟨_, irreducible_ret (by unfold Lb; omega) (by have := minimalM_length l; omega) hw, rfl⟩
theorem Wf_of {m : M} (h : ∀ j, 0 ≤ m j ∧ m j ≤ 65535) : Wf m := fun i => by
  have := h i
  simp only [Lit.wf, Bool.and_eq_true, decide_eq_true_eq]
  have h1 : IntKind.i64.min = -9223372036854775808 := by decide
  have h2 : IntKind.i64.max = 9223372036854775807 := by decide
  omega
/-- What is known of the lists that are made. -/
structure Inp (l : List M) (n : Nat) : Prop where
  sm : ∀ m ∈ l, Sm m
  len : l.length ≤ 8
  few : n ≤ 4
  vars : ∀ m ∈ l, ∀ j : Fin 8, n ≤ j.val → m j = 0
namespace Inp
variable {l : List M} {n : Nat} (h : Inp l n)
include h
theorem nn : ∀ m ∈ l, Nn m := fun m hm i => (h.sm m hm i).1
theorem lb : Lb l := by have := h.len; unfold Lb; omega
theorem wf : ∀ m ∈ l, Wf m := fun m hm => Wf_of fun j => by have := h.sm m hm j; unfold Qs at this; omega
theorem check : checkF l (n : Int) = 0 := check_made (by have := h.few; omega) h.len fun m hm j => by
  have h1 := h.sm m hm j
  unfold Qs at h1
  exact ⟨h1.1, by omega, h.vars m hm j⟩
theorem irr : (components_Irreducible l (n : Int)).Ret (irrF l, 0) := Irr_ret2 h.len h.wf h.check
theorem ok : IrrOk l (irrF l) := irrF_ok h.nn
theorem irrSm : ∀ m ∈ irrF l, Sm m := fun m hm i => irrF_ind (fun i => ⟨by omega, by omega, fun _ => rfl⟩) h.sm m hm i
theorem irrLen : (irrF l).length ≤ 64 := irr_few h.ok h.irrSm
theorem meet_all : meetAll (irrF l) = minimalM l := by
  refine minimal_eq (meetAll_min _) (minimal_idem l) (fun x hx i => (meetAll_ind (fun i => ⟨by omega, by omega, fun _ => rfl⟩) _ h.irrSm x hx i).1) (fun y hy => h.nn y (minimalM_mem.1 hy).1) fun t ht => ?_
  rw [Bool.eq_iff_iff, meetAll_in ht, h.ok.mem t ht, ← inM_iff, inM_minimal]
theorem meet_but {k : Nat} (hk : k < (irrF l).length) : meetAll (butL (irrF l) (k : Int) (irrF l).length) ≠ minimalM l := fun e => by
  have ha := List.getElem_mem hk
  obtain ⟨h1, h2, h3⟩ := outside_spec (B := 3) (h.ok.nn _ ha) (by omega)
  have h4 : inM (outside (irrF l)[k] 3) (meetAll (butL (irrF l) (k : Int) (irrF l).length)) = true := by
    rw [meetAll_in h1]
    intro b hb
    obtain ⟨j, hj, hne, hjb⟩ := butL_mem.1 hb
    have hbm := List.mem_of_getElem? hjb
    refine h3 b (fun i => (h.irrSm b hbm i).2.1) fun hc => ?_
    have e := h.ok.anti _ ha b hbm hc
    rw [← e] at hjb
    have := (List.getElem?_inj hk h.ok.nodup (j := j)).1 (by rw [hjb, List.getElem?_eq_getElem hk])
    omega
  rw [e, ← inM_minimal, inM_iff, ← h.ok.mem _ h1] at h4
  exact h2 (h4 _ ha)
end Inp
theorem inp_made {x : List (Fin 4 → Int)} {n most : Nat} (hx : U8s x) (hn : n ≤ 4) (hm : most ≤ 8) : Inp (madeF x n most 3) n := by
  refine ⟨fun m h i => ?_, by have := made_len x n most 3; omega, hn, fun m h j hj => (made_bd hx h j).2.2 hj⟩
  have := made_bd hx h i
  exact ⟨this.1, by omega, fun h4 => this.2.2 (by omega)⟩
theorem butL_all (l : List M) : butL l (-1) l.length = l := by
  have : ∀ k, k ≤ l.length → butL l (-1) k = l.take k := by
    intro k
    induction k with
    | zero => intro _; rfl
    | succ k ih =>
      intro hk
      rw [butL, ih (by omega), if_neg (by omega), List.getElem?_eq_getElem (by omega), Option.toList]
      exact List.take_append_getElem (by omega)
  rw [this _ (Nat.le_refl _), List.take_length]
theorem Same_not {a b : List M} (ha : Lb a) (h : a ≠ b) : (R04_Same a b).Ret false := by
  have := Same_ret (b := b) ha
  rwa [decide_eq_false h] at this
theorem irr_law_ret {x : T_law21_Input} (hn : 0 ≤ x.n ∧ x.n ≤ 255) (hx : U8s x.l) : (law21_ComponentsIrreducible x).Ret true := by
  have hv := (vars_eq hn).2
  have hi : Inp (madeF x.l (varsF x) 4 3) (varsF x) := inp_made hx hv (by omega)
  have made := made_ret hn hx
  revert hi made
  generalize madeF x.l (varsF x) 4 3 = l
  intro hi made
  have h64 := hi.irrLen
  have lbm : ∀ A : List M, (∀ a ∈ A, Sm a) → Lb (meetAll A) := fun A h => by have := meetAll_few h; unfold Lb; omega
  refine ⟨true, sanity_ret, ?_⟩
  rw [Comp.wp_ite, if_neg (by simp)]
  refine ⟨_, made, _, vars_ret hn, _, hi.irr, ?_⟩
  rw [Comp.wp_ite, if_neg (by simp), Comp.wp_ite, if_neg (by simp; omega)]
  have hm := law_meet_ret (but := -1) hi.irrSm (by omega)
  rw [butL_all, hi.meet_all] at hm
  have lbl : Lb (minimalM l) := by have := minimalM_length l; have := hi.len; unfold Lb; omega
  refine ⟨_, hm, _, R04_Minimal_ret hi.lb, true, Same_self lbl rfl, ?_⟩
  rw [Comp.wp_ite, if_neg (by simp)]
  refine Comp.wp_next.2 (Comp.loop_idx (irrF l).length (fun k s => s = (k : Int)) (fun k s hk hs => ?_) (fun s hs => ?_) rfl)
  · subst hs
    rw [Comp.wp_ite, if_pos (by simpa using hk)]
    have hok : Ok (irrF l)[k] := fun i => by have := hi.irrSm _ (List.getElem_mem hk) i; unfold Qs at this; omega
    have hval := R04_Valid_ret (irrF l)[k]
    rw [decide_eq_true hok] at hval
    refine ⟨(irrF l)[k], idxN hk, true, hval, ?_⟩
    have hsub : ∀ a ∈ butL (irrF l) (k : Int) (irrF l).length, Sm a := fun a ha => by
      obtain ⟨j, _, _, hj⟩ := butL_mem.1 ha
      exact hi.irrSm a (List.mem_of_getElem? hj)
    have hmk := law_meet_ret (l := irrF l) (but := (k : Int)) hi.irrSm (by omega)
    show (if 0 < (k : Int) then _ else _ : Comp _).wp _
    rw [Comp.wp_ite]
    split
    · rename_i h0
      have e1 : IntKind.i64.wrap ((k : Int) - 1) = ((k - 1 : Nat) : Int) := by rw [wrap64 (by omega)]; omega
      refine ⟨(irrF l)[k - 1], by rw [e1]; exact idxN (l := irrF l) (k := k - 1) (by omega), (irrF l)[k], idxN hk, _, R04_Cmp_ret _ _, ?_⟩
      have hd := List.pairwise_iff_getElem.1 (irrF_dec hi.nn) (k - 1) k (by omega) hk (by omega)
      have hneg := cmpM_neg (irrF l)[k] (irrF l)[k - 1]
      rw [Comp.wp_ite, if_neg (by omega)]
      refine ⟨_, hmk, _, R04_Minimal_ret hi.lb, false, Same_not (lbm _ hsub) (hi.meet_but hk), ?_⟩
      rw [Comp.wp_ite, if_neg (by simp)]
      exact wrapN (by omega)
    · refine ⟨_, hmk, _, R04_Minimal_ret hi.lb, false, Same_not (lbm _ hsub) (hi.meet_but hk), ?_⟩
      rw [Comp.wp_ite, if_neg (by simp)]
      exact wrapN (by omega)
  · subst hs
    rw [Comp.wp_ite, if_neg (by simp)]
    rfl
end Go.EL
