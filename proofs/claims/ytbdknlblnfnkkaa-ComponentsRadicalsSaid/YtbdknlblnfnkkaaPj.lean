/- What the reference's functions of monomials return. The conditions stand in each statement. -/
import Derived.Test.YtbdknlblnfnkkaaPf
namespace Go.EL
open Go
theorem R04_Divides_ret (a b : M) : (R04_Divides a b).Ret (decide (dvdM a b)) := by
  refine Comp.loop_idx 8 (fun k s => s = (k : Int) ∧ ∀ i : Fin 8, i.val < k → a i ≤ b i) (fun k s hk hs => ?_) (fun s hs => ?_) ⟨rfl, fun i hi => by omega⟩
  · obtain ⟨rfl, hi⟩ := hs
    rw [Comp.wp_ite, if_pos (by omega)]
    refine ⟨by omega, by omega, ?_⟩
    rw [Comp.wp_ite, getFN hk, getFN hk]
    split
    · rename_i h
      show _ = _
      exact (decide_eq_false (fun hd => by have := hd ⟨k, hk⟩; omega)).symm
    · rename_i h
      exact ⟨wrapN (by omega), all_step hi hk (by omega)⟩
  · obtain ⟨rfl, hi⟩ := hs
    rw [Comp.wp_ite, if_neg (by omega)]
    show _ = _
    exact (decide_eq_true (fun i => hi i i.isLt)).symm
theorem R04_In_ret {m : M} {l : List M} (hl : Lb l) : (R04_In m l).Ret (inM m l) := by
  unfold Lb at hl
  refine Comp.loop_idx l.length (fun k s => s = (k : Int) ∧ ∀ i (h : i < l.length), i < k → ¬ dvdM l[i] m) (fun k s hk hs => ?_) (fun s hs => ?_) ⟨rfl, fun i _ hi => by omega⟩
  · obtain ⟨rfl, hi⟩ := hs
    rw [Comp.wp_ite, if_pos (by omega)]
    refine ⟨l[k], idxN hk, _, R04_Divides_ret _ _, ?_⟩
    rw [Comp.wp_ite]
    split
    · rename_i h
      show _ = _
      exact (inM_iff.2 ⟨l[k], List.getElem_mem hk, of_decide_eq_true h⟩).symm
    · rename_i h
      refine ⟨wrapN (by omega), fun i hi1 hi2 => ?_⟩
      by_cases e : i = k
      · subst e; exact fun hd => h (decide_eq_true hd)
      · exact hi i hi1 (by omega)
  · obtain ⟨rfl, hi⟩ := hs
    rw [Comp.wp_ite, if_neg (by omega)]
    show _ = _
    refine (Bool.eq_false_iff.2 fun h => ?_).symm
    obtain ⟨d, hd, hd2⟩ := inM_iff.1 h
    obtain ⟨i, hi1, rfl⟩ := List.mem_iff_getElem.1 hd
    exact hi i hi1 hi1 hd2
theorem R04_Cmp_ret (a b : M) : (R04_Cmp a b).Ret (cmpM a b) := by
  refine Comp.loop_idx 8 (fun k s => s = (k : Int) ∧ ∀ i : Fin 8, i.val < k → a i = b i) (fun k s hk hs => ?_) (fun s hs => ?_) ⟨rfl, fun i hi => by omega⟩
  · obtain ⟨rfl, hi⟩ := hs
    rw [Comp.wp_ite, if_pos (by omega)]
    refine ⟨by omega, by omega, ?_⟩
    rw [Comp.wp_ite, getFN hk, getFN hk]
    split
    · rename_i h
      show _ = _
      exact (cmpM_lt a b hk hi h).symm
    · rename_i h
      refine ⟨by omega, by omega, ?_⟩
      rw [Comp.wp_ite]
      split
      · rename_i h2
        show _ = _
        exact (cmpM_gt a b hk hi h2).symm
      · exact ⟨wrapN (by omega), all_step hi hk (by omega)⟩
  · obtain ⟨rfl, hi⟩ := hs
    rw [Comp.wp_ite, if_neg (by omega)]
    show _ = _
    exact (cmpM_eq a b (fun i => hi i i.isLt)).symm
/-- No other element divides it. -/
def lowM (m : M) (l : List M) : Prop := ∀ d ∈ l, dvdM d m → d = m
instance (m : M) (l : List M) : Decidable (lowM m l) := by unfold lowM; infer_instance
theorem R04_lowest_ret {m : M} {l : List M} (hl : Lb l) : (R04_lowest m l).Ret (decide (lowM m l)) := by
  unfold Lb at hl
  refine Comp.loop_idx l.length (fun k s => s = (k : Int) ∧ ∀ i (h : i < l.length), i < k → dvdM l[i] m → l[i] = m) (fun k s hk hs => ?_) (fun s hs => ?_) ⟨rfl, fun i _ hi => by omega⟩
  · obtain ⟨rfl, hi⟩ := hs
    rw [Comp.wp_ite, if_pos (by omega)]
    refine ⟨l[k], idxN hk, ?_⟩
    rw [Comp.wp_ite]
    have next : (dvdM l[k] m → l[k] = m) → ∀ i (h : i < l.length), i < k + 1 → dvdM l[i] m → l[i] = m := fun hn i hi1 hi2 => by
      by_cases e : i = k
      · subst e; exact hn
      · exact hi i hi1 (by omega)
    split
    · rename_i hne
      refine ⟨l[k], idxN hk, _, R04_Divides_ret _ _, ?_⟩
      rw [Comp.wp_ite]
      split
      · rename_i h
        show _ = _
        exact (decide_eq_false fun hd => hne (hd _ (List.getElem_mem hk) (of_decide_eq_true h))).symm
      · rename_i h
        exact ⟨wrapN (by omega), next fun hd => absurd (decide_eq_true hd) h⟩
    · rename_i h
      exact ⟨wrapN (by omega), next fun _ => by simpa using h⟩
  · obtain ⟨rfl, hi⟩ := hs
    rw [Comp.wp_ite, if_neg (by omega)]
    show _ = _
    refine (decide_eq_true fun d hd hd2 => ?_).symm
    obtain ⟨i, hi1, rfl⟩ := List.mem_iff_getElem.1 hd
    exact hi i hi1 hi1 hd2
/-- Into a decreasing list. -/
def insD (m : M) : List M → List M
  | [] => [m]
  | x :: l => if 0 ≤ cmpM m x then (if x = m then x :: l else m :: x :: l) else x :: insD m l
theorem insD_length (m : M) : ∀ l, (insD m l).length ≤ l.length + 1
  | [] => by simp [insD]
  | x :: l => by
    have := insD_length m l
    unfold insD
    split
    · split <;> simp
    · simp; omega
theorem insD_skip {m : M} {B : List M} : ∀ {A : List M}, (∀ x ∈ A, cmpM m x < 0) → insD m (A ++ B) = A ++ insD m B
  | [], _ => rfl
  | x :: A, h => by
    have h1 := h x (by simp)
    rw [List.cons_append, insD, if_neg (by omega), insD_skip fun y hy => h y (by simp [hy])]; rfl
theorem insD_mem {m y : M} : ∀ {l : List M}, y ∈ insD m l ↔ y = m ∨ y ∈ l
  | [] => by simp [insD]
  | x :: l => by
    unfold insD
    split
    · split
      · rename_i e; subst e; simp
      · simp
    · simp only [List.mem_cons, insD_mem (l := l)]
      constructor
      · rintro (h | h | h) <;> simp [h]
      · rintro (h | h | h) <;> simp [h]
abbrev Dec (l : List M) : Prop := l.Pairwise fun x y => cmpM y x < 0
theorem insD_dec {m : M} : ∀ {l : List M}, Dec l → Dec (insD m l)
  | [], _ => by simp [insD]
  | x :: l, h => by
    have h' := List.pairwise_cons.1 h
    unfold insD
    split
    · rename_i h1
      split
      · exact h
      · rename_i h2
        have h3 : cmpM x m < 0 := by
          have := cmpM_neg m x
          have : cmpM m x ≠ 0 := fun e => h2 (cmpM_zero e).symm
          omega
        refine List.pairwise_cons.2 ⟨fun y hy => ?_, h⟩
        rcases List.mem_cons.1 hy with rfl | hy
        · exact h3
        · have := h'.1 y hy
          exact cmpM_lt_trans (by omega) (by omega) (Or.inl this)
    · rename_i h1
      refine List.pairwise_cons.2 ⟨fun y hy => ?_, insD_dec h'.2⟩
      rcases insD_mem.1 hy with rfl | hy
      · omega
      · exact h'.1 y hy
theorem dec_ext {l l' : List M} (h1 : Dec l) (h2 : Dec l') (hm : ∀ m, m ∈ l ↔ m ∈ l') : l = l' := by
  have nd : ∀ l : List M, Dec l → l.Nodup := fun l h => h.imp fun {a b} hab e => by rw [e, cmpM_self] at hab; omega
  refine List.Perm.eq_of_pairwise (le := fun x y => cmpM y x < 0) ?_ h1 h2 ((List.perm_ext_iff_of_nodup (nd _ h1) (nd _ h2)).2 hm)
  intro a b _ _ h1 h2
  have := cmpM_neg a b
  omega
theorem minimal_idem (l : List M) : minimalM (minimalM l) = minimalM l := by
  refine dec_ext (minimalM_strict _) (minimalM_strict _) fun m => ?_
  rw [minimalM_mem]
  exact ⟨fun h => h.1, fun h => ⟨h, fun d hd hdm => (minimalM_mem.1 h).2 d (minimalM_mem.1 hd).1 hdm⟩⟩
theorem R04_insert_ret {l : List M} {m : M} (hl : l.length < 1000000000) : (R04_insert l m).Ret (insD m l) := by
  have hlen := insD_length m l
  refine Comp.loop_idx l.length (fun k s => ∃ out done, s = (out, done, (k : Int)) ∧ (done = true → out ++ l.drop k = insD m l) ∧ (done = false → out = l.take k ∧ ∀ x ∈ l.take k, cmpM m x < 0)) (fun k s hk hs => ?_) (fun s hs => ?_) ⟨[], false, rfl, by simp, by simp⟩
  · obtain ⟨out, done, rfl, h1, h2⟩ := hs
    show (if ((k : Nat) : Int) < (l.length : Int) then _ else _ : Comp _).wp _
    rw [Comp.wp_ite, if_pos (by omega), Comp.wp_ite]
    have hd : l.drop k = l[k] :: l.drop (k + 1) := List.drop_eq_getElem_cons hk
    have ht : l.take (k + 1) = l.take k ++ [l[k]] := (List.take_append_getElem hk).symm
    cases done with
    | true =>
      rw [if_pos rfl]
      have h1 := h1 rfl
      rw [hd] at h1
      have hlen' := congrArg List.length h1
      simp at hlen'
      refine ⟨l[k], idxN hk, ?_, ⟨_, _, by rw [wrapN (by omega)], fun _ => by rw [← h1]; simp, fun h => by simp at h⟩⟩
      simp [small]; omega
    | false =>
      rw [if_neg (by simp)]
      obtain ⟨rfl, h4⟩ := h2 rfl; replace h2 := h4
      have hsk : insD m l = l.take k ++ insD m (l.drop k) := by
        rw [← insD_skip h2, List.take_append_drop]
      refine ⟨l[k], idxN hk, _, R04_Cmp_ret _ _, ?_⟩
      rw [Comp.wp_ite]
      split
      · rename_i hc
        refine ⟨l[k], idxN hk, ?_⟩
        rw [Comp.wp_ite]
        split
        · rename_i hne
          refine ⟨by simp [small]; omega, l[k], idxN hk, by simp [small]; omega, ⟨_, _, by rw [wrapN (by omega)], fun _ => ?_, fun h => by simp at h⟩⟩
          rw [hsk, hd, insD, if_pos hc, if_neg hne]; simp
        · rename_i hne
          refine ⟨l[k], idxN hk, by simp [small]; omega, ⟨_, _, by rw [wrapN (by omega)], fun _ => ?_, fun h => by simp at h⟩⟩
          rw [hsk, hd, insD, if_pos hc, if_pos (by simpa using hne)]; simp
      · rename_i hc
        refine ⟨l[k], idxN hk, by simp [small]; omega, ⟨_, _, by rw [wrapN (by omega)], fun h => by simp at h, fun _ => ⟨ht.symm, fun x hx => ?_⟩⟩⟩
        rw [ht] at hx
        rcases List.mem_append.1 hx with hx | hx
        · exact h2 x hx
        · simp at hx; subst hx; omega
  · obtain ⟨out, done, rfl, h1, h2⟩ := hs
    show (if ((l.length : Nat) : Int) < (l.length : Int) then _ else _ : Comp _).wp _
    rw [Comp.wp_ite, if_neg (by omega)]
    show (R04_insert_k1 m out done).wp _
    unfold R04_insert_k1
    rw [Comp.wp_ite]
    cases done with
    | true =>
      rw [if_neg (by simp)]
      show _ = _
      have := h1 rfl
      simpa using this
    | false =>
      rw [if_pos (by simp)]
      obtain ⟨rfl, h4⟩ := h2 rfl; replace h2 := h4
      rw [List.take_length] at h2 ⊢
      have : insD m (l ++ []) = l ++ insD m [] := insD_skip h2
      rw [List.append_nil] at this
      refine ⟨by simp [small]; omega, ?_⟩
      show _ = _
      rw [this]; rfl
theorem R04_Minimal_ret {l : List M} (hl : Lb l) : (R04_Minimal l).Ret (minimalM l) := by
  have hl' := hl
  unfold Lb at hl
  refine Comp.loop_idx l.length (fun k s => ∃ out, s = (out, (k : Int)) ∧ out.length ≤ k ∧ Dec out ∧ ∀ y, y ∈ out ↔ y ∈ l.take k ∧ lowM y l) (fun k s hk hs => ?_) (fun s hs => ?_) ⟨[], rfl, by simp, by simp, by simp⟩
  · obtain ⟨out, rfl, h1, h2, h3⟩ := hs
    have ht : l.take (k + 1) = l.take k ++ [l[k]] := (List.take_append_getElem hk).symm
    show (if ((k : Nat) : Int) < (l.length : Int) then _ else _ : Comp _).wp _
    rw [Comp.wp_ite, if_pos (by omega)]
    refine ⟨l[k], idxN hk, _, R04_lowest_ret hl', ?_⟩
    rw [Comp.wp_ite]
    split
    · rename_i h
      have h := of_decide_eq_true h
      have := insD_length l[k] out
      refine ⟨l[k], idxN hk, _, R04_insert_ret (by omega), ⟨_, by rw [wrapN (by omega)], by omega, insD_dec h2, fun y => ?_⟩⟩
      rw [insD_mem, h3, ht, List.mem_append, List.mem_singleton]
      constructor
      · rintro (rfl | ⟨h4, h5⟩)
        · exact ⟨.inr rfl, h⟩
        · exact ⟨.inl h4, h5⟩
      · rintro ⟨h4 | rfl, h5⟩
        · exact .inr ⟨h4, h5⟩
        · exact .inl rfl
    · rename_i h
      refine ⟨_, by rw [wrapN (by omega)], by omega, h2, fun y => ?_⟩
      rw [h3, ht, List.mem_append, List.mem_singleton]
      constructor
      · rintro ⟨h4, h5⟩; exact ⟨.inl h4, h5⟩
      · rintro ⟨h4 | rfl, h5⟩
        · exact ⟨h4, h5⟩
        · exact absurd (decide_eq_true h5) h
  · obtain ⟨out, rfl, h1, h2, h3⟩ := hs
    show (if ((l.length : Nat) : Int) < (l.length : Int) then _ else _ : Comp _).wp _
    rw [Comp.wp_ite, if_neg (by omega)]
    show _ = _
    refine dec_ext h2 (minimalM_strict l) fun m => ?_
    rw [h3, List.take_length, minimalM_mem]
    exact Iff.rfl
end Go.EL
