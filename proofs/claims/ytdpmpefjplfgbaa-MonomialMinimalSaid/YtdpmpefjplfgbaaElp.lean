/- Plain laws of the lists: minimal elements, all monomials of a degree. The conditions stand in each statement. -/
import Derived.Test.YtdpmpefjplfgbaaElo
namespace Go.EL
open Go Go.RowKit

theorem al_step {p : Fin 8 → Prop} {bg : Bool} {k : Nat} (hb : bg = true ↔ ∀ i : Fin 8, i.val < k → p i) (h : k < 8) (q : Bool) (hq : q = true ↔ (bg = true ∧ p ⟨k, h⟩)) : q = true ↔ ∀ i : Fin 8, i.val < k + 1 → p i := by
  rw [hq, hb]
  constructor
  · rintro ⟨h1, h2⟩
    exact all_step h1 h h2
  · intro h1
    exact ⟨fun i hi => h1 i (by omega), h1 ⟨k, h⟩ (by simp)⟩
theorem al_all {p : Fin 8 → Prop} {bg : Bool} {k : Nat} (hb : bg = true ↔ ∀ i : Fin 8, i.val < k → p i) (h : ¬ k < 8) : bg = true ↔ ∀ i, p i := by
  rw [hb]; exact ⟨fun h1 i => h1 i (by omega), fun h1 i _ => h1 i⟩
theorem exl_step {l : List M} {p : M → Prop} {bg : Bool} {k : Nat} {c : Prop} (hb : bg = true ↔ (c ∨ ∃ (i : Nat) (h : i < l.length), i < k ∧ p l[i])) (h : k < l.length) (q : Bool) (hq : q = true ↔ (bg = true ∨ p l[k])) : q = true ↔ (c ∨ ∃ (i : Nat) (h : i < l.length), i < k + 1 ∧ p l[i]) := by
  rw [hq, hb]
  constructor
  · rintro ((h1 | ⟨i, h1, h2, h3⟩) | h1)
    · exact .inl h1
    · exact .inr ⟨i, h1, by omega, h3⟩
    · exact .inr ⟨k, h, by omega, h1⟩
  · rintro (h1 | ⟨i, h1, h2, h3⟩)
    · exact .inl (.inl h1)
    · by_cases e : i = k
      · subst e; exact .inr h3
      · exact .inl (.inr ⟨i, h1, by omega, h3⟩)

/-! ### Minimal elements -/
theorem dvd_cmpFrom {a b : M} (h : dvdM a b) : ∀ n k, cmpFrom a b n k ≤ 0
  | 0, _ => by simp [cmpFrom]
  | n + 1, k => by
    have ih := dvd_cmpFrom h n (k + 1)
    simp only [cmpFrom]
    split
    · rename_i hk
      have := h ⟨k, hk⟩
      split
      · omega
      · split
        · omega
        · exact ih
    · omega
theorem dvd_cmp {a b : M} (h : dvdM a b) : cmpM a b ≤ 0 := dvd_cmpFrom h 8 0
theorem inM_iff {m : M} {l : List M} : inM m l = true ↔ ∃ d ∈ l, dvdM d m := by simp [inM, List.any_eq_true]
theorem minAcc_snoc (T : List M) (a : M) : minAcc (T ++ [a]) = minStep (minAcc T) a := by unfold minAcc; rw [List.foldl_append]; rfl
theorem snoc_ind {α : Type} {p : List α → Prop} (h0 : p []) (h1 : ∀ l a, p l → p (l ++ [a])) : ∀ l, p l := fun l => by
  have : ∀ r : List α, p r.reverse := by
    intro r
    induction r with
    | nil => exact h0
    | cons a r ih => rw [List.reverse_cons]; exact h1 _ _ ih
  have h := this l.reverse
  rwa [List.reverse_reverse] at h
theorem minAcc_sub : ∀ S : List M, (minAcc S).Sublist S := snoc_ind (by simp [minAcc]) fun T a ih => by
  rw [minAcc_snoc, minStep]
  split
  · exact ih.trans (List.sublist_append_left _ _)
  · exact List.Sublist.append ih (List.Sublist.refl _)
theorem minAcc_cover : ∀ S : List M, ∀ d ∈ S, ∃ e ∈ minAcc S, dvdM e d := snoc_ind (by simp) fun T a ih d hd => by
  rw [minAcc_snoc, minStep]
  rw [List.mem_append] at hd
  split
  · rename_i hin
    rcases hd with hd | hd
    · exact ih d hd
    · obtain rfl : d = a := by simpa using hd
      obtain ⟨e, h1, h2⟩ := inM_iff.1 hin
      exact ⟨e, h1, h2⟩
  · rcases hd with hd | hd
    · obtain ⟨e, h1, h2⟩ := ih d hd
      exact ⟨e, by simp [h1], h2⟩
    · obtain rfl : d = a := by simpa using hd
      exact ⟨d, by simp, dvd_refl d⟩
theorem minAcc_strict : ∀ S : List M, S.Pairwise (fun x y => cmpM x y ≤ 0) → (minAcc S).Pairwise fun x y => cmpM x y < 0 := snoc_ind (by simp [minAcc]) fun T a ih hs => by
  rw [List.pairwise_append] at hs
  obtain ⟨h1, _, h3⟩ := hs
  rw [minAcc_snoc, minStep]
  split
  · exact ih h1
  · rename_i hin
    rw [List.pairwise_append]
    refine ⟨ih h1, by simp, fun t ht b hb => ?_⟩
    obtain rfl : b = a := by simpa using hb
    have hle := h3 t ((minAcc_sub T).subset ht) b (by simp)
    rcases Int.lt_or_eq_of_le hle with h | h
    · exact h
    · exact absurd (inM_iff.2 ⟨t, ht, by rw [cmpM_zero h]; exact dvd_refl b⟩) hin
theorem minAcc_mem : ∀ S : List M, S.Pairwise (fun x y => cmpM x y ≤ 0) → ∀ m, m ∈ minAcc S ↔ (m ∈ S ∧ ∀ d ∈ S, dvdM d m → d = m) := snoc_ind (by simp [minAcc]) fun T a ih hs m => by
  rw [List.pairwise_append] at hs
  obtain ⟨h1, _, h3⟩ := hs
  have ih' := ih h1
  have keep : m ∈ minAcc T → m ∈ T ++ [a] ∧ ∀ d ∈ T ++ [a], dvdM d m → d = m := fun hm => by
    obtain ⟨hmT, hmin⟩ := (ih' m).1 hm
    refine ⟨by simp [hmT], fun d hd hdm => ?_⟩
    rw [List.mem_append] at hd
    rcases hd with hd | hd
    · exact hmin d hd hdm
    · obtain rfl : d = a := by simpa using hd
      have c1 := dvd_cmp hdm
      have c2 := h3 m hmT d (by simp)
      have c3 := cmpM_neg d m
      exact cmpM_zero (by omega)
  rw [minAcc_snoc, minStep]
  split
  · rename_i hin
    refine ⟨keep, fun ⟨hm, hmin⟩ => ?_⟩
    rw [List.mem_append] at hm
    rcases hm with hm | hm
    · exact (ih' m).2 ⟨hm, fun d hd => hmin d (by simp [hd])⟩
    · obtain rfl : m = a := by simpa using hm
      obtain ⟨e, he1, he2⟩ := inM_iff.1 hin
      have := hmin e (by simp [(minAcc_sub T).subset he1]) he2
      subst this; exact he1
  · rename_i hin
    rw [List.mem_append]
    constructor
    · rintro (hm | hm)
      · exact keep hm
      · obtain rfl : m = a := by simpa using hm
        refine ⟨by simp, fun d hd hdm => ?_⟩
        rw [List.mem_append] at hd
        rcases hd with hd | hd
        · obtain ⟨e, he1, he2⟩ := minAcc_cover T d hd
          exact absurd (inM_iff.2 ⟨e, he1, dvd_trans he2 hdm⟩) hin
        · simpa using hd
    · rintro ⟨hm, hmin⟩
      rw [List.mem_append] at hm
      rcases hm with hm | hm
      · exact .inl ((ih' m).2 ⟨hm, fun d hd => hmin d (by simp [hd])⟩)
      · exact .inr hm
theorem minimalM_mem {l : List M} {m : M} : m ∈ minimalM l ↔ (m ∈ l ∧ ∀ d ∈ l, dvdM d m → d = m) := by
  have hp := sortM_perm l
  simp only [minimalM, List.mem_reverse, minAcc_mem _ (sortM_sorted l), hp.mem_iff]
theorem minimalM_length (l : List M) : (minimalM l).length ≤ l.length := by
  have := (minAcc_sub (sortM l)).length_le
  rw [sortM_length] at this
  simpa [minimalM] using this
theorem minimalM_cover {l : List M} {d : M} (h : d ∈ l) : ∃ e ∈ minimalM l, dvdM e d := by
  obtain ⟨e, h1, h2⟩ := minAcc_cover (sortM l) d ((sortM_perm l).mem_iff.2 h)
  exact ⟨e, by simpa [minimalM] using h1, h2⟩
theorem minimalM_nil (l : List M) : (minimalM l).length = 0 ↔ l.length = 0 := by
  constructor
  · intro h
    cases l with
    | nil => rfl
    | cons a l =>
      obtain ⟨e, h1, _⟩ := minimalM_cover (l := a :: l) (d := a) (by simp)
      rw [List.eq_nil_of_length_eq_zero h] at h1
      simp at h1
  · intro h
    have := minimalM_length l
    omega
theorem inM_minimal (m : M) (l : List M) : inM m l = inM m (minimalM l) := by
  rw [Bool.eq_iff_iff, inM_iff, inM_iff]
  constructor
  · rintro ⟨d, h1, h2⟩
    obtain ⟨e, h3, h4⟩ := minimalM_cover h1
    exact ⟨e, h3, dvd_trans h4 h2⟩
  · rintro ⟨d, h1, h2⟩
    exact ⟨d, (minimalM_mem.1 h1).1, h2⟩
theorem minimalM_strict (l : List M) : (minimalM l).Pairwise fun x y => cmpM y x < 0 := by
  unfold minimalM
  rw [List.pairwise_reverse]
  exact minAcc_strict _ (sortM_sorted l)
theorem minimalM_dec {l : List M} {i j : Nat} (hi : i < (minimalM l).length) (hj : j < (minimalM l).length) (h : i < j) : cmpM (minimalM l)[j] (minimalM l)[i] < 0 := (List.pairwise_iff_getElem.1 (minimalM_strict l)) i j hi hj h
theorem minimalM_anti {l : List M} {i j : Nat} (hi : i < (minimalM l).length) (hj : j < (minimalM l).length) (h : i ≠ j) : ¬ dvdM (minimalM l)[i] (minimalM l)[j] := fun hd => by
  have h1 := (minimalM_mem.1 (List.getElem_mem hj)).2 _ (minimalM_mem.1 (List.getElem_mem hi)).1 hd
  rcases Nat.lt_or_gt_of_ne h with hl | hl
  · have := minimalM_dec hi hj hl
    rw [h1, cmpM_self] at this; omega
  · have := minimalM_dec hj hi hl
    rw [h1, cmpM_self] at this; omega
theorem minimalM_same {l l' : List M} (h : ∀ m, m ∈ l ↔ m ∈ l') : minimalM l = minimalM l' := by
  have hm : ∀ m, m ∈ minimalM l ↔ m ∈ minimalM l' := fun m => by
    simp only [minimalM_mem, h]
  have nd : ∀ l : List M, (minimalM l).Nodup := fun l => (minimalM_strict l).imp fun {a b} hab e => by rw [e, cmpM_self] at hab; omega
  have hp : (minimalM l).Perm (minimalM l') := (List.perm_ext_iff_of_nodup (nd l) (nd l')).2 hm
  refine List.Perm.eq_of_pairwise (le := fun x y => cmpM y x < 0) ?_ (minimalM_strict l) (minimalM_strict l') hp
  intro a b _ _ h1 h2
  have := cmpM_neg a b
  omega
theorem inM_self {l : List M} {i : Nat} (h : i < l.length) : inM l[i] (minimalM l) = true := by
  rw [← inM_minimal]; exact inM_iff.2 ⟨l[i], List.getElem_mem h, dvd_refl _⟩
/-- The list backwards, each element with the first one behind it: the first x rounds. -/
def backL (l : List M) : Nat → List M
  | 0 => []
  | x + 1 => backL l x ++ [l.getD (l.length - 1 - x) zeroM, l.getD 0 zeroM]
theorem backL_length (l : List M) : ∀ x, (backL l x).length = 2 * x
  | 0 => rfl
  | x + 1 => by simp [backL, backL_length l x]; omega
theorem backL_mem {l : List M} : ∀ x, x ≤ l.length → ∀ m, m ∈ backL l x → m ∈ l
  | 0, _, m, h => by simp [backL] at h
  | x + 1, hx, m, h => by
    simp only [backL, List.mem_append, List.mem_cons, List.not_mem_nil, or_false] at h
    have g : ∀ i, i < l.length → l.getD i zeroM ∈ l := fun i hi => by
      rw [List.getD_eq_getElem?_getD, List.getElem?_eq_getElem hi]; exact List.getElem_mem hi
    rcases h with h | h | h
    · exact backL_mem x (by omega) m h
    · rw [h]; exact g _ (by omega)
    · rw [h]; exact g _ (by omega)
theorem backL_has {l : List M} : ∀ x, x ≤ l.length → ∀ j, l.length - x ≤ j → (h : j < l.length) → l[j] ∈ backL l x
  | 0, _, j, h1, h2 => by omega
  | x + 1, hx, j, h1, h2 => by
    simp only [backL, List.mem_append, List.mem_cons, List.not_mem_nil, or_false]
    by_cases e : j = l.length - 1 - x
    · refine .inr (.inl ?_)
      rw [List.getD_eq_getElem?_getD, ← e, List.getElem?_eq_getElem h2]; rfl
    · exact .inl (backL_has x (by omega) j (by omega) h2)
theorem minimal_back (l : List M) : minimalM (backL l l.length) = minimalM l := minimalM_same fun m => by
  refine ⟨backL_mem _ (Nat.le_refl _) m, fun h => ?_⟩
  obtain ⟨j, hj, rfl⟩ := List.getElem_of_mem h
  exact backL_has _ (Nat.le_refl _) j (by omega) hj

/-! ### All monomials -/
theorem downFrom_has : ∀ (c e x : Nat), x ≤ e → e < x + c → x ∈ downFrom e c
  | 0, e, x, h1, h2 => by omega
  | c + 1, e, x, h1, h2 => by
    simp only [downFrom, List.mem_cons]
    by_cases h : x = e
    · exact .inl h
    · exact .inr (downFrom_has c (e - 1) x (by omega) (by omega))
theorem degTo_mono {m : M} (h : ∀ j : Fin 8, 0 ≤ m j) : ∀ (k i : Nat), degTo m i ≤ degTo m (i + k)
  | 0, i => by simp
  | k + 1, i => by
    have := degTo_mono h k i
    rw [← Nat.add_assoc]
    simp only [degTo]
    split
    · rename_i hk; have := h ⟨i + k, hk⟩; omega
    · omega
theorem fillL_mem : ∀ (k i left : Nat) (m m' : M), i + k ≤ 8 → (∀ j : Fin 8, 0 ≤ m' j) → (∀ j : Fin 8, j.val < i → m' j = m j) → (∀ j : Fin 8, i + k ≤ j.val → m' j = m j) → degTo m' (i + k) = degTo m' i + left → m' ∈ fillL k i left m
  | 0, i, left, m, m', _, _, h1, h2, h3 => by
    have : left = 0 := by simp at h3; omega
    have e : m' = m := funext fun j => by
      by_cases h : j.val < i
      · exact h1 j h
      · exact h2 j (by omega)
    simp [fillL, this, e]
  | k + 1, i, left, m, m', hik, h0, h1, h2, h3 => by
    have hi : i < 8 := by omega
    have hs := degTo_step m' hi
    have hmo := degTo_mono h0 k (i + 1)
    rw [show i + 1 + k = i + (k + 1) by omega] at hmo
    have hn := h0 ⟨i, hi⟩
    obtain ⟨e, he⟩ := Int.eq_ofNat_of_zero_le hn
    have hel : e ≤ left := by omega
    simp only [fillL, List.mem_flatMap]
    refine ⟨e, downFrom_has _ _ _ hel ?_, ?_⟩
    · by_cases hk : k = 0
      · subst hk
        simp only [if_true]
        rw [show i + (0 + 1) = i + 1 by omega] at h3
        omega
      · rw [if_neg hk]; omega
    · refine fillL_mem k (i + 1) (left - e) _ m' (by omega) h0 (fun j hj => ?_) (fun j hj => ?_) ?_
      · simp only [upd]
        split
        · rename_i hji
          have : j = ⟨i, hi⟩ := Fin.ext hji
          subst this; exact he
        · exact h1 j (by omega)
      · simp only [upd]
        rw [if_neg (by omega)]
        exact h2 j (by omega)
      · rw [show i + 1 + k = i + (k + 1) by omega, h3]
        omega
theorem allM_mem {n d : Nat} {m : M} (hn : n ≤ 8) (h0 : ∀ j : Fin 8, 0 ≤ m j) (hz : ∀ j : Fin 8, n ≤ j.val → m j = 0) (hd : degTo m n = d) : m ∈ allM n d :=
  fillL_mem n 0 d zeroM m (by omega) h0 (fun j h => by omega) (fun j h => by rw [hz j (by omega)]; rfl) (by simp [degTo, hd])
end Go.EL
