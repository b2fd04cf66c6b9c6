/- Sorting bytes: order, insertion. The conditions stand in each statement. -/
import Derived.Test.YtbdknlblnfnkkaaPC
namespace Go.EL
open Go
abbrev Sd (l : List Int) : Prop := l.Pairwise (· ≤ ·)
def sortI (l : List Int) : List Int := l.mergeSort fun x y => decide (x ≤ y)
theorem sortI_perm (l : List Int) : (sortI l).Perm l := List.mergeSort_perm _ _
theorem sortI_sd (l : List Int) : Sd (sortI l) := by
  have := List.pairwise_mergeSort (le := fun x y : Int => decide (x ≤ y)) (fun a b c h1 h2 => by simp only [decide_eq_true_eq] at *; omega) (fun a b => by simp only [Bool.or_eq_true, decide_eq_true_eq]; omega) l
  exact this.imp fun h => of_decide_eq_true h
theorem sortI_eq {l s : List Int} (h : s.Perm l) (hs : Sd s) : s = sortI l :=
  List.Perm.eq_of_pairwise (le := fun a b => a ≤ b) (fun a b _ _ h1 h2 => Int.le_antisymm h1 h2) hs (sortI_sd l) (h.trans (sortI_perm l).symm)
theorem Less_ret (x y : Int) : (cmp_Less_uint8 x y).Ret (decide (x < y)) := by
  refine ⟨false, ?_, rfl⟩
  show decide (¬ x = x) = false
  simp
theorem set_mid {α : Type} (A B : List α) (x y z w : α) : ((A ++ x :: y :: B).set (A.length + 1) z).set A.length w = A ++ w :: z :: B := by
  induction A with
  | nil => rfl
  | cons a A ih => simp only [List.cons_append, List.length_cons, List.set_cons_succ, ih]
theorem get_mid {α : Type} (A B : List α) (x : α) : (A ++ x :: B)[A.length]? = some x := by simp
theorem inner_ret {x : Int} {R : List Int} : ∀ (A B : List Int), A.length < 1000000000 → Sd (A ++ B) → (∀ b ∈ B, x < b) → (slices_insertionSortOrdered_uint8_L4 0 (A ++ x :: (B ++ R), (A.length : Int))).wp fun d => ∃ S, d = S ++ R ∧ S.Perm (x :: (A ++ B)) ∧ Sd S := by
  have key : ∀ (n : Nat) (A B : List Int), A.length = n → A.length < 1000000000 → Sd (A ++ B) → (∀ b ∈ B, x < b) → (slices_insertionSortOrdered_uint8_L4 0 (A ++ x :: (B ++ R), (A.length : Int))).wp fun d => ∃ S, d = S ++ R ∧ S.Perm (x :: (A ++ B)) ∧ Sd S := by
    intro n
    induction n with
    | zero =>
      intro A B hn _ hs hB
      have : A = [] := List.eq_nil_of_length_eq_zero hn
      subst this
      refine Comp.loop_fold ?_
      show (if (0 : Int) < ((0 : Nat) : Int) then _ else _ : Comp _).wp _
      rw [Comp.wp_ite, if_neg (by omega)]
      exact ⟨x :: B, rfl, List.Perm.refl _, List.pairwise_cons.2 ⟨fun b hb => Int.le_of_lt (hB b hb), hs⟩⟩
    | succ n ih =>
      intro A B hn hlt hs hB
      obtain ⟨A', y, rfl⟩ : ∃ A' y, A = A' ++ [y] := by
        rcases List.eq_nil_or_concat A with rfl | ⟨A', y, rfl⟩
        · simp at hn
        · exact ⟨A', y, List.concat_eq_append⟩
      have hn' : A'.length = n := by simp at hn; exact hn
      have e0 : A' ++ [y] ++ x :: (B ++ R) = A' ++ y :: x :: (B ++ R) := by simp
      have el : (A' ++ [y]).length = A'.length + 1 := by simp
      rw [el] at hlt
      rw [e0, el]
      refine Comp.loop_fold ?_
      show (if (0 : Int) < ((A'.length + 1 : Nat) : Int) then _ else _ : Comp _).wp _
      rw [Comp.wp_ite, if_pos (by omega)]
      have w1 : IntKind.i64.wrap (((A'.length + 1 : Nat) : Int) - 1) = (A'.length : Int) := by rw [wrap64 (by omega)]; omega
      have g1 : (0 : Int) ≤ ((A'.length + 1 : Nat) : Int) ∧ (A' ++ y :: x :: (B ++ R))[((A'.length + 1 : Nat) : Int).toNat]? = some x := ⟨by omega, by
        have := get_mid (A' ++ [y]) (B ++ R) x
        rw [e0, el] at this
        exact this⟩
      have g2 : (0 : Int) ≤ (A'.length : Int) ∧ (A' ++ y :: x :: (B ++ R))[(A'.length : Int).toNat]? = some y := ⟨by omega, get_mid A' _ y⟩
      rw [w1]
      refine ⟨x, g1, y, g2, _, Less_ret x y, ?_⟩
      rw [Comp.wp_ite]
      split
      · rename_i h
        have hxy : x < y := of_decide_eq_true h
        refine ⟨y, g2, x, g1, x, g1, y, ⟨by omega, ?_⟩, ?_⟩
        · rw [show ((A'.length + 1 : Nat) : Int).toNat = A'.length + 1 by omega, show (A'.length : Int).toNat = A'.length by omega, List.getElem?_set_ne (by omega)]
          exact get_mid A' _ y
        · rw [show ((A'.length + 1 : Nat) : Int).toNat = A'.length + 1 by omega, show (A'.length : Int).toNat = A'.length by omega, set_mid]
          have := ih A' (y :: B) hn' (by omega) (by simpa using hs) (fun b hb => by
            rcases List.mem_cons.1 hb with rfl | hb
            · exact hxy
            · exact hB b hb)
          show (slices_insertionSortOrdered_uint8_L4 0 (A' ++ x :: y :: (B ++ R), (A'.length : Int))).wp _
          refine Comp.mono _ (fun d hd => ?_) this
          obtain ⟨S, h1, h2, h3⟩ := hd
          exact ⟨S, h1, by simpa using h2, h3⟩
      · rename_i h
        have hxy : y ≤ x := by simp only [decide_eq_true_eq] at h; omega
        refine ⟨A' ++ y :: x :: B, by simp, ?_, ?_⟩
        · have : (A' ++ y :: x :: B).Perm (x :: (A' ++ y :: B)) := by
            have := @List.perm_middle _ x (A' ++ [y]) B
            simpa using this
          simpa using this
        · have hs' : Sd (A' ++ y :: B) := by simpa using hs
          obtain ⟨p1, p2, p3⟩ := List.pairwise_append.1 hs'
          obtain ⟨p4, p5⟩ := List.pairwise_cons.1 p2
          refine List.pairwise_append.2 ⟨p1, List.pairwise_cons.2 ⟨fun b hb => ?_, List.pairwise_cons.2 ⟨fun b hb => Int.le_of_lt (hB b hb), p5⟩⟩, fun a ha b hb => ?_⟩
          · rcases List.mem_cons.1 hb with rfl | hb
            · exact hxy
            · exact p4 b hb
          · rcases List.mem_cons.1 hb with rfl | hb
            · exact p3 a ha b (by simp)
            · rcases List.mem_cons.1 hb with rfl | hb
              · exact Int.le_trans (p3 a ha y (by simp)) hxy
              · exact p3 a ha b (by simp [hb])
  exact fun A B => key A.length A B rfl
theorem isort_ret {l : List Int} (hl : l.length < 1000000000) : (slices_insertionSortOrdered_uint8 l 0 (l.length : Int)).Ret (sortI l) := by
  show (Comp.loop _ _).wp _
  rw [wrap64 (by omega)]
  cases l with
  | nil =>
    refine Comp.loop_fold ?_
    show (if (1 : Int) < ((0 : Nat) : Int) then _ else _ : Comp _).wp _
    rw [Comp.wp_ite, if_neg (by omega)]
    show [] = sortI []
    exact sortI_eq (List.Perm.refl _) List.Pairwise.nil
  | cons x0 l' =>
    refine Comp.loop_idx l'.length (fun k s => ∃ S, s = (S ++ (x0 :: l').drop (k + 1), ((k + 1 : Nat) : Int)) ∧ S.Perm ((x0 :: l').take (k + 1)) ∧ Sd S) (fun k s hk hs => ?_) (fun s hs => ?_) ⟨[x0], by simp, by simp, by simp⟩
    · obtain ⟨S, rfl, hp, hS⟩ := hs
      have hk' : k + 1 < (x0 :: l').length := by simp; omega
      have hSl : S.length = k + 1 := by rw [hp.length_eq]; simp; omega
      simp only [List.length_cons] at hl
      show (if ((k + 1 : Nat) : Int) < (((x0 :: l').length : Nat) : Int) then _ else _ : Comp _).wp _
      rw [Comp.wp_ite, if_pos (by omega)]
      have hd : (x0 :: l').drop (k + 1) = (x0 :: l')[k + 1] :: (x0 :: l').drop (k + 1 + 1) := List.drop_eq_getElem_cons hk'
      have := inner_ret (x := (x0 :: l')[k + 1]) (R := (x0 :: l').drop (k + 1 + 1)) S [] (by omega) (by simpa using hS) (by simp)
      rw [List.nil_append, ← hd, hSl] at this
      refine Comp.wp_next.2 (Comp.mono _ (fun d ⟨S', h1, h2, h3⟩ => ?_) this)
      refine ⟨S', ?_, ?_, h3⟩
      · rw [h1, wrapN (by omega)]
      · rw [(List.take_append_getElem hk').symm]
        refine h2.trans ?_
        simp only [List.append_nil]
        exact (List.Perm.cons _ hp).trans (List.perm_append_singleton _ _).symm
    · obtain ⟨S, rfl, hp, hS⟩ := hs
      show (if ((l'.length + 1 : Nat) : Int) < (((x0 :: l').length : Nat) : Int) then _ else _ : Comp _).wp _
      rw [Comp.wp_ite, if_neg (by simp)]
      show S ++ (x0 :: l').drop (l'.length + 1) = sortI (x0 :: l')
      rw [List.drop_of_length_le (by simp), List.append_nil]
      rw [List.take_of_length_le (by simp)] at hp
      exact sortI_eq hp hS
end Go.EL
/- Sorting bytes: ranges, partitions. The conditions stand in each statement. -/
namespace Go.EL
open Go
/-- A loop with a result that is told. -/
theorem Comp.loop_det {σ ρ : Type} {step : σ → Comp (σ ⊕ ρ)} {Φ : ρ → Prop} (I : σ → Prop) (m : σ → Nat)
    (h : ∀ s, I s → ∃ o, (step s).Ret o ∧ ((∃ s', o = .inl s' ∧ I s' ∧ m s' < m s) ∨ ∃ r, o = .inr r ∧ Φ r)) : ∀ s, I s → ∃ r, (Comp.loop step s).Ret r ∧ Φ r := by
  have key : ∀ n s, m s ≤ n → I s → ∃ r, (Comp.loop step s).Ret r ∧ Φ r := by
    intro n
    induction n with
    | zero =>
      intro s hn hs
      obtain ⟨o, h1, h2⟩ := h s hs
      rcases h2 with ⟨s', rfl, _, hlt⟩ | ⟨r, rfl, hr⟩
      · omega
      · exact ⟨r, Comp.loop_fold (h1.then rfl), hr⟩
    | succ n ih =>
      intro s hn hs
      obtain ⟨o, h1, h2⟩ := h s hs
      rcases h2 with ⟨s', rfl, hi, hlt⟩ | ⟨r, rfl, hr⟩
      · obtain ⟨r, h3, h4⟩ := ih s' (by omega) hi
        exact ⟨r, Comp.loop_fold (h1.then h3), h4⟩
      · exact ⟨r, Comp.loop_fold (h1.then rfl), hr⟩
  exact fun s hs => key (m s) s (Nat.le_refl _) hs
theorem at_nat {d : List Int} {i : Nat} {x : Int} (h : d[i]? = some x) : (0 : Int) ≤ (i : Int) ∧ d[(i : Int).toNat]? = some x := ⟨by omega, by simpa using h⟩
theorem swap_spec {d : List Int} {i j : Nat} {x y : Int} (hi : d[i]? = some y) (hj : d[j]? = some x) : ((d.set i x).set j y).Perm d ∧ ∀ k, ((d.set i x).set j y)[k]? = if k = j then some y else if k = i then some x else d[k]? := by
  obtain ⟨h1, rfl⟩ := List.getElem?_eq_some_iff.1 hi
  obtain ⟨h2, rfl⟩ := List.getElem?_eq_some_iff.1 hj
  refine ⟨List.set_set_perm h1 h2, fun k => ?_⟩
  rw [List.getElem?_set, List.getElem?_set]
  by_cases e : k = j
  · subst e; simp [h2]
  · rw [if_neg (fun q => e q.symm), if_neg e]
    by_cases e' : k = i
    · subst e'; simp [h1]
    · rw [if_neg (fun q => e' q.symm), if_neg e']
/-- Up, as long as less than the pivot. -/
def scanUp (d : List Int) (a B : Int) : Int → Comp Int :=
  Comp.loop fun i => if i ≤ B then (Comp.at' d i fun x => Comp.at' d a fun y => Comp.bind (cmp_Less_uint8 x y) fun c => if c = true then (Comp.ret (.inl (IntKind.i64.wrap (i + 1)))) else (Comp.ret (.inr i))) else (Comp.ret (.inr i))
def scanDown (d : List Int) (a I : Int) : Int → Comp Int :=
  Comp.loop fun j => if I ≤ j then (Comp.at' d j fun x => Comp.at' d a fun y => Comp.bind (cmp_Less_uint8 x y) fun c => if (!c) = true then (Comp.ret (.inl (IntKind.i64.wrap (j - 1)))) else (Comp.ret (.inr j))) else (Comp.ret (.inr j))
theorem scanUp_ret {d : List Int} {a B i : Nat} {v : Int} (ha : d[a]? = some v) (hB : B < d.length) (hi : i ≤ B + 1) (hd : d.length ≤ 1000000) :
    ∃ r : Nat, (scanUp d a B i).Ret (r : Int) ∧ i ≤ r ∧ r ≤ B + 1 ∧ (∀ k x, i ≤ k → k < r → d[k]? = some x → x < v) ∧ (r ≤ B → ∃ x, d[r]? = some x ∧ ¬ x < v) := by
  obtain ⟨r, h1, r', rfl, h2⟩ := Comp.loop_det (step := fun i : Int => if i ≤ (B : Int) then (Comp.at' d i fun x => Comp.at' d (a : Int) fun y => Comp.bind (cmp_Less_uint8 x y) fun c => if c = true then (Comp.ret (.inl (IntKind.i64.wrap (i + 1)))) else (Comp.ret (.inr i))) else (Comp.ret (.inr i)))
    (Φ := fun z : Int => ∃ r : Nat, z = (r : Int) ∧ i ≤ r ∧ r ≤ B + 1 ∧ (∀ k x, i ≤ k → k < r → d[k]? = some x → x < v) ∧ (r ≤ B → ∃ x, d[r]? = some x ∧ ¬ x < v))
    (fun z => ∃ r : Nat, z = (r : Int) ∧ i ≤ r ∧ r ≤ B + 1 ∧ (∀ k x, i ≤ k → k < r → d[k]? = some x → x < v)) (fun z => (B + 1 - z).toNat) (fun s hs => by
    obtain ⟨r, rfl, h1, h2, h3⟩ := hs
    by_cases hr : r ≤ B
    · have hget : d[r]? = some d[r] := List.getElem?_eq_getElem (by omega)
      by_cases hlt : d[r] < v
      · refine ⟨.inl (IntKind.i64.wrap ((r : Int) + 1)), ?_, .inl ⟨_, rfl, ⟨r + 1, wrapN (by omega), by omega, by omega, fun k x h4 h5 h6 => ?_⟩, ?_⟩⟩
        · show (if (r : Int) ≤ (B : Int) then _ else _ : Comp _).wp _
          rw [Comp.wp_ite, if_pos (by omega)]
          refine ⟨d[r], at_nat hget, v, at_nat ha, _, Less_ret _ _, ?_⟩
          rw [Comp.wp_ite, if_pos (decide_eq_true hlt)]
          rfl
        · by_cases e : k = r
          · subst e; rw [hget] at h6; cases h6; exact hlt
          · exact h3 k x h4 (by omega) h6
        · rw [wrapN (by omega)]; omega
      · refine ⟨.inr (r : Int), ?_, .inr ⟨_, rfl, r, rfl, h1, h2, h3, fun _ => ⟨_, hget, hlt⟩⟩⟩
        show (if (r : Int) ≤ (B : Int) then _ else _ : Comp _).wp _
        rw [Comp.wp_ite, if_pos (by omega)]
        refine ⟨d[r], at_nat hget, v, at_nat ha, _, Less_ret _ _, ?_⟩
        rw [Comp.wp_ite, if_neg (by simp [hlt])]
        rfl
    · refine ⟨.inr (r : Int), ?_, .inr ⟨_, rfl, r, rfl, h1, h2, h3, fun h => absurd h hr⟩⟩
      show (if (r : Int) ≤ (B : Int) then _ else _ : Comp _).wp _
      rw [Comp.wp_ite, if_neg (by omega)]
      rfl) (i : Int) ⟨i, rfl, Nat.le_refl _, hi, fun k x h4 h5 => by omega⟩
  exact ⟨r', h1, h2⟩
theorem scanDown_ret {d : List Int} {a I j : Nat} {v : Int} (ha : d[a]? = some v) (hj : j < d.length) (hI : 1 ≤ I) (hi : I ≤ j + 1) (hd : d.length ≤ 1000000) :
    ∃ r : Nat, (scanDown d a I j).Ret (r : Int) ∧ I ≤ r + 1 ∧ r ≤ j ∧ (∀ k x, r < k → k ≤ j → d[k]? = some x → ¬ x < v) ∧ (I ≤ r → ∃ x, d[r]? = some x ∧ x < v) := by
  obtain ⟨r, h1, r', rfl, h2⟩ := Comp.loop_det (step := fun j : Int => if (I : Int) ≤ j then (Comp.at' d j fun x => Comp.at' d (a : Int) fun y => Comp.bind (cmp_Less_uint8 x y) fun c => if (!c) = true then (Comp.ret (.inl (IntKind.i64.wrap (j - 1)))) else (Comp.ret (.inr j))) else (Comp.ret (.inr j)))
    (Φ := fun z : Int => ∃ r : Nat, z = (r : Int) ∧ I ≤ r + 1 ∧ r ≤ j ∧ (∀ k x, r < k → k ≤ j → d[k]? = some x → ¬ x < v) ∧ (I ≤ r → ∃ x, d[r]? = some x ∧ x < v))
    (fun z => ∃ r : Nat, z = (r : Int) ∧ I ≤ r + 1 ∧ r ≤ j ∧ (∀ k x, r < k → k ≤ j → d[k]? = some x → ¬ x < v)) (fun z => z.toNat) (fun s hs => by
    obtain ⟨r, rfl, h1, h2, h3⟩ := hs
    by_cases hr : I ≤ r
    · have hget : d[r]? = some d[r] := List.getElem?_eq_getElem (by omega)
      have e1 : IntKind.i64.wrap ((r : Int) - 1) = ((r - 1 : Nat) : Int) := by rw [wrap64 (by omega)]; omega
      by_cases hlt : d[r] < v
      · refine ⟨.inr (r : Int), ?_, .inr ⟨_, rfl, r, rfl, h1, h2, h3, fun _ => ⟨_, hget, hlt⟩⟩⟩
        show (if (I : Int) ≤ (r : Int) then _ else _ : Comp _).wp _
        rw [Comp.wp_ite, if_pos (by omega)]
        refine ⟨d[r], at_nat hget, v, at_nat ha, _, Less_ret _ _, ?_⟩
        rw [Comp.wp_ite, if_neg (by simp [hlt])]
        rfl
      · refine ⟨.inl (IntKind.i64.wrap ((r : Int) - 1)), ?_, .inl ⟨_, rfl, ⟨r - 1, e1, by omega, by omega, fun k x h4 h5 h6 => ?_⟩, ?_⟩⟩
        · show (if (I : Int) ≤ (r : Int) then _ else _ : Comp _).wp _
          rw [Comp.wp_ite, if_pos (by omega)]
          refine ⟨d[r], at_nat hget, v, at_nat ha, _, Less_ret _ _, ?_⟩
          rw [Comp.wp_ite, if_pos (by simp [hlt])]
          rfl
        · by_cases e : k = r
          · subst e; rw [hget] at h6; cases h6; exact hlt
          · exact h3 k x (by omega) h5 h6
        · rw [e1]; omega
    · refine ⟨.inr (r : Int), ?_, .inr ⟨_, rfl, r, rfl, h1, h2, h3, fun h => absurd h hr⟩⟩
      show (if (I : Int) ≤ (r : Int) then _ else _ : Comp _).wp _
      rw [Comp.wp_ite, if_neg (by omega)]
      rfl) (j : Int) ⟨j, rfl, hi, Nat.le_refl _, fun k x h4 h5 => by omega⟩
  exact ⟨r', h1, h2⟩
/-- On the way of a partition of the cells from a to b. -/
structure Pt (d0 : List Int) (a b : Nat) (v : Int) (d : List Int) (i j : Nat) : Prop where
  perm : d.Perm d0
  out : ∀ k, k < a ∨ b ≤ k → d[k]? = d0[k]?
  piv : d[a]? = some v
  lo : ∀ k x, a < k → k < i → d[k]? = some x → x < v
  hi : ∀ k x, j < k → k < b → d[k]? = some x → v ≤ x
  ai : a < i
  ij : i ≤ j + 1
  jb : j < b
  bn : b ≤ d0.length
theorem Pt.len {d0 d : List Int} {a b i j : Nat} {v : Int} (h : Pt d0 a b v d i j) : d.length = d0.length := h.perm.length_eq
/-- One pass: either the pointers have met, or two elements change places. -/
theorem Pt.pass {d0 d : List Int} {a b i j : Nat} {v : Int} (h : Pt d0 a b v d i j) (hn : d0.length ≤ 1000000) :
    ∃ i' j' : Nat, (scanUp d a j i).Ret (i' : Int) ∧ (scanDown d a i' j).Ret (j' : Int) ∧ Pt d0 a b v d i' j' ∧ i ≤ i' ∧ j' ≤ j ∧
      (i' ≤ j' → ∃ x y, d[j']? = some x ∧ d[i']? = some y ∧ i' < j' ∧ Pt d0 a b v ((d.set i' x).set j' y) (i' + 1) (j' - 1)) := by
  have hl := h.len
  have hai0 := h.ai
  obtain ⟨i', h1, h2, h3, h4, h5⟩ := scanUp_ret (B := j) (i := i) h.piv (by have := h.jb; have := h.bn; omega) h.ij (by omega)
  obtain ⟨j', g1, g2, g3, g4, g5⟩ := scanDown_ret (I := i') (j := j) h.piv (by have := h.jb; have := h.bn; omega) (by omega) h3 (by omega)
  have hlo : ∀ k x, a < k → k < i' → d[k]? = some x → x < v := fun k x q1 q2 q3 => by
    by_cases e : k < i
    · exact h.lo k x q1 e q3
    · exact h4 k x (by omega) q2 q3
  have hhi : ∀ k x, j' < k → k < b → d[k]? = some x → v ≤ x := fun k x q1 q2 q3 => by
    by_cases e : j < k
    · exact h.hi k x e q2 q3
    · have := g4 k x q1 (by omega) q3; omega
  have hai := h.ai
  have hjb := h.jb
  have hbn := h.bn
  refine ⟨i', j', h1, g1, ⟨h.perm, h.out, h.piv, hlo, hhi, by omega, g2, by omega, h.bn⟩, h2, g3, fun hij => ?_⟩
  obtain ⟨y, hy, hy2⟩ := h5 (by omega)
  obtain ⟨x, hx, hx2⟩ := g5 hij
  have hne : i' ≠ j' := fun e => by subst e; rw [hy] at hx; cases hx; exact hy2 hx2
  obtain ⟨s1, s2⟩ := swap_spec hy hx
  refine ⟨x, y, hx, hy, by omega, ⟨s1.trans h.perm, fun k hk => ?_, ?_, fun k z q1 q2 q3 => ?_, fun k z q1 q2 q3 => ?_, by omega, by omega, by omega, h.bn⟩⟩
  · rw [s2, if_neg (by omega), if_neg (by omega)]; exact h.out k hk
  · rw [s2, if_neg (by omega), if_neg (by omega)]; exact h.piv
  · rw [s2] at q3
    rw [if_neg (by omega)] at q3
    by_cases e : k = i'
    · rw [if_pos e] at q3; cases q3; exact hx2
    · rw [if_neg e] at q3; exact hlo k z q1 (by omega) q3
  · rw [s2] at q3
    by_cases e : k = j'
    · rw [if_pos e] at q3; cases q3; omega
    · rw [if_neg e, if_neg (by omega)] at q3; exact hhi k z (by omega) q2 q3
/-- The pivot is put in its place. -/
theorem Pt.last {d0 d : List Int} {a b i j : Nat} {v : Int} (h : Pt d0 a b v d i j) (hij : j < i) :
    ∃ x, d[j]? = some x ∧ ((d.set j v).set a x).Perm d0 ∧ (∀ k, k < a ∨ b ≤ k → ((d.set j v).set a x)[k]? = d0[k]?) ∧ ((d.set j v).set a x)[j]? = some v ∧ a ≤ j ∧ j < b ∧
      (∀ k z, a ≤ k → k < j → ((d.set j v).set a x)[k]? = some z → z < v) ∧ (∀ k z, j < k → k < b → ((d.set j v).set a x)[k]? = some z → v ≤ z) := by
  have hl := h.len
  have hai := h.ai
  have hij' := h.ij
  have hjb := h.jb
  have hbn := h.bn
  have hget : d[j]? = some d[j] := List.getElem?_eq_getElem (by omega)
  obtain ⟨s1, s2⟩ := swap_spec hget h.piv
  refine ⟨d[j], hget, s1.trans h.perm, fun k hk => ?_, ?_, by omega, by omega, fun k z q1 q2 q3 => ?_, fun k z q1 q2 q3 => ?_⟩
  · rw [s2, if_neg (by omega), if_neg (by omega)]; exact h.out k hk
  · rw [s2]
    by_cases e : j = a
    · rw [if_pos e, ← hget, e]; exact h.piv
    · rw [if_neg e, if_pos rfl]
  · rw [s2] at q3
    by_cases e : k = a
    · rw [if_pos e] at q3; cases q3
      exact h.lo j _ (by omega) (by omega) hget
    · rw [if_neg e, if_neg (by omega)] at q3
      exact h.lo k z (by omega) (by omega) q3
  · rw [s2, if_neg (by omega), if_neg (by omega)] at q3
    exact h.hi k z q1 q2 q3
end Go.EL
/- Sorting bytes: pivots, and the whole for up to 15 different ones. The conditions stand in each statement. -/
namespace Go.EL
open Go
/-- The insertion of one element into a sorted range, behind a prefix. -/
theorem innerZ {Z : List Int} {x : Int} {R : List Int} : ∀ (n : Nat) (A B : List Int), A.length = n → Z.length + A.length < 1000000000 → Sd (A ++ B) → (∀ b ∈ B, x < b) → (slices_insertionSortOrdered_uint8_L4 (Z.length : Int) (Z ++ A ++ x :: (B ++ R), ((Z.length + A.length : Nat) : Int))).wp fun d => ∃ S, d = Z ++ S ++ R ∧ S.Perm (x :: (A ++ B)) ∧ Sd S := by
  intro n
  induction n with
  | zero =>
    intro A B hn _ hs hB
    have : A = [] := List.eq_nil_of_length_eq_zero hn
    subst this
    refine Comp.loop_fold ?_
    show (if (Z.length : Int) < ((Z.length + 0 : Nat) : Int) then _ else _ : Comp _).wp _
    rw [Comp.wp_ite, if_neg (by omega)]
    exact ⟨x :: B, by simp, List.Perm.refl _, List.pairwise_cons.2 ⟨fun b hb => Int.le_of_lt (hB b hb), hs⟩⟩
  | succ n ih =>
    intro A B hn hlt hs hB
    obtain ⟨A', y, rfl⟩ : ∃ A' y, A = A' ++ [y] := by
      rcases List.eq_nil_or_concat A with rfl | ⟨A', y, rfl⟩
      · simp at hn
      · exact ⟨A', y, List.concat_eq_append⟩
    have hn' : A'.length = n := by simp at hn; exact hn
    have e0 : Z ++ (A' ++ [y]) ++ x :: (B ++ R) = (Z ++ A') ++ y :: x :: (B ++ R) := by simp
    have el : Z.length + (A' ++ [y]).length = (Z ++ A').length + 1 := by simp; omega
    have eZ : (Z ++ A').length = Z.length + A'.length := by simp
    rw [el] at hlt
    rw [e0, el]
    refine Comp.loop_fold ?_
    show (if (Z.length : Int) < (((Z ++ A').length + 1 : Nat) : Int) then _ else _ : Comp _).wp _
    rw [Comp.wp_ite, if_pos (by omega)]
    have w1 : IntKind.i64.wrap ((((Z ++ A').length + 1 : Nat) : Int) - 1) = ((Z ++ A').length : Int) := by rw [wrap64 (by omega)]; omega
    have g1 : (0 : Int) ≤ (((Z ++ A').length + 1 : Nat) : Int) ∧ ((Z ++ A') ++ y :: x :: (B ++ R))[(((Z ++ A').length + 1 : Nat) : Int).toNat]? = some x := ⟨by omega, by
      have := get_mid ((Z ++ A') ++ [y]) (B ++ R) x
      have e1 : (Z ++ A') ++ [y] ++ x :: (B ++ R) = (Z ++ A') ++ y :: x :: (B ++ R) := by simp
      have e2 : ((Z ++ A') ++ [y]).length = (Z ++ A').length + 1 := by simp; omega
      rw [e1, e2] at this
      exact this⟩
    have g2 : (0 : Int) ≤ ((Z ++ A').length : Int) ∧ ((Z ++ A') ++ y :: x :: (B ++ R))[((Z ++ A').length : Int).toNat]? = some y := ⟨by omega, get_mid (Z ++ A') _ y⟩
    rw [w1]
    refine ⟨x, g1, y, g2, _, Less_ret x y, ?_⟩
    rw [Comp.wp_ite]
    split
    · rename_i h
      have hxy : x < y := of_decide_eq_true h
      refine ⟨y, g2, x, g1, x, g1, y, ⟨by omega, ?_⟩, ?_⟩
      · rw [show (((Z ++ A').length + 1 : Nat) : Int).toNat = (Z ++ A').length + 1 by omega, show ((Z ++ A').length : Int).toNat = (Z ++ A').length by omega, List.getElem?_set_ne (by omega)]
        exact get_mid (Z ++ A') _ y
      · rw [show (((Z ++ A').length + 1 : Nat) : Int).toNat = (Z ++ A').length + 1 by omega, show ((Z ++ A').length : Int).toNat = (Z ++ A').length by omega, set_mid]
        have := ih A' (y :: B) hn' (by omega) (by simpa using hs) (fun b hb => by
          rcases List.mem_cons.1 hb with rfl | hb
          · exact hxy
          · exact hB b hb)
        rw [eZ]
        show (slices_insertionSortOrdered_uint8_L4 (Z.length : Int) (Z ++ A' ++ x :: y :: (B ++ R), ((Z.length + A'.length : Nat) : Int))).wp _
        refine Comp.mono _ (fun d hd => ?_) this
        obtain ⟨S, h1, h2, h3⟩ := hd
        exact ⟨S, h1, by simpa using h2, h3⟩
    · rename_i h
      have hxy : y ≤ x := by simp only [decide_eq_true_eq] at h; omega
      refine ⟨A' ++ y :: x :: B, by simp, ?_, ?_⟩
      · have : (A' ++ y :: x :: B).Perm (x :: (A' ++ y :: B)) := by
          have := @List.perm_middle _ x (A' ++ [y]) B
          simpa using this
        simpa using this
      · have hs' : Sd (A' ++ y :: B) := by simpa using hs
        obtain ⟨p1, p2, p3⟩ := List.pairwise_append.1 hs'
        obtain ⟨p4, p5⟩ := List.pairwise_cons.1 p2
        refine List.pairwise_append.2 ⟨p1, List.pairwise_cons.2 ⟨fun b hb => ?_, List.pairwise_cons.2 ⟨fun b hb => Int.le_of_lt (hB b hb), p5⟩⟩, fun a ha b hb => ?_⟩
        · rcases List.mem_cons.1 hb with rfl | hb
          · exact hxy
          · exact p4 b hb
        · rcases List.mem_cons.1 hb with rfl | hb
          · exact p3 a ha b (by simp)
          · rcases List.mem_cons.1 hb with rfl | hb
            · exact Int.le_trans (p3 a ha y (by simp)) hxy
            · exact p3 a ha b (by simp [hb])
theorem isortZ {Z l R : List Int} (hl : Z.length + l.length < 1000000000) : (slices_insertionSortOrdered_uint8 (Z ++ l ++ R) (Z.length : Int) ((Z.length + l.length : Nat) : Int)).Ret (Z ++ sortI l ++ R) := by
  show (Comp.loop _ _).wp _
  rw [wrap64 (by omega)]
  cases l with
  | nil =>
    refine Comp.loop_fold ?_
    show (if (Z.length : Int) + 1 < ((Z.length + 0 : Nat) : Int) then _ else _ : Comp _).wp _
    rw [Comp.wp_ite, if_neg (by omega)]
    show Z ++ [] ++ R = Z ++ sortI [] ++ R
    rw [← sortI_eq (List.Perm.refl []) List.Pairwise.nil]
  | cons x0 l' =>
    simp only [List.length_cons] at hl
    refine Comp.loop_idx l'.length (fun k s => ∃ S, s = (Z ++ S ++ ((x0 :: l').drop (k + 1) ++ R), ((Z.length + (k + 1) : Nat) : Int)) ∧ S.Perm ((x0 :: l').take (k + 1)) ∧ Sd S) (fun k s hk hs => ?_) (fun s hs => ?_) ⟨[x0], by simp, by simp, by simp⟩
    · obtain ⟨S, rfl, hp, hS⟩ := hs
      have hk' : k + 1 < (x0 :: l').length := by simp; omega
      have hSl : S.length = k + 1 := by rw [hp.length_eq]; simp; omega
      show (if ((Z.length + (k + 1) : Nat) : Int) < ((Z.length + (x0 :: l').length : Nat) : Int) then _ else _ : Comp _).wp _
      rw [Comp.wp_ite, if_pos (by omega)]
      have hd : (x0 :: l').drop (k + 1) = (x0 :: l')[k + 1] :: (x0 :: l').drop (k + 1 + 1) := List.drop_eq_getElem_cons hk'
      have := innerZ (Z := Z) (x := (x0 :: l')[k + 1]) (R := (x0 :: l').drop (k + 1 + 1) ++ R) S.length S [] rfl (by omega) (by simpa using hS) (by simp)
      rw [List.nil_append, ← List.cons_append, ← hd, hSl] at this
      refine Comp.wp_next.2 (Comp.mono _ (fun d ⟨S', h1, h2, h3⟩ => ?_) this)
      refine ⟨S', ?_, ?_, h3⟩
      · rw [h1, wrapN (by omega)]; rfl
      · rw [(List.take_append_getElem hk').symm]
        refine h2.trans ?_
        simp only [List.append_nil]
        exact (List.Perm.cons _ hp).trans (List.perm_append_singleton _ _).symm
    · obtain ⟨S, rfl, hp, hS⟩ := hs
      show (if ((Z.length + (l'.length + 1) : Nat) : Int) < ((Z.length + (x0 :: l').length : Nat) : Int) then _ else _ : Comp _).wp _
      rw [Comp.wp_ite, if_neg (by simp)]
      show Z ++ S ++ ((x0 :: l').drop (l'.length + 1) ++ R) = Z ++ sortI (x0 :: l') ++ R
      rw [List.drop_of_length_le (by simp), List.nil_append]
      rw [List.take_of_length_le (by simp)] at hp
      rw [sortI_eq hp hS]
/-- The loop of a partition. -/
theorem part_L2 {d0 : List Int} {a b : Nat} {v : Int} (hn : d0.length ≤ 1000000) : ∀ s, (∃ d i j, s = (d, ((i : Nat) : Int), ((j : Nat) : Int)) ∧ Pt d0 a b v d i j) →
    ∃ r, (slices_partitionOrdered_uint8_L2 (a : Int) s).Ret r ∧ ∃ d i j, r = (d, ((j : Nat) : Int)) ∧ Pt d0 a b v d i j ∧ j < i := by
  refine Comp.loop_det (fun s => ∃ d i j, s = (d, ((i : Nat) : Int), ((j : Nat) : Int)) ∧ Pt d0 a b v d i j) (fun s => (s.2.2 + 1 - s.2.1).toNat) (fun s hs => ?_)
  obtain ⟨d, i, j, rfl, h⟩ := hs
  obtain ⟨i', j', h1, h2, h3, h4, h5, h6⟩ := h.pass hn
  have hb := h.jb
  have hbn := h.bn
  by_cases hc : j' < i'
  · refine ⟨.inr (d, (j' : Int)), ?_, .inr ⟨_, rfl, d, i', j', rfl, h3, hc⟩⟩
    refine Comp.wp_next.2 (Comp.Ret.then (a := (i' : Int)) h1 (Comp.wp_next.2 (Comp.Ret.then (a := (j' : Int)) h2 ?_)))
    show (if (j' : Int) < (i' : Int) then _ else _ : Comp _).wp _
    rw [Comp.wp_ite, if_pos (by omega)]
    rfl
  · obtain ⟨x, y, hx, hy, hlt, hp⟩ := h6 (by omega)
    have e1 : IntKind.i64.wrap ((j' : Int) - 1) = ((j' - 1 : Nat) : Int) := by rw [wrap64 (by omega)]; omega
    have e2 : IntKind.i64.wrap ((i' : Int) + 1) = ((i' + 1 : Nat) : Int) := wrapN (by omega)
    refine ⟨.inl ((d.set i' x).set j' y, ((i' + 1 : Nat) : Int), ((j' - 1 : Nat) : Int)), ?_, .inl ⟨_, rfl, ⟨_, _, _, rfl, hp⟩, ?_⟩⟩
    · refine Comp.wp_next.2 (Comp.Ret.then (a := (i' : Int)) h1 (Comp.wp_next.2 (Comp.Ret.then (a := (j' : Int)) h2 ?_)))
      show (if (j' : Int) < (i' : Int) then _ else _ : Comp _).wp _
      rw [Comp.wp_ite, if_neg (by omega)]
      have hl : (d.set i' x).length = d.length := by simp
      have hj : j' < d.length := by have := h.len; omega
      refine ⟨x, at_nat hx, y, at_nat hy, y, at_nat hy, (d.set i' x)[j']'(by omega), ⟨by omega, ?_⟩, ?_⟩
      · exact List.getElem?_eq_getElem (l := d.set i' x) (i := j') (by omega)
      · show _ = _
        rw [e1, e2]
        rfl
    · have h31 := h3.ij
      show (((j' - 1 : Nat) : Int) + 1 - ((i' + 1 : Nat) : Int)).toNat < ((j : Int) + 1 - (i : Int)).toNat
      omega
theorem part_ret {d0 : List Int} {a b p : Nat} {v : Int} (hp : d0[p]? = some v) (hap : a ≤ p) (hpb : p < b) (hab : a + 1 < b) (hbn : b ≤ d0.length) (hn : d0.length ≤ 1000000) :
    ∃ (j : Nat) (fl : Bool) (d : List Int), (slices_partitionOrdered_uint8 d0 (a : Int) (b : Int) (p : Int)).Ret ((j : Int), fl, d) ∧ d.Perm d0 ∧ (∀ k, k < a ∨ b ≤ k → d[k]? = d0[k]?) ∧ d[j]? = some v ∧ a ≤ j ∧ j < b ∧
      (∀ k z, a ≤ k → k < j → d[k]? = some z → z < v) ∧ (∀ k z, j < k → k < b → d[k]? = some z → v ≤ z) := by
  have hga : d0[a]? = some d0[a] := List.getElem?_eq_getElem (by omega)
  obtain ⟨s1, s2⟩ := swap_spec hga hp
  have hP : Pt d0 a b v ((d0.set a v).set p d0[a]) (a + 1) (b - 1) := by
    refine ⟨s1, fun k hk => ?_, ?_, fun k x q1 q2 => by omega, fun k x q1 q2 => by omega, by omega, by omega, by omega, hbn⟩
    · rw [s2, if_neg (by omega), if_neg (by omega)]
    · rw [s2]
      by_cases e : a = p
      · subst e; rw [if_pos rfl, ← hga]; exact hp
      · rw [if_neg e, if_pos rfl]
  obtain ⟨i', j', h1, h2, h3, h4, h5, h6⟩ := hP.pass hn
  have hl := hP.len
  have eb : IntKind.i64.wrap ((b : Int) - 1) = ((b - 1 : Nat) : Int) := by rw [wrap64 (by omega)]; omega
  have ea : IntKind.i64.wrap ((a : Int) + 1) = ((a + 1 : Nat) : Int) := wrapN (by omega)
  have pre : ∀ r, (slices_partitionOrdered_uint8_k7 d0 (a : Int) (p : Int) v d0[a] (i' : Int) (j' : Int)).Ret r → (slices_partitionOrdered_uint8 d0 (a : Int) (b : Int) (p : Int)).Ret r := fun r hr => by
    refine ⟨v, at_nat hp, d0[a], at_nat hga, d0[a], at_nat hga, (d0.set a v)[p]'(by simp; omega), ⟨by omega, List.getElem?_eq_getElem (l := d0.set a v) (i := p) (by simp; omega)⟩, ?_⟩
    refine Comp.wp_next.2 ?_
    rw [ea]
    refine Comp.Ret.then (a := (i' : Int)) ?_ ?_
    · show (scanUp ((d0.set a v).set p d0[a]) a (IntKind.i64.wrap ((b : Int) - 1)) ((a + 1 : Nat) : Int)).Ret _
      rw [eb]; exact h1
    · refine Comp.wp_next.2 ?_
      rw [eb]
      exact Comp.Ret.then (a := (j' : Int)) h2 hr
  by_cases hc : j' < i'
  · obtain ⟨x, q1, q2, q3, q4, q5, q6, q7, q8⟩ := h3.last hc
    refine ⟨j', true, _, pre _ ?_, q2, q3, q4, q5, q6, q7, q8⟩
    show (if (j' : Int) < (i' : Int) then _ else _ : Comp _).wp _
    rw [Comp.wp_ite, if_pos (by omega)]
    exact ⟨v, at_nat h3.piv, x, at_nat q1, x, at_nat q1, (((d0.set a v).set p d0[a]).set j' v)[a]'(by simp; omega), ⟨by omega, List.getElem?_eq_getElem (l := ((d0.set a v).set p d0[a]).set j' v) (i := a) (by simp; omega)⟩, rfl⟩
  · obtain ⟨x, y, hx, hy, hlt, hPt⟩ := h6 (by omega)
    have e1 : IntKind.i64.wrap ((j' : Int) - 1) = ((j' - 1 : Nat) : Int) := by rw [wrap64 (by omega)]; omega
    have e2 : IntKind.i64.wrap ((i' : Int) + 1) = ((i' + 1 : Nat) : Int) := wrapN (by omega)
    obtain ⟨r, g1, d, i2, j2, rfl, g2, g3⟩ := part_L2 (a := a) (b := b) (v := v) hn _ ⟨_, _, _, rfl, hPt⟩
    obtain ⟨x2, q1, q2, q3, q4, q5, q6, q7, q8⟩ := g2.last g3
    refine ⟨j2, false, _, pre _ ?_, q2, q3, q4, q5, q6, q7, q8⟩
    show (if (j' : Int) < (i' : Int) then _ else _ : Comp _).wp _
    rw [Comp.wp_ite, if_neg (by omega)]
    refine ⟨x, at_nat hx, y, at_nat hy, y, at_nat hy, (((d0.set a v).set p d0[a]).set i' x)[j']'(by simp; omega), ⟨by omega, List.getElem?_eq_getElem (l := ((d0.set a v).set p d0[a]).set i' x) (i := j') (by simp; omega)⟩, Comp.wp_next.2 ?_⟩
    rw [e1, e2]
    refine g1.then ?_
    have hl2 := g2.len
    exact ⟨v, at_nat g2.piv, x2, at_nat q1, x2, at_nat q1, (d.set j2 v)[a]'(by simp; omega), ⟨by omega, List.getElem?_eq_getElem (l := d.set j2 v) (i := a) (by simp; omega)⟩, rfl⟩
end Go.EL
/- Sorting bytes: the whole, for up to 15 different ones. The conditions stand in each statement. -/
namespace Go.EL
open Go
theorem order2_ret {d : List Int} {a b : Nat} {x y s : Int} (ha : d[a]? = some x) (hb : d[b]? = some y) (hs : 0 ≤ s ∧ s ≤ 100) :
    (slices_order2Ordered_uint8 d (a : Int) (b : Int) s).Ret (if y < x then ((b : Int), (a : Int), s + 1) else ((a : Int), (b : Int), s)) := by
  refine ⟨y, at_nat hb, x, at_nat ha, _, Less_ret _ _, ?_⟩
  rw [Comp.wp_ite]
  by_cases h : y < x
  · rw [if_pos (decide_eq_true h), if_pos h]
    show _ = _
    rw [wrap64 (by omega)]
  · rw [if_neg (by simp [h]), if_neg h]; rfl
/-- Of three different elements, one is neither the least nor the greatest. -/
theorem median_ret {d : List Int} {a b c : Nat} {x y z : Int} (ha : d[a]? = some x) (hb : d[b]? = some y) (hc : d[c]? = some z) (h1 : x ≠ y) (h2 : y ≠ z) (h3 : x ≠ z) :
    ∃ (m : Nat) (s : Int), (slices_medianOrdered_uint8 d (a : Int) (b : Int) (c : Int) 0).Ret ((m : Int), s) ∧ (0 ≤ s ∧ s ≤ 3) ∧ (m = a ∨ m = b ∨ m = c) ∧ ∃ v, d[m]? = some v ∧ (∃ k u, (k = a ∨ k = b ∨ k = c) ∧ d[k]? = some u ∧ u < v) ∧ ∃ k u, (k = a ∨ k = b ∨ k = c) ∧ d[k]? = some u ∧ v < u := by
  have o1 := order2_ret (s := 0) ha hb (by omega)
  by_cases c1 : y < x
  · rw [if_pos c1] at o1
    have o2 := order2_ret (s := 1) ha hc (by omega)
    by_cases c2 : z < x
    · rw [if_pos c2] at o2
      have o3 := order2_ret (s := 2) hb hc (by omega)
      by_cases c3 : z < y
      · rw [if_pos c3] at o3
        exact ⟨b, 3, ⟨_, o1, _, o2, _, o3, rfl⟩, by omega, .inr (.inl rfl), y, hb, ⟨c, z, by simp, hc, c3⟩, ⟨a, x, by simp, ha, c1⟩⟩
      · rw [if_neg c3] at o3
        exact ⟨c, 2, ⟨_, o1, _, o2, _, o3, rfl⟩, by omega, .inr (.inr rfl), z, hc, ⟨b, y, by simp, hb, by omega⟩, ⟨a, x, by simp, ha, c2⟩⟩
    · rw [if_neg c2] at o2
      have o3 := order2_ret (s := 1) hb ha (by omega)
      rw [if_neg (by omega)] at o3
      exact ⟨a, 1, ⟨_, o1, _, o2, _, o3, rfl⟩, by omega, .inl rfl, x, ha, ⟨b, y, by simp, hb, c1⟩, ⟨c, z, by simp, hc, by omega⟩⟩
  · rw [if_neg c1] at o1
    have o2 := order2_ret (s := 0) hb hc (by omega)
    by_cases c2 : z < y
    · rw [if_pos c2] at o2
      have o3 := order2_ret (s := 1) ha hc (by omega)
      by_cases c3 : z < x
      · rw [if_pos c3] at o3
        exact ⟨a, 2, ⟨_, o1, _, o2, _, o3, rfl⟩, by omega, .inl rfl, x, ha, ⟨c, z, by simp, hc, c3⟩, ⟨b, y, by simp, hb, by omega⟩⟩
      · rw [if_neg c3] at o3
        exact ⟨c, 1, ⟨_, o1, _, o2, _, o3, rfl⟩, by omega, .inr (.inr rfl), z, hc, ⟨a, x, by simp, ha, by omega⟩, ⟨b, y, by simp, hb, c2⟩⟩
    · rw [if_neg c2] at o2
      have o3 := order2_ret (s := 0) ha hb (by omega)
      rw [if_neg c1] at o3
      exact ⟨b, 0, ⟨_, o1, _, o2, _, o3, rfl⟩, by omega, .inr (.inl rfl), y, hb, ⟨a, x, by simp, ha, by omega⟩, ⟨c, z, by simp, hc, by omega⟩⟩
theorem nodup_at {d : List Int} (hn : d.Nodup) {i j : Nat} {x y : Int} (hi : d[i]? = some x) (hj : d[j]? = some y) (hij : i ≠ j) : x ≠ y := fun e => by
  subst e
  obtain ⟨h1, _⟩ := List.getElem?_eq_some_iff.1 hi
  exact hij ((List.getElem?_inj h1 hn).1 (by rw [hi, hj]))
theorem choose_ret {d : List Int} {a b A1 A2 A3 q n m s : Int} (w0 : IntKind.i64.wrap (b - a) = n) (w1 : IntKind.i64.wrap (Int.tdiv n 4) = q) (i1 : IntKind.i64.wrap (a + IntKind.i64.wrap (q * 1)) = A1) (i2 : IntKind.i64.wrap (a + IntKind.i64.wrap (q * 2)) = A2) (i3 : IntKind.i64.wrap (a + IntKind.i64.wrap (q * 3)) = A3)
    (h8 : 8 ≤ n) (h50 : n < 50) (hm : (slices_medianOrdered_uint8 d A1 A2 A3 0).Ret (m, s)) (hs : 0 ≤ s ∧ s ≤ 3) : (slices_choosePivotOrdered_uint8 d a b).Ret (m, if s = 0 then 1 else 0) := by
  unfold slices_choosePivotOrdered_uint8
  simp only [w0, w1, i1, i2, i3]
  rw [if_pos h8, if_neg (by omega)]
  refine ⟨_, hm, ?_⟩
  rw [Comp.wp_ite]
  by_cases e : s = 0
  · rw [if_pos e, if_pos e]; rfl
  · rw [if_neg e, if_neg e, Comp.wp_ite, if_neg (by show ¬ s = 12; omega)]; rfl
/-- The pivot of a range. -/
theorem pivot_ret {d : List Int} {a b : Nat} (hn : d.Nodup) (hb : b ≤ d.length) (h1 : a + 12 < b) (h2 : b < a + 50) (hl : d.length ≤ 1000) :
    ∃ (p : Nat) (hint : Int), (slices_choosePivotOrdered_uint8 d (a : Int) (b : Int)).Ret ((p : Int), hint) ∧ ¬ hint = 2 ∧ a ≤ p ∧ p < b ∧ ∃ v, d[p]? = some v ∧ (∃ k u, a ≤ k ∧ k < b ∧ d[k]? = some u ∧ u < v) ∧ ∃ k u, a ≤ k ∧ k < b ∧ d[k]? = some u ∧ v < u := by
  obtain ⟨q, hq⟩ : ∃ q : Nat, q = (b - a) / 4 := ⟨_, rfl⟩
  have w0 : IntKind.i64.wrap ((b : Int) - (a : Int)) = ((b - a : Nat) : Int) := by rw [wrap64 (by omega)]; omega
  have w1 : IntKind.i64.wrap (Int.tdiv ((b - a : Nat) : Int) 4) = (q : Int) := by
    rw [Int.tdiv_eq_ediv_of_nonneg (by omega), wrap64 (by omega)]; omega
  have i1 : IntKind.i64.wrap ((a : Int) + IntKind.i64.wrap ((q : Int) * 1)) = ((a + q : Nat) : Int) := by rw [wrap64 (x := (q : Int) * 1) (by omega), wrap64 (by omega)]; omega
  have i2 : IntKind.i64.wrap ((a : Int) + IntKind.i64.wrap ((q : Int) * 2)) = ((a + q * 2 : Nat) : Int) := by rw [wrap64 (x := (q : Int) * 2) (by omega), wrap64 (by omega)]; omega
  have i3 : IntKind.i64.wrap ((a : Int) + IntKind.i64.wrap ((q : Int) * 3)) = ((a + q * 3 : Nat) : Int) := by rw [wrap64 (x := (q : Int) * 3) (by omega), wrap64 (by omega)]; omega
  have g1 : d[a + q]? = some d[a + q] := List.getElem?_eq_getElem (by omega)
  have g2 : d[a + q * 2]? = some d[a + q * 2] := List.getElem?_eq_getElem (by omega)
  have g3 : d[a + q * 3]? = some d[a + q * 3] := List.getElem?_eq_getElem (by omega)
  have bd : ∀ k, (k = a + q ∨ k = a + q * 2 ∨ k = a + q * 3) → a ≤ k ∧ k < b := fun k h => by omega
  have n1 : a + q ≠ a + q * 2 := by omega
  have n2 : a + q * 2 ≠ a + q * 3 := by omega
  have n3 : a + q ≠ a + q * 3 := by omega
  have b8 : (8 : Int) ≤ ((b - a : Nat) : Int) := by omega
  have b50 : ((b - a : Nat) : Int) < 50 := by omega
  obtain ⟨m, s, hm, hs, hmem, v, hv, ⟨k1, u1, hk1, hu1, hlt1⟩, ⟨k2, u2, hk2, hu2, hlt2⟩⟩ := median_ret g1 g2 g3 (nodup_at hn g1 g2 n1) (nodup_at hn g2 g3 n2) (nodup_at hn g1 g3 n3)
  refine ⟨m, if s = 0 then 1 else 0, choose_ret w0 w1 i1 i2 i3 b8 b50 hm hs, by split <;> simp, (bd m hmem).1, (bd m hmem).2, v, hv, ⟨k1, u1, (bd k1 hk1).1, (bd k1 hk1).2, hu1, hlt1⟩, ⟨k2, u2, (bd k2 hk2).1, (bd k2 hk2).2, hu2, hlt2⟩⟩
/-- A range that is seen to be sorted, or nothing. -/
theorem partial_ret {d : List Int} {a b : Nat} (hb : b ≤ d.length) (h1 : a + 1 ≤ b) (h2 : b < a + 50) (hl : d.length ≤ 1000) :
    ∃ fl, (slices_partialInsertionSortOrdered_uint8 d (a : Int) (b : Int)).Ret (fl, d) ∧ (fl = true → ∀ k x y, a ≤ k → k + 1 < b → d[k]? = some x → d[k + 1]? = some y → x ≤ y) := by
  have w0 : IntKind.i64.wrap ((b : Int) - (a : Int)) = ((b - a : Nat) : Int) := by rw [wrap64 (by omega)]; omega
  have wa : IntKind.i64.wrap ((a : Int) + 1) = ((a + 1 : Nat) : Int) := wrapN (by omega)
  -- the scan
  obtain ⟨r, h3, r', rfl, h4, h5, h6⟩ := Comp.loop_det (step := fun v7 : Int => if v7 < (b : Int) then (Comp.at' d v7 fun x17 => Comp.at' d (IntKind.i64.wrap (v7 - 1)) fun x18 => Comp.bind (cmp_Less_uint8 x17 x18) fun yv3 => if (!yv3) = true then (Comp.ret (.inl (IntKind.i64.wrap (v7 + 1)))) else (Comp.ret (.inr v7))) else (Comp.ret (.inr v7)))
    (Φ := fun z : Int => ∃ r : Nat, z = (r : Int) ∧ a + 1 ≤ r ∧ r ≤ b ∧ (∀ k x y, a ≤ k → k + 1 < r → d[k]? = some x → d[k + 1]? = some y → x ≤ y))
    (fun z => ∃ r : Nat, z = (r : Int) ∧ a + 1 ≤ r ∧ r ≤ b ∧ (∀ k x y, a ≤ k → k + 1 < r → d[k]? = some x → d[k + 1]? = some y → x ≤ y)) (fun z => ((b : Int) - z).toNat) (fun s hs => by
    obtain ⟨r, rfl, g1, g2, g3⟩ := hs
    by_cases hr : r < b
    · have hget : d[r]? = some d[r] := List.getElem?_eq_getElem (by omega)
      have hget' : d[r - 1]? = some d[r - 1] := List.getElem?_eq_getElem (by omega)
      have e1 : IntKind.i64.wrap ((r : Int) - 1) = ((r - 1 : Nat) : Int) := by rw [wrap64 (by omega)]; omega
      by_cases hlt : d[r] < d[r - 1]
      · refine ⟨.inr (r : Int), ?_, .inr ⟨_, rfl, r, rfl, g1, g2, g3⟩⟩
        show (if (r : Int) < (b : Int) then _ else _ : Comp _).wp _
        rw [Comp.wp_ite, if_pos (by omega), e1]
        refine ⟨d[r], at_nat hget, d[r - 1], at_nat hget', _, Less_ret _ _, ?_⟩
        rw [Comp.wp_ite, if_neg (by simp [hlt])]
        rfl
      · refine ⟨.inl (IntKind.i64.wrap ((r : Int) + 1)), ?_, .inl ⟨_, rfl, ⟨r + 1, wrapN (by omega), by omega, by omega, fun k x y h4 h5 h6 h7 => ?_⟩, ?_⟩⟩
        · show (if (r : Int) < (b : Int) then _ else _ : Comp _).wp _
          rw [Comp.wp_ite, if_pos (by omega), e1]
          refine ⟨d[r], at_nat hget, d[r - 1], at_nat hget', _, Less_ret _ _, ?_⟩
          rw [Comp.wp_ite, if_pos (by simp [hlt])]
          rfl
        · by_cases e : k + 1 = r
          · subst e
            rw [hget] at h7
            have h8 : d[k + 1 - 1]? = some x := h6
            rw [hget'] at h8
            cases h7; cases h8
            omega
          · exact g3 k x y h4 (by omega) h6 h7
        · rw [wrapN (by omega)]; omega
    · refine ⟨.inr (r : Int), ?_, .inr ⟨_, rfl, r, rfl, g1, g2, g3⟩⟩
      show (if (r : Int) < (b : Int) then _ else _ : Comp _).wp _
      rw [Comp.wp_ite, if_neg (by omega)]
      rfl) ((a + 1 : Nat) : Int) ⟨a + 1, rfl, Nat.le_refl _, by omega, fun k x y h4 h5 => by omega⟩
  refine ⟨decide (r' = b), ?_, fun hfl => by rw [of_decide_eq_true hfl] at h6; exact h6⟩
  refine Comp.wp_next.2 (Comp.loop_fold ?_)
  rw [wa]
  show (if (0 : Int) < 5 then _ else _ : Comp _).wp _
  rw [Comp.wp_ite, if_pos (by omega)]
  refine Comp.wp_next.2 (Comp.Ret.then (a := (r' : Int)) h3 ?_)
  show (if (r' : Int) = (b : Int) then _ else _ : Comp _).wp _
  rw [Comp.wp_ite]
  by_cases e : r' = b
  · rw [if_pos (by omega)]
    show _ = _
    rw [decide_eq_true e]
  · rw [if_neg (by omega), w0, Comp.wp_ite, if_pos (by omega)]
    show _ = _
    rw [decide_eq_false e]
/-- What is turned inside a range only. -/
theorem seg {A X C d : List Int} (hp : d.Perm (A ++ X ++ C)) (ho : ∀ k, k < A.length ∨ A.length + X.length ≤ k → d[k]? = (A ++ X ++ C)[k]?) : ∃ Y, d = A ++ Y ++ C ∧ Y.Perm X := by
  have hl := hp.length_eq
  simp only [List.length_append] at hl
  have h1 : d.take A.length = A := by
    apply List.ext_getElem?
    intro k
    by_cases hk : k < A.length
    · rw [List.getElem?_take_of_lt hk, ho k (.inl hk), List.append_assoc, List.getElem?_append_left hk]
    · rw [List.getElem?_eq_none (by simp; omega), List.getElem?_eq_none (by omega)]
  have h2 : d.drop (A.length + X.length) = C := by
    apply List.ext_getElem?
    intro k
    rw [List.getElem?_drop, ho _ (.inr (by omega)), List.getElem?_append_right (by simp)]
    congr 1
    simp
  have h3 : d = A ++ (d.drop A.length).take X.length ++ C := by
    conv => lhs; rw [← List.take_append_drop A.length d, ← List.take_append_drop X.length (d.drop A.length), List.drop_drop, h1, h2]
    simp
  refine ⟨_, h3, ?_⟩
  rw [h3] at hp
  have := (List.perm_append_right_iff C).1 hp
  exact (List.perm_append_left_iff A).1 this
theorem sortI_split {L R X : List Int} {v : Int} (hp : (L ++ v :: R).Perm X) (hL : ∀ x ∈ L, x < v) (hR : ∀ x ∈ R, v ≤ x) : sortI X = sortI L ++ v :: sortI R := by
  refine (sortI_eq ?_ ?_).symm
  · exact (((sortI_perm L).append ((sortI_perm R).cons v))).trans hp
  · refine List.pairwise_append.2 ⟨sortI_sd L, List.pairwise_cons.2 ⟨fun x hx => hR x ((sortI_perm R).mem_iff.1 hx), sortI_sd R⟩, fun x hx y hy => ?_⟩
    have h1 := hL x ((sortI_perm L).mem_iff.1 hx)
    rcases List.mem_cons.1 hy with rfl | hy
    · omega
    · have := hR y ((sortI_perm R).mem_iff.1 hy); omega
theorem sortI_id {X : List Int} (h : Sd X) : sortI X = X := (sortI_eq (List.Perm.refl X) h).symm
theorem pdq0_ret {Z l R : List Int} {lim : Int} (hl : l.length ≤ 12) (hZ : Z.length ≤ 1000) : (slices_pdqsortOrdered_uint8 (Z ++ l ++ R) (Z.length : Int) ((Z.length + l.length : Nat) : Int) lim).Ret (Z ++ sortI l ++ R) := by
  refine Comp.wp_next.2 (Comp.loop_fold ?_)
  show (if IntKind.i64.wrap (((Z.length + l.length : Nat) : Int) - (Z.length : Int)) ≤ 12 then _ else _ : Comp _).wp _
  rw [Comp.wp_ite, wrap64 (by omega), if_pos (by omega)]
  exact ⟨_, isortZ (by omega), rfl⟩
theorem sorted_of_adj {A X C : List Int} (h : ∀ k x y, A.length ≤ k → k + 1 < A.length + X.length → (A ++ X ++ C)[k]? = some x → (A ++ X ++ C)[k + 1]? = some y → x ≤ y) : Sd X := by
  have h' : ∀ k (hk : k + 1 < X.length), X[k] ≤ X[k + 1] := fun k hk => by
    refine h (A.length + k) X[k] X[k + 1] (by omega) (by omega) ?_ ?_
    · rw [List.append_assoc, List.getElem?_append_right (by omega), List.getElem?_append_left (by omega)]
      simp
    · rw [List.append_assoc, List.getElem?_append_right (by omega), List.getElem?_append_left (by omega)]
      have : A.length + k + 1 - A.length = k + 1 := by omega
      rw [this]; simp
  have key : ∀ n i (hi : i + n < X.length), X[i] ≤ X[i + n] := by
    intro n
    induction n with
    | zero => intro i hi; exact Int.le_refl _
    | succ n ih => intro i hi; exact Int.le_trans (ih i (by omega)) (h' (i + n) (by omega))
  refine List.pairwise_iff_getElem.2 fun i j hi hj hij => ?_
  have := key (j - i) i (by omega)
  simpa [show i + (j - i) = j by omega] using this
end Go.EL
/- Sorting bytes: pdqsort of up to 15 different ones. The conditions stand in each statement. -/
namespace Go.EL
open Go
/-- A partition, and the shorter side sorted. -/
def contP (a b lim : Int) (d : List Int) (p : Int) : Comp (((List Int) × Int × Int × Int × Bool × Bool) ⊕ (List Int)) :=
  Comp.bind (slices_partitionOrdered_uint8 d a b p) fun yv6 => if (IntKind.i64.wrap (yv6.1 - a)) < (IntKind.i64.wrap (b - yv6.1)) then (Comp.bind (slices_pdqsortOrdered_uint8 yv6.2.2 a yv6.1 lim) fun yv7 => Comp.ret (.inl (yv7, IntKind.i64.wrap (yv6.1 + 1), b, lim, decide ((IntKind.i64.wrap (Int.tdiv (IntKind.i64.wrap (b - a)) 8)) ≤ (IntKind.i64.wrap (yv6.1 - a))), yv6.2.1))) else (Comp.bind (slices_pdqsortOrdered_uint8 yv6.2.2 (IntKind.i64.wrap (yv6.1 + 1)) b lim) fun yv8 => Comp.ret (.inl (yv8, a, yv6.1, lim, decide ((IntKind.i64.wrap (Int.tdiv (IntKind.i64.wrap (b - a)) 8)) ≤ (IntKind.i64.wrap (b - yv6.1))), yv6.2.1)))
/-- A partition in terms of lists. -/
theorem part_seg {A X C : List Int} {p : Nat} {v : Int} (hp : (A ++ X ++ C)[p]? = some v) (hap : A.length ≤ p) (hpb : p < A.length + X.length) (hX : 12 < X.length) (hn : (A ++ X ++ C).length ≤ 1000000) :
    ∃ (L R : List Int) (fl : Bool), (slices_partitionOrdered_uint8 (A ++ X ++ C) (A.length : Int) ((A.length + X.length : Nat) : Int) (p : Int)).Ret (((A.length + L.length : Nat) : Int), fl, A ++ (L ++ v :: R) ++ C) ∧ (L ++ v :: R).Perm X ∧ (∀ x ∈ L, x < v) ∧ ∀ x ∈ R, v ≤ x := by
  obtain ⟨j, fl, d, h1, h2, h3, h4, h5, h6, h7, h8⟩ := part_ret (a := A.length) (b := A.length + X.length) hp hap hpb (by omega) (by simp) hn
  obtain ⟨Y, rfl, hY⟩ := seg h2 h3
  have hl := hY.length_eq
  have hlt : j - A.length < Y.length := by omega
  have hget : ∀ k, k < Y.length → (A ++ Y ++ C)[A.length + k]? = Y[k]? := fun k hk => by
    rw [List.append_assoc, List.getElem?_append_right (by omega), List.getElem?_append_left (by omega)]
    congr 1; omega
  have hv : Y[j - A.length]? = some v := by
    rw [← hget _ hlt, ← h4]; congr 1; omega
  have hsplit : Y = Y.take (j - A.length) ++ v :: Y.drop (j - A.length + 1) := by
    obtain ⟨_, e⟩ := List.getElem?_eq_some_iff.1 hv
    rw [← e, ← List.drop_eq_getElem_cons hlt, List.take_append_drop]
  have hLl : (Y.take (j - A.length)).length = j - A.length := by simp; omega
  refine ⟨Y.take (j - A.length), Y.drop (j - A.length + 1), fl, ?_, by rw [← hsplit]; exact hY, fun x hx => ?_, fun x hx => ?_⟩
  · rw [← hsplit, hLl, show A.length + (j - A.length) = j by omega]; exact h1
  · obtain ⟨k, hk, rfl⟩ := List.mem_iff_getElem.1 hx
    have hk' : k < j - A.length := by omega
    refine h7 (A.length + k) _ (by omega) (by omega) ?_
    rw [hget k (by omega), List.getElem_take]
    exact List.getElem?_eq_getElem (by omega)
  · obtain ⟨k, hk, rfl⟩ := List.mem_iff_getElem.1 hx
    have hk' : j - A.length + 1 + k < Y.length := by simp at hk; omega
    refine h8 (A.length + (j - A.length + 1 + k)) _ (by omega) (by omega) ?_
    rw [hget _ hk', List.getElem_drop]
    exact List.getElem?_eq_getElem (by omega)
/-- What stays true between two rounds. -/
def PdI (l : List Int) (lim : Int) (s : (List Int) × Int × Int × Int × Bool × Bool) : Prop :=
  ∃ A X C wp, s = (A ++ X ++ C, (A.length : Int), ((A.length + X.length : Nat) : Int), lim, true, wp) ∧ (A ++ X ++ C).Perm l ∧ A ++ sortI X ++ C = sortI l
theorem contP_wp {l A X C : List Int} {lim : Int} (hl : l.length ≤ 15) (hX : 12 < X.length) (hp : (A ++ X ++ C).Perm l) (hs : A ++ sortI X ++ C = sortI l) {p : Nat} {v : Int} (hv : (A ++ X ++ C)[p]? = some v) (hap : A.length ≤ p) (hpb : p < A.length + X.length)
    (hlo : ∃ u ∈ X, u < v) (hhi : ∃ u ∈ X, v < u) {Φ : List Int → Prop} :
    (contP (A.length : Int) ((A.length + X.length : Nat) : Int) lim (A ++ X ++ C) (p : Int)).wp (Out (fun s' => PdI l lim s' ∧ (s'.2.2.1 - s'.2.1).toNat < X.length) Φ) := by
  have hlen := hp.length_eq
  simp only [List.length_append] at hlen
  obtain ⟨L, R, fl, h1, h2, h3, h4⟩ := part_seg (A := A) (X := X) (C := C) hv hap hpb hX (by simp; omega)
  have hXl := h2.length_eq
  simp only [List.length_append, List.length_cons] at hXl
  have hL1 : 0 < L.length := by
    obtain ⟨u, hu, hlt⟩ := hlo
    rcases List.mem_append.1 (h2.mem_iff.2 hu) with h | h
    · exact List.length_pos_of_mem h
    · rcases List.mem_cons.1 h with rfl | h
      · omega
      · have := h4 u h; omega
  have hR1 : 0 < R.length := by
    obtain ⟨u, hu, hlt⟩ := hhi
    rcases List.mem_append.1 (h2.mem_iff.2 hu) with h | h
    · have := h3 u h; omega
    · rcases List.mem_cons.1 h with rfl | h
      · omega
      · exact List.length_pos_of_mem h
  have hsplit := sortI_split h2 h3 h4
  have w1 : IntKind.i64.wrap (((A.length + L.length : Nat) : Int) - (A.length : Int)) = (L.length : Int) := by rw [wrap64 (by omega)]; omega
  have w2 : IntKind.i64.wrap (((A.length + X.length : Nat) : Int) - ((A.length + L.length : Nat) : Int)) = ((R.length + 1 : Nat) : Int) := by rw [wrap64 (by omega)]; omega
  have w3 : IntKind.i64.wrap (((A.length + X.length : Nat) : Int) - (A.length : Int)) = (X.length : Int) := by rw [wrap64 (by omega)]; omega
  have w4 : IntKind.i64.wrap (Int.tdiv (X.length : Int) 8) = 1 := by rw [Int.tdiv_eq_ediv_of_nonneg (by omega), wrap64 (by omega)]; omega
  have w5 : IntKind.i64.wrap (((A.length + L.length : Nat) : Int) + 1) = ((A.length + L.length + 1 : Nat) : Int) := wrapN (by omega)
  refine ⟨_, h1, ?_⟩
  show (if IntKind.i64.wrap (((A.length + L.length : Nat) : Int) - (A.length : Int)) < IntKind.i64.wrap (((A.length + X.length : Nat) : Int) - ((A.length + L.length : Nat) : Int)) then _ else _ : Comp _).wp _
  rw [Comp.wp_ite]
  simp only [w1, w2, w3, w4, w5]
  split
  · rename_i hc
    have hq := pdq0_ret (Z := A) (l := L) (R := v :: R ++ C) (lim := lim) (by omega) (by omega)
    have e1 : A ++ (L ++ v :: R) ++ C = A ++ L ++ (v :: R ++ C) := by simp
    rw [e1]
    refine ⟨_, hq, ?_⟩
    refine ⟨⟨A ++ sortI L ++ [v], R, C, fl, ?_, ?_, ?_⟩, ?_⟩
    · have e2 : (sortI L).length = L.length := (sortI_perm L).length_eq
      simp only [List.length_append, e2, List.length_cons, List.length_nil, decide_eq_true (show (1 : Int) ≤ (L.length : Int) by omega)]
      have e3 : A ++ sortI L ++ [v] ++ R ++ C = A ++ sortI L ++ (v :: R ++ C) := by simp
      have e4 : A.length + X.length = A.length + L.length + 1 + R.length := by omega
      rw [e3, e4]
    · have : (A ++ sortI L ++ [v] ++ R ++ C).Perm (A ++ (L ++ v :: R) ++ C) := by
        have q : (sortI L ++ v :: R).Perm (L ++ v :: R) := (sortI_perm L).append_right _
        have := (q.append_left A).append_right C
        simpa using this
      exact this.trans (((h2.append_left A).append_right C).trans hp)
    · rw [← hs, hsplit]; simp
    · show (((A.length + X.length : Nat) : Int) - ((A.length + L.length + 1 : Nat) : Int)).toNat < X.length
      omega
  · rename_i hc
    have eZ : (A ++ L ++ [v]).length = A.length + L.length + 1 := by simp; omega
    have hq := pdq0_ret (Z := A ++ L ++ [v]) (l := R) (R := C) (lim := lim) (by omega) (by omega)
    rw [eZ] at hq
    have e1 : A ++ (L ++ v :: R) ++ C = A ++ L ++ [v] ++ R ++ C := by simp
    have e4 : A.length + X.length = A.length + L.length + 1 + R.length := by omega
    rw [e1]
    refine ⟨_, by rw [e4]; exact hq, ?_⟩
    refine ⟨⟨A, L, v :: sortI R ++ C, fl, ?_, ?_, ?_⟩, ?_⟩
    · have e3 : A ++ L ++ [v] ++ sortI R ++ C = A ++ L ++ (v :: sortI R ++ C) := by simp
      rw [decide_eq_true (show (1 : Int) ≤ ((R.length + 1 : Nat) : Int) by omega), e3]
    · have : (A ++ L ++ (v :: sortI R ++ C)).Perm (A ++ (L ++ v :: R) ++ C) := by
        have q : (L ++ v :: sortI R).Perm (L ++ v :: R) := ((sortI_perm R).cons v).append_left _
        have := (q.append_left A).append_right C
        simpa using this
      exact this.trans (((h2.append_left A).append_right C).trans hp)
    · rw [← hs, hsplit]; simp
    · show (((A.length + L.length : Nat) : Int) - (A.length : Int)).toNat < X.length
      omega
theorem pdq_ret {l : List Int} {lim : Int} (hl : l.length ≤ 15) (hn : l.Nodup) (hlim : l.length ≤ 12 ∨ lim ≠ 0) : (slices_pdqsortOrdered_uint8_2 l 0 (l.length : Int) lim).Ret (sortI l) := by
  refine Comp.wp_next.2 ?_
  refine Comp.loop_inv (I := PdI l lim) (m := fun s => (s.2.2.1 - s.2.1).toNat) (fun s hs => ?_) _ ⟨[], l, [], true, by simp, by simp, by simp⟩
  obtain ⟨A, X, C, wp, rfl, hp, hS⟩ := hs
  have hlen := hp.length_eq
  simp only [List.length_append] at hlen
  have w3 : IntKind.i64.wrap (((A.length + X.length : Nat) : Int) - (A.length : Int)) = (X.length : Int) := by rw [wrap64 (by omega)]; omega
  have hm : ((((A.length + X.length : Nat) : Int)) - (A.length : Int)).toNat = X.length := by omega
  show (if IntKind.i64.wrap (((A.length + X.length : Nat) : Int) - (A.length : Int)) ≤ 12 then _ else _ : Comp _).wp _
  rw [Comp.wp_ite, w3]
  split
  · exact ⟨_, isortZ (by omega), hS⟩
  · rename_i hX
    have hX : 12 < X.length := by omega
    rw [Comp.wp_ite, if_neg (by omega), Comp.wp_ite, if_neg (by simp)]
    have hnd : (A ++ X ++ C).Nodup := hp.nodup_iff.2 hn
    have hgetX : ∀ k u, A.length ≤ k → k < A.length + X.length → (A ++ X ++ C)[k]? = some u → u ∈ X := fun k u h1 h2 h3 => by
      rw [List.append_assoc, List.getElem?_append_right h1, List.getElem?_append_left (by omega)] at h3
      exact List.mem_of_getElem? h3
    obtain ⟨p, hint, c1, c2, c3, c4, v, c5, ⟨k1, u1, c6, c7, c8, c9⟩, ⟨k2, u2, d6, d7, d8, d9⟩⟩ := pivot_ret (a := A.length) (b := A.length + X.length) hnd (by simp) (by omega) (by omega) (by simp; omega)
    have hcont : ∀ Φ : List Int → Prop, (contP (A.length : Int) ((A.length + X.length : Nat) : Int) lim (A ++ X ++ C) (p : Int)).wp (Out (fun s' => PdI l lim s' ∧ (s'.2.2.1 - s'.2.1).toNat < X.length) Φ) := fun Φ => contP_wp hl hX hp hS c5 c3 c4 ⟨u1, hgetX k1 u1 c6 c7 c8, c9⟩ ⟨u2, hgetX k2 u2 d6 d7 d8, d9⟩
    have hk3 : ∀ (Φ : List Int → Prop), (slices_pdqsortOrdered_uint8_2_k3 (A.length : Int) ((A.length + X.length : Nat) : Int) lim (p : Int) (A ++ X ++ C)).wp (Out (fun s' => PdI l lim s' ∧ (s'.2.2.1 - s'.2.1).toNat < X.length) Φ) := fun Φ => by
      show (if 0 < (A.length : Int) then _ else _ : Comp _).wp _
      rw [Comp.wp_ite]
      split
      · rename_i hA
        have e1 : IntKind.i64.wrap ((A.length : Int) - 1) = ((A.length - 1 : Nat) : Int) := by rw [wrap64 (by omega)]; omega
        have hA1 : A.length - 1 < A.length := by omega
        have g1 : (A ++ X ++ C)[A.length - 1]? = some A[A.length - 1] := by
          rw [List.append_assoc, List.getElem?_append_left hA1]; exact List.getElem?_eq_getElem hA1
        have hle : A[A.length - 1] ≤ v := by
          have hsd := sortI_sd l
          rw [← hS, List.append_assoc] at hsd
          have h1 := (List.pairwise_append.1 hsd).2.2 A[A.length - 1] (List.getElem_mem hA1) v
          refine h1 (List.mem_append.2 (.inl ((sortI_perm X).mem_iff.2 (hgetX p v c3 c4 c5))))
        have hne : A[A.length - 1] ≠ v := nodup_at hnd g1 c5 (by omega)
        rw [e1]
        refine ⟨_, at_nat g1, v, at_nat c5, _, Less_ret _ _, ?_⟩
        rw [Comp.wp_ite, if_neg (by simp; omega)]
        exact hcont Φ
      · exact hcont Φ
    refine ⟨_, c1, ?_⟩
    show (if hint = 2 then _ else _ : Comp _).wp _
    rw [Comp.wp_ite, if_neg c2]
    show (if true = true then _ else _ : Comp _).wp _
    rw [Comp.wp_ite, if_pos rfl, Comp.wp_ite]
    have fin : ∀ c : Comp (((List Int) × Int × Int × Int × Bool × Bool) ⊕ (List Int)), ∀ Φ : List Int → Prop, c.wp (Out (fun s' => PdI l lim s' ∧ (s'.2.2.1 - s'.2.1).toNat < X.length) Φ) → c.wp (Out (fun s' => PdI l lim s' ∧ (s'.2.2.1 - s'.2.1).toNat < ((((A.length + X.length : Nat) : Int)) - (A.length : Int)).toNat) Φ) := fun c Φ h => by rw [hm]; exact h
    split
    · rw [Comp.wp_ite]
      split
      · obtain ⟨fl, q1, q2⟩ := partial_ret (d := A ++ X ++ C) (a := A.length) (b := A.length + X.length) (by simp) (by omega) (by omega) (by simp; omega)
        refine ⟨_, q1, ?_⟩
        show (if fl = true then _ else _ : Comp _).wp _
        rw [Comp.wp_ite]
        split
        · rename_i hfl
          show A ++ X ++ C = sortI l
          rw [← hS, sortI_id (sorted_of_adj (q2 hfl))]
        · exact fin _ _ (hk3 _)
      · exact fin _ _ (hk3 _)
    · exact fin _ _ (hk3 _)
theorem len_val : ∀ n : Fin 16, ((math_bits_Len (IntKind.u64.wrap (n.val : Int))).ev 1).any (fun v => decide (n.val ≤ 12) || decide (v ≠ 0)) = true := by decide +kernel
theorem sortU_ret {l : List Int} (hl : l.length ≤ 15) (hn : l.Nodup) : (slices_Sort_uint8_uint8 l).Ret (sortI l) := by
  have h := len_val ⟨l.length, by omega⟩
  rw [Option.any_eq_true] at h
  obtain ⟨v, hv, h2⟩ := h
  simp only [Bool.or_eq_true, decide_eq_true_eq] at h2
  exact ⟨v, Comp.Ret.of_ev 1 hv, _, pdq_ret hl hn h2, rfl⟩
end Go.EL
