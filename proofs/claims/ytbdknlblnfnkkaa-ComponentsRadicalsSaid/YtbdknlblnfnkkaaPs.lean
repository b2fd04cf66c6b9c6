/- Sorting bytes: order, insertion. The conditions stand in each statement. -/
import Derived.Test.YtbdknlblnfnkkaaPf
namespace Go.EL
open Go
abbrev Sd (l : List Int) : Prop := l.Pairwise (· ≤ ·)
def sortI (l : List Int) : List Int := l.mergeSort fun x y => decide (x ≤ y)
theorem sortI_perm (l : List Int) : (sortI l).Perm l := List.mergeSort_perm _ _
theorem sortI_sd (l : List Int) : Sd (sortI l) := by
  have := List.pairwise_mergeSort (le := fun x y : Int => decide (x ≤ y)) (fun a b c h1 h2 => by simp only [decide_eq_true_eq] at *; omega) (fun a b => by simp only [Bool.or_eq_true, decide_eq_true_eq]; omega) l
  exact this.imp fun h => of_decide_eq_true h
theorem sortI_eq {l s : List Int} (h : s.Perm l) (hs : Sd s) : s = sortI l :=
  List.Perm.eq_of_pairwise (le := fun a b => a ≤ b) (fun a b _ _ h1 h2 => Int.le_antisymm h1 h2) hs (sortI_sd l) (h.trans (sortI_perm l).symm)
theorem Less_ret (x y : Int) : (cmp_Less_uint8 x y).Ret (decide (x < y)) := by
  refine ⟨false, ?_, rfl⟩
  show decide (¬ x = x) = false
  simp
theorem set_mid {α : Type} (A B : List α) (x y z w : α) : ((A ++ x :: y :: B).set (A.length + 1) z).set A.length w = A ++ w :: z :: B := by
  induction A with
  | nil => rfl
  | cons a A ih => simp only [List.cons_append, List.length_cons, List.set_cons_succ, ih]
theorem get_mid {α : Type} (A B : List α) (x : α) : (A ++ x :: B)[A.length]? = some x := by simp
theorem inner_ret {x : Int} {R : List Int} : ∀ (A B : List Int), A.length < 1000000000 → Sd (A ++ B) → (∀ b ∈ B, x < b) → (slices_insertionSortOrdered_uint8_L4 0 (A ++ x :: (B ++ R), (A.length : Int))).wp fun d => ∃ S, d = S ++ R ∧ S.Perm (x :: (A ++ B)) ∧ Sd S := by
  have key : ∀ (n : Nat) (A B : List Int), A.length = n → A.length < 1000000000 → Sd (A ++ B) → (∀ b ∈ B, x < b) → (slices_insertionSortOrdered_uint8_L4 0 (A ++ x :: (B ++ R), (A.length : Int))).wp fun d => ∃ S, d = S ++ R ∧ S.Perm (x :: (A ++ B)) ∧ Sd S := by
    intro n
    induction n with
    | zero =>
      intro A B hn _ hs hB
      have : A = [] := List.eq_nil_of_length_eq_zero hn
      subst this
      refine Comp.loop_fold ?_
      show (if (0 : Int) < ((0 : Nat) : Int) then _ else _ : Comp _).wp _
      rw [Comp.wp_ite, if_neg (by omega)]
      exact ⟨x :: B, rfl, List.Perm.refl _, List.pairwise_cons.2 ⟨fun b hb => Int.le_of_lt (hB b hb), hs⟩⟩
    | succ n ih =>
      intro A B hn hlt hs hB
      obtain ⟨A', y, rfl⟩ : ∃ A' y, A = A' ++ [y] := by
        rcases List.eq_nil_or_concat A with rfl | ⟨A', y, rfl⟩
        · simp at hn
        · exact ⟨A', y, List.concat_eq_append⟩
      have hn' : A'.length = n := by simp at hn; exact hn
      have e0 : A' ++ [y] ++ x :: (B ++ R) = A' ++ y :: x :: (B ++ R) := by simp
      have el : (A' ++ [y]).length = A'.length + 1 := by simp
      rw [el] at hlt
      rw [e0, el]
      refine Comp.loop_fold ?_
      show (if (0 : Int) < ((A'.length + 1 : Nat) : Int) then _ else _ : Comp _).wp _
      rw [Comp.wp_ite, if_pos (by omega)]
      have w1 : IntKind.i64.wrap (((A'.length + 1 : Nat) : Int) - 1) = (A'.length : Int) := by rw [wrap64 (by omega)]; omega
      have g1 : (0 : Int) ≤ ((A'.length + 1 : Nat) : Int) ∧ (A' ++ y :: x :: (B ++ R))[((A'.length + 1 : Nat) : Int).toNat]? = some x := ⟨by omega, by
        have := get_mid (A' ++ [y]) (B ++ R) x
        rw [e0, el] at this
        exact this⟩
      have g2 : (0 : Int) ≤ (A'.length : Int) ∧ (A' ++ y :: x :: (B ++ R))[(A'.length : Int).toNat]? = some y := ⟨by omega, get_mid A' _ y⟩
      rw [w1]
      refine ⟨x, g1, y, g2, _, Less_ret x y, ?_⟩
      rw [Comp.wp_ite]
      split
      · rename_i h
        have hxy : x < y := of_decide_eq_true h
        refine ⟨y, g2, x, g1, x, g1, y, ⟨by omega, ?_⟩, ?_⟩
        · rw [show ((A'.length + 1 : Nat) : Int).toNat = A'.length + 1 by omega, show (A'.length : Int).toNat = A'.length by omega, List.getElem?_set_ne (by omega)]
          exact get_mid A' _ y
        · rw [show ((A'.length + 1 : Nat) : Int).toNat = A'.length + 1 by omega, show (A'.length : Int).toNat = A'.length by omega, set_mid]
          have := ih A' (y :: B) hn' (by omega) (by simpa using hs) (fun b hb => by
            rcases List.mem_cons.1 hb with rfl | hb
            · exact hxy
            · exact hB b hb)
          show (slices_insertionSortOrdered_uint8_L4 0 (A' ++ x :: y :: (B ++ R), (A'.length : Int))).wp _
          refine Comp.mono _ (fun d hd => ?_) this
          obtain ⟨S, h1, h2, h3⟩ := hd
          exact ⟨S, h1, by simpa using h2, h3⟩
      · rename_i h
        have hxy : y ≤ x := by simp only [decide_eq_true_eq] at h; omega
        refine ⟨A' ++ y :: x :: B, by simp, ?_, ?_⟩
        · have : (A' ++ y :: x :: B).Perm (x :: (A' ++ y :: B)) := by
            have := @List.perm_middle _ x (A' ++ [y]) B
            simpa using this
          simpa using this
        · have hs' : Sd (A' ++ y :: B) := by simpa using hs
          obtain ⟨p1, p2, p3⟩ := List.pairwise_append.1 hs'
          obtain ⟨p4, p5⟩ := List.pairwise_cons.1 p2
          refine List.pairwise_append.2 ⟨p1, List.pairwise_cons.2 ⟨fun b hb => ?_, List.pairwise_cons.2 ⟨fun b hb => Int.le_of_lt (hB b hb), p5⟩⟩, fun a ha b hb => ?_⟩
          · rcases List.mem_cons.1 hb with rfl | hb
            · exact hxy
            · exact p4 b hb
          · rcases List.mem_cons.1 hb with rfl | hb
            · exact p3 a ha b (by simp)
            · rcases List.mem_cons.1 hb with rfl | hb
              · exact Int.le_trans (p3 a ha y (by simp)) hxy
              · exact p3 a ha b (by simp [hb])
  exact fun A B => key A.length A B rfl
theorem isort_ret {l : List Int} (hl : l.length < 1000000000) : (slices_insertionSortOrdered_uint8 l 0 (l.length : Int)).Ret (sortI l) := by
  show (Comp.loop _ _).wp _
  rw [wrap64 (by omega)]
  cases l with
  | nil =>
    refine Comp.loop_fold ?_
    show (if (1 : Int) < ((0 : Nat) : Int) then _ else _ : Comp _).wp _
    rw [Comp.wp_ite, if_neg (by omega)]
    show [] = sortI []
    exact sortI_eq (List.Perm.refl _) List.Pairwise.nil
  | cons x0 l' =>
    refine Comp.loop_idx l'.length (fun k s => ∃ S, s = (S ++ (x0 :: l').drop (k + 1), ((k + 1 : Nat) : Int)) ∧ S.Perm ((x0 :: l').take (k + 1)) ∧ Sd S) (fun k s hk hs => ?_) (fun s hs => ?_) ⟨[x0], by simp, by simp, by simp⟩
    · obtain ⟨S, rfl, hp, hS⟩ := hs
      have hk' : k + 1 < (x0 :: l').length := by simp; omega
      have hSl : S.length = k + 1 := by rw [hp.length_eq]; simp; omega
      simp only [List.length_cons] at hl
      show (if ((k + 1 : Nat) : Int) < (((x0 :: l').length : Nat) : Int) then _ else _ : Comp _).wp _
      rw [Comp.wp_ite, if_pos (by omega)]
      have hd : (x0 :: l').drop (k + 1) = (x0 :: l')[k + 1] :: (x0 :: l').drop (k + 1 + 1) := List.drop_eq_getElem_cons hk'
      have := inner_ret (x := (x0 :: l')[k + 1]) (R := (x0 :: l').drop (k + 1 + 1)) S [] (by omega) (by simpa using hS) (by simp)
      rw [List.nil_append, ← hd, hSl] at this
      refine Comp.wp_next.2 (Comp.mono _ (fun d ⟨S', h1, h2, h3⟩ => ?_) this)
      refine ⟨S', ?_, ?_, h3⟩
      · rw [h1, wrapN (by omega)]
      · rw [(List.take_append_getElem hk').symm]
        refine h2.trans ?_
        simp only [List.append_nil]
        exact (List.Perm.cons _ hp).trans (List.perm_append_singleton _ _).symm
    · obtain ⟨S, rfl, hp, hS⟩ := hs
      show (if ((l'.length + 1 : Nat) : Int) < (((x0 :: l').length : Nat) : Int) then _ else _ : Comp _).wp _
      rw [Comp.wp_ite, if_neg (by simp)]
      show S ++ (x0 :: l').drop (l'.length + 1) = sortI (x0 :: l')
      rw [List.drop_of_length_le (by simp), List.append_nil]
      rw [List.take_of_length_le (by simp)] at hp
      exact sortI_eq hp hS
end Go.EL
