/- Sorting bytes: the whole, for up to 15 different ones. The conditions stand in each statement. -/
import Derived.Test.YtbdknlblnfnkkaaPq
namespace Go.EL
open Go
theorem order2_ret {d : List Int} {a b : Nat} {x y s : Int} (ha : d[a]? = some x) (hb : d[b]? = some y) (hs : 0 ≤ s ∧ s ≤ 100) :
    (slices_order2Ordered_uint8 d (a : Int) (b : Int) s).Ret (if y < x then ((b : Int), (a : Int), s + 1) else ((a : Int), (b : Int), s)) := by
  refine ⟨y, at_nat hb, x, at_nat ha, _, Less_ret _ _, ?_⟩
  rw [Comp.wp_ite]
  by_cases h : y < x
  · rw [if_pos (decide_eq_true h), if_pos h]
    show _ = _
    rw [wrap64 (by omega)]
  · rw [if_neg (by simp [h]), if_neg h]; rfl
/-- Of three different elements, one is neither the least nor the greatest. -/
theorem median_ret {d : List Int} {a b c : Nat} {x y z : Int} (ha : d[a]? = some x) (hb : d[b]? = some y) (hc : d[c]? = some z) (h1 : x ≠ y) (h2 : y ≠ z) (h3 : x ≠ z) :
    ∃ (m : Nat) (s : Int), (slices_medianOrdered_uint8 d (a : Int) (b : Int) (c : Int) 0).Ret ((m : Int), s) ∧ (0 ≤ s ∧ s ≤ 3) ∧ (m = a ∨ m = b ∨ m = c) ∧ ∃ v, d[m]? = some v ∧ (∃ k u, (k = a ∨ k = b ∨ k = c) ∧ d[k]? = some u ∧ u < v) ∧ ∃ k u, (k = a ∨ k = b ∨ k = c) ∧ d[k]? = some u ∧ v < u := by
  have o1 := order2_ret (s := 0) ha hb (by omega)
  by_cases c1 : y < x
  · rw [if_pos c1] at o1
    have o2 := order2_ret (s := 1) ha hc (by omega)
    by_cases c2 : z < x
    · rw [if_pos c2] at o2
      have o3 := order2_ret (s := 2) hb hc (by omega)
      by_cases c3 : z < y
      · rw [if_pos c3] at o3
        exact ⟨b, 3, ⟨_, o1, _, o2, _, o3, rfl⟩, by omega, .inr (.inl rfl), y, hb, ⟨c, z, by simp, hc, c3⟩, ⟨a, x, by simp, ha, c1⟩⟩
      · rw [if_neg c3] at o3
        exact ⟨c, 2, ⟨_, o1, _, o2, _, o3, rfl⟩, by omega, .inr (.inr rfl), z, hc, ⟨b, y, by simp, hb, by omega⟩, ⟨a, x, by simp, ha, c2⟩⟩
    · rw [if_neg c2] at o2
      have o3 := order2_ret (s := 1) hb ha (by omega)
      rw [if_neg (by omega)] at o3
      exact ⟨a, 1, ⟨_, o1, _, o2, _, o3, rfl⟩, by omega, .inl rfl, x, ha, ⟨b, y, by simp, hb, c1⟩, ⟨c, z, by simp, hc, by omega⟩⟩
  · rw [if_neg c1] at o1
    have o2 := order2_ret (s := 0) hb hc (by omega)
    by_cases c2 : z < y
    · rw [if_pos c2] at o2
      have o3 := order2_ret (s := 1) ha hc (by omega)
      by_cases c3 : z < x
      · rw [if_pos c3] at o3
        exact ⟨a, 2, ⟨_, o1, _, o2, _, o3, rfl⟩, by omega, .inl rfl, x, ha, ⟨c, z, by simp, hc, c3⟩, ⟨b, y, by simp, hb, by omega⟩⟩
      · rw [if_neg c3] at o3
        exact ⟨c, 1, ⟨_, o1, _, o2, _, o3, rfl⟩, by omega, .inr (.inr rfl), z, hc, ⟨a, x, by simp, ha, by omega⟩, ⟨b, y, by simp, hb, c2⟩⟩
    · rw [if_neg c2] at o2
      have o3 := order2_ret (s := 0) ha hb (by omega)
      rw [if_neg c1] at o3
      exact ⟨b, 0, ⟨_, o1, _, o2, _, o3, rfl⟩, by omega, .inr (.inl rfl), y, hb, ⟨a, x, by simp, ha, by omega⟩, ⟨c, z, by simp, hc, by omega⟩⟩
theorem nodup_at {d : List Int} (hn : d.Nodup) {i j : Nat} {x y : Int} (hi : d[i]? = some x) (hj : d[j]? = some y) (hij : i ≠ j) : x ≠ y := fun e => by
  subst e
  obtain ⟨h1, _⟩ := List.getElem?_eq_some_iff.1 hi
  exact hij ((List.getElem?_inj h1 hn).1 (by rw [hi, hj]))
theorem choose_ret {d : List Int} {a b A1 A2 A3 q n m s : Int} (w0 : IntKind.i64.wrap (b - a) = n) (w1 : IntKind.i64.wrap (Int.tdiv n 4) = q) (i1 : IntKind.i64.wrap (a + IntKind.i64.wrap (q * 1)) = A1) (i2 : IntKind.i64.wrap (a + IntKind.i64.wrap (q * 2)) = A2) (i3 : IntKind.i64.wrap (a + IntKind.i64.wrap (q * 3)) = A3)
    (h8 : 8 ≤ n) (h50 : n < 50) (hm : (slices_medianOrdered_uint8 d A1 A2 A3 0).Ret (m, s)) (hs : 0 ≤ s ∧ s ≤ 3) : (slices_choosePivotOrdered_uint8 d a b).Ret (m, if s = 0 then 1 else 0) := by
  unfold slices_choosePivotOrdered_uint8
  simp only [w0, w1, i1, i2, i3]
  rw [if_pos h8, if_neg (by omega)]
  refine ⟨_, hm, ?_⟩
  rw [Comp.wp_ite]
  by_cases e : s = 0
  · rw [if_pos e, if_pos e]; rfl
  · rw [if_neg e, if_neg e, Comp.wp_ite, if_neg (by show ¬ s = 12; omega)]; rfl
/-- The pivot of a range. -/
theorem pivot_ret {d : List Int} {a b : Nat} (hn : d.Nodup) (hb : b ≤ d.length) (h1 : a + 12 < b) (h2 : b < a + 50) (hl : d.length ≤ 1000) :
    ∃ (p : Nat) (hint : Int), (slices_choosePivotOrdered_uint8 d (a : Int) (b : Int)).Ret ((p : Int), hint) ∧ ¬ hint = 2 ∧ a ≤ p ∧ p < b ∧ ∃ v, d[p]? = some v ∧ (∃ k u, a ≤ k ∧ k < b ∧ d[k]? = some u ∧ u < v) ∧ ∃ k u, a ≤ k ∧ k < b ∧ d[k]? = some u ∧ v < u := by
  obtain ⟨q, hq⟩ : ∃ q : Nat, q = (b - a) / 4 := ⟨_, rfl⟩
  have w0 : IntKind.i64.wrap ((b : Int) - (a : Int)) = ((b - a : Nat) : Int) := by rw [wrap64 (by omega)]; omega
  have w1 : IntKind.i64.wrap (Int.tdiv ((b - a : Nat) : Int) 4) = (q : Int) := by
    rw [Int.tdiv_eq_ediv_of_nonneg (by omega), wrap64 (by omega)]; omega
  have i1 : IntKind.i64.wrap ((a : Int) + IntKind.i64.wrap ((q : Int) * 1)) = ((a + q : Nat) : Int) := by rw [wrap64 (x := (q : Int) * 1) (by omega), wrap64 (by omega)]; omega
  have i2 : IntKind.i64.wrap ((a : Int) + IntKind.i64.wrap ((q : Int) * 2)) = ((a + q * 2 : Nat) : Int) := by rw [wrap64 (x := (q : Int) * 2) (by omega), wrap64 (by omega)]; omega
  have i3 : IntKind.i64.wrap ((a : Int) + IntKind.i64.wrap ((q : Int) * 3)) = ((a + q * 3 : Nat) : Int) := by rw [wrap64 (x := (q : Int) * 3) (by omega), wrap64 (by omega)]; omega
  have g1 : d[a + q]? = some d[a + q] := List.getElem?_eq_getElem (by omega)
  have g2 : d[a + q * 2]? = some d[a + q * 2] := List.getElem?_eq_getElem (by omega)
  have g3 : d[a + q * 3]? = some d[a + q * 3] := List.getElem?_eq_getElem (by omega)
  have bd : ∀ k, (k = a + q ∨ k = a + q * 2 ∨ k = a + q * 3) → a ≤ k ∧ k < b := fun k h => by omega
  have n1 : a + q ≠ a + q * 2 := by omega
  have n2 : a + q * 2 ≠ a + q * 3 := by omega
  have n3 : a + q ≠ a + q * 3 := by omega
  have b8 : (8 : Int) ≤ ((b - a : Nat) : Int) := by omega
  have b50 : ((b - a : Nat) : Int) < 50 := by omega
  obtain ⟨m, s, hm, hs, hmem, v, hv, ⟨k1, u1, hk1, hu1, hlt1⟩, ⟨k2, u2, hk2, hu2, hlt2⟩⟩ := median_ret g1 g2 g3 (nodup_at hn g1 g2 n1) (nodup_at hn g2 g3 n2) (nodup_at hn g1 g3 n3)
  refine ⟨m, if s = 0 then 1 else 0, choose_ret w0 w1 i1 i2 i3 b8 b50 hm hs, by split <;> simp, (bd m hmem).1, (bd m hmem).2, v, hv, ⟨k1, u1, (bd k1 hk1).1, (bd k1 hk1).2, hu1, hlt1⟩, ⟨k2, u2, (bd k2 hk2).1, (bd k2 hk2).2, hu2, hlt2⟩⟩
/-- A range that is seen to be sorted, or nothing. -/
theorem partial_ret {d : List Int} {a b : Nat} (hb : b ≤ d.length) (h1 : a + 1 ≤ b) (h2 : b < a + 50) (hl : d.length ≤ 1000) :
    ∃ fl, (slices_partialInsertionSortOrdered_uint8 d (a : Int) (b : Int)).Ret (fl, d) ∧ (fl = true → ∀ k x y, a ≤ k → k + 1 < b → d[k]? = some x → d[k + 1]? = some y → x ≤ y) := by
  have w0 : IntKind.i64.wrap ((b : Int) - (a : Int)) = ((b - a : Nat) : Int) := by rw [wrap64 (by omega)]; omega
  have wa : IntKind.i64.wrap ((a : Int) + 1) = ((a + 1 : Nat) : Int) := wrapN (by omega)
  -- the scan
  obtain ⟨r, h3, r', rfl, h4, h5, h6⟩ := Comp.loop_det (step := fun v7 : Int => if v7 < (b : Int) then (Comp.at' d v7 fun x17 => Comp.at' d (IntKind.i64.wrap (v7 - 1)) fun x18 => Comp.bind (cmp_Less_uint8 x17 x18) fun yv3 => if (!yv3) = true then (Comp.ret (.inl (IntKind.i64.wrap (v7 + 1)))) else (Comp.ret (.inr v7))) else (Comp.ret (.inr v7)))
    (Φ := fun z : Int => ∃ r : Nat, z = (r : Int) ∧ a + 1 ≤ r ∧ r ≤ b ∧ (∀ k x y, a ≤ k → k + 1 < r → d[k]? = some x → d[k + 1]? = some y → x ≤ y))
    (fun z => ∃ r : Nat, z = (r : Int) ∧ a + 1 ≤ r ∧ r ≤ b ∧ (∀ k x y, a ≤ k → k + 1 < r → d[k]? = some x → d[k + 1]? = some y → x ≤ y)) (fun z => ((b : Int) - z).toNat) (fun s hs => by
    obtain ⟨r, rfl, g1, g2, g3⟩ := hs
    by_cases hr : r < b
    · have hget : d[r]? = some d[r] := List.getElem?_eq_getElem (by omega)
      have hget' : d[r - 1]? = some d[r - 1] := List.getElem?_eq_getElem (by omega)
      have e1 : IntKind.i64.wrap ((r : Int) - 1) = ((r - 1 : Nat) : Int) := by rw [wrap64 (by omega)]; omega
      by_cases hlt : d[r] < d[r - 1]
      · refine ⟨.inr (r : Int), ?_, .inr ⟨_, rfl, r, rfl, g1, g2, g3⟩⟩
        show (if (r : Int) < (b : Int) then _ else _ : Comp _).wp _
        rw [Comp.wp_ite, if_pos (by omega), e1]
        refine ⟨d[r], at_nat hget, d[r - 1], at_nat hget', _, Less_ret _ _, ?_⟩
        rw [Comp.wp_ite, if_neg (by simp [hlt])]
        rfl
      · refine ⟨.inl (IntKind.i64.wrap ((r : Int) + 1)), ?_, .inl ⟨_, rfl, ⟨r + 1, wrapN (by omega), by omega, by omega, fun k x y h4 h5 h6 h7 => ?_⟩, ?_⟩⟩
        · show (if (r : Int) < (b : Int) then _ else _ : Comp _).wp _
          rw [Comp.wp_ite, if_pos (by omega), e1]
          refine ⟨d[r], at_nat hget, d[r - 1], at_nat hget', _, Less_ret _ _, ?_⟩
          rw [Comp.wp_ite, if_pos (by simp [hlt])]
          rfl
        · by_cases e : k + 1 = r
          · subst e
            rw [hget] at h7
            have h8 : d[k + 1 - 1]? = some x := h6
            rw [hget'] at h8
            cases h7; cases h8
            omega
          · exact g3 k x y h4 (by omega) h6 h7
        · rw [wrapN (by omega)]; omega
    · refine ⟨.inr (r : Int), ?_, .inr ⟨_, rfl, r, rfl, g1, g2, g3⟩⟩
      show (if (r : Int) < (b : Int) then _ else _ : Comp _).wp _
      rw [Comp.wp_ite, if_neg (by omega)]
      rfl) ((a + 1 : Nat) : Int) ⟨a + 1, rfl, Nat.le_refl _, by omega, fun k x y h4 h5 => by omega⟩
  refine ⟨decide (r' = b), ?_, fun hfl => by rw [of_decide_eq_true hfl] at h6; exact h6⟩
  refine Comp.wp_next.2 (Comp.loop_fold ?_)
  rw [wa]
  show (if (0 : Int) < 5 then _ else _ : Comp _).wp _
  rw [Comp.wp_ite, if_pos (by omega)]
  refine Comp.wp_next.2 (Comp.Ret.then (a := (r' : Int)) h3 ?_)
  show (if (r' : Int) = (b : Int) then _ else _ : Comp _).wp _
  rw [Comp.wp_ite]
  by_cases e : r' = b
  · rw [if_pos (by omega)]
    show _ = _
    rw [decide_eq_true e]
  · rw [if_neg (by omega), w0, Comp.wp_ite, if_pos (by omega)]
    show _ = _
    rw [decide_eq_false e]
/-- What is turned inside a range only. -/
theorem seg {A X C d : List Int} (hp : d.Perm (A ++ X ++ C)) (ho : ∀ k, k < A.length ∨ A.length + X.length ≤ k → d[k]? = (A ++ X ++ C)[k]?) : ∃ Y, d = A ++ Y ++ C ∧ Y.Perm X := by
  have hl := hp.length_eq
  simp only [List.length_append] at hl
  have h1 : d.take A.length = A := by
    apply List.ext_getElem?
    intro k
    by_cases hk : k < A.length
    · rw [List.getElem?_take_of_lt hk, ho k (.inl hk), List.append_assoc, List.getElem?_append_left hk]
    · rw [List.getElem?_eq_none (by simp; omega), List.getElem?_eq_none (by omega)]
  have h2 : d.drop (A.length + X.length) = C := by
    apply List.ext_getElem?
    intro k
    rw [List.getElem?_drop, ho _ (.inr (by omega)), List.getElem?_append_right (by simp)]
    congr 1
    simp
  have h3 : d = A ++ (d.drop A.length).take X.length ++ C := by
    conv => lhs; rw [← List.take_append_drop A.length d, ← List.take_append_drop X.length (d.drop A.length), List.drop_drop, h1, h2]
    simp
  refine ⟨_, h3, ?_⟩
  rw [h3] at hp
  have := (List.perm_append_right_iff C).1 hp
  exact (List.perm_append_left_iff A).1 this
theorem sortI_split {L R X : List Int} {v : Int} (hp : (L ++ v :: R).Perm X) (hL : ∀ x ∈ L, x < v) (hR : ∀ x ∈ R, v ≤ x) : sortI X = sortI L ++ v :: sortI R := by
  refine (sortI_eq ?_ ?_).symm
  · exact (((sortI_perm L).append ((sortI_perm R).cons v))).trans hp
  · refine List.pairwise_append.2 ⟨sortI_sd L, List.pairwise_cons.2 ⟨fun x hx => hR x ((sortI_perm R).mem_iff.1 hx), sortI_sd R⟩, fun x hx y hy => ?_⟩
    have h1 := hL x ((sortI_perm L).mem_iff.1 hx)
    rcases List.mem_cons.1 hy with rfl | hy
    · omega
    · have := hR y ((sortI_perm R).mem_iff.1 hy); omega
theorem sortI_id {X : List Int} (h : Sd X) : sortI X = X := (sortI_eq (List.Perm.refl X) h).symm
theorem pdq0_ret {Z l R : List Int} {lim : Int} (hl : l.length ≤ 12) (hZ : Z.length ≤ 1000) : (slices_pdqsortOrdered_uint8 (Z ++ l ++ R) (Z.length : Int) ((Z.length + l.length : Nat) : Int) lim).Ret (Z ++ sortI l ++ R) := by
  refine Comp.wp_next.2 (Comp.loop_fold ?_)
  show (if IntKind.i64.wrap (((Z.length + l.length : Nat) : Int) - (Z.length : Int)) ≤ 12 then _ else _ : Comp _).wp _
  rw [Comp.wp_ite, wrap64 (by omega), if_pos (by omega)]
  exact ⟨_, isortZ (by omega), rfl⟩
theorem sorted_of_adj {A X C : List Int} (h : ∀ k x y, A.length ≤ k → k + 1 < A.length + X.length → (A ++ X ++ C)[k]? = some x → (A ++ X ++ C)[k + 1]? = some y → x ≤ y) : Sd X := by
  have h' : ∀ k (hk : k + 1 < X.length), X[k] ≤ X[k + 1] := fun k hk => by
    refine h (A.length + k) X[k] X[k + 1] (by omega) (by omega) ?_ ?_
    · rw [List.append_assoc, List.getElem?_append_right (by omega), List.getElem?_append_left (by omega)]
      simp
    · rw [List.append_assoc, List.getElem?_append_right (by omega), List.getElem?_append_left (by omega)]
      have : A.length + k + 1 - A.length = k + 1 := by omega
      rw [this]; simp
  have key : ∀ n i (hi : i + n < X.length), X[i] ≤ X[i + n] := by
    intro n
    induction n with
    | zero => intro i hi; exact Int.le_refl _
    | succ n ih => intro i hi; exact Int.le_trans (ih i (by omega)) (h' (i + n) (by omega))
  refine List.pairwise_iff_getElem.2 fun i j hi hj hij => ?_
  have := key (j - i) i (by omega)
  simpa [show i + (j - i) = j by omega] using this
end Go.EL
