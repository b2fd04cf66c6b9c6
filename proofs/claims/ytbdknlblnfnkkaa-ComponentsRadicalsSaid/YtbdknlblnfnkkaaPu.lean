/- Sorting bytes: pdqsort of up to 15 different ones. The conditions stand in each statement. -/
import Derived.Test.YtbdknlblnfnkkaaPr
namespace Go.EL
open Go
/-- A partition, and the shorter side sorted. -/
def contP (a b lim : Int) (d : List Int) (p : Int) : Comp (((List Int) × Int × Int × Int × Bool × Bool) ⊕ (List Int)) :=
  Comp.bind (slices_partitionOrdered_uint8 d a b p) fun yv6 => if (IntKind.i64.wrap (yv6.1 - a)) < (IntKind.i64.wrap (b - yv6.1)) then (Comp.bind (slices_pdqsortOrdered_uint8 yv6.2.2 a yv6.1 lim) fun yv7 => Comp.ret (.inl (yv7, IntKind.i64.wrap (yv6.1 + 1), b, lim, decide ((IntKind.i64.wrap (Int.tdiv (IntKind.i64.wrap (b - a)) 8)) ≤ (IntKind.i64.wrap (yv6.1 - a))), yv6.2.1))) else (Comp.bind (slices_pdqsortOrdered_uint8 yv6.2.2 (IntKind.i64.wrap (yv6.1 + 1)) b lim) fun yv8 => Comp.ret (.inl (yv8, a, yv6.1, lim, decide ((IntKind.i64.wrap (Int.tdiv (IntKind.i64.wrap (b - a)) 8)) ≤ (IntKind.i64.wrap (b - yv6.1))), yv6.2.1)))
/-- A partition in terms of lists. -/
theorem part_seg {A X C : List Int} {p : Nat} {v : Int} (hp : (A ++ X ++ C)[p]? = some v) (hap : A.length ≤ p) (hpb : p < A.length + X.length) (hX : 12 < X.length) (hn : (A ++ X ++ C).length ≤ 1000000) :
    ∃ (L R : List Int) (fl : Bool), (slices_partitionOrdered_uint8 (A ++ X ++ C) (A.length : Int) ((A.length + X.length : Nat) : Int) (p : Int)).Ret (((A.length + L.length : Nat) : Int), fl, A ++ (L ++ v :: R) ++ C) ∧ (L ++ v :: R).Perm X ∧ (∀ x ∈ L, x < v) ∧ ∀ x ∈ R, v ≤ x := by
  obtain ⟨j, fl, d, h1, h2, h3, h4, h5, h6, h7, h8⟩ := part_ret (a := A.length) (b := A.length + X.length) hp hap hpb (by omega) (by simp) hn
  obtain ⟨Y, rfl, hY⟩ := seg h2 h3
  have hl := hY.length_eq
  have hlt : j - A.length < Y.length := by omega
  have hget : ∀ k, k < Y.length → (A ++ Y ++ C)[A.length + k]? = Y[k]? := fun k hk => by
    rw [List.append_assoc, List.getElem?_append_right (by omega), List.getElem?_append_left (by omega)]
    congr 1; omega
  have hv : Y[j - A.length]? = some v := by
    rw [← hget _ hlt, ← h4]; congr 1; omega
  have hsplit : Y = Y.take (j - A.length) ++ v :: Y.drop (j - A.length + 1) := by
    obtain ⟨_, e⟩ := List.getElem?_eq_some_iff.1 hv
    rw [← e, ← List.drop_eq_getElem_cons hlt, List.take_append_drop]
  have hLl : (Y.take (j - A.length)).length = j - A.length := by simp; omega
  refine ⟨Y.take (j - A.length), Y.drop (j - A.length + 1), fl, ?_, by rw [← hsplit]; exact hY, fun x hx => ?_, fun x hx => ?_⟩
  · rw [← hsplit, hLl, show A.length + (j - A.length) = j by omega]; exact h1
  · obtain ⟨k, hk, rfl⟩ := List.mem_iff_getElem.1 hx
    have hk' : k < j - A.length := by omega
    refine h7 (A.length + k) _ (by omega) (by omega) ?_
    rw [hget k (by omega), List.getElem_take]
    exact List.getElem?_eq_getElem (by omega)
  · obtain ⟨k, hk, rfl⟩ := List.mem_iff_getElem.1 hx
    have hk' : j - A.length + 1 + k < Y.length := by simp at hk; omega
    refine h8 (A.length + (j - A.length + 1 + k)) _ (by omega) (by omega) ?_
    rw [hget _ hk', List.getElem_drop]
    exact List.getElem?_eq_getElem (by omega)
/-- What stays true between two rounds. -/
def PdI (l : List Int) (lim : Int) (s : (List Int) × Int × Int × Int × Bool × Bool) : Prop :=
  ∃ A X C wp, s = (A ++ X ++ C, (A.length : Int), ((A.length + X.length : Nat) : Int), lim, true, wp) ∧ (A ++ X ++ C).Perm l ∧ A ++ sortI X ++ C = sortI l
theorem contP_wp {l A X C : List Int} {lim : Int} (hl : l.length ≤ 15) (hX : 12 < X.length) (hp : (A ++ X ++ C).Perm l) (hs : A ++ sortI X ++ C = sortI l) {p : Nat} {v : Int} (hv : (A ++ X ++ C)[p]? = some v) (hap : A.length ≤ p) (hpb : p < A.length + X.length)
    (hlo : ∃ u ∈ X, u < v) (hhi : ∃ u ∈ X, v < u) {Φ : List Int → Prop} :
    (contP (A.length : Int) ((A.length + X.length : Nat) : Int) lim (A ++ X ++ C) (p : Int)).wp (Out (fun s' => PdI l lim s' ∧ (s'.2.2.1 - s'.2.1).toNat < X.length) Φ) := by
  have hlen := hp.length_eq
  simp only [List.length_append] at hlen
  obtain ⟨L, R, fl, h1, h2, h3, h4⟩ := part_seg (A := A) (X := X) (C := C) hv hap hpb hX (by simp; omega)
  have hXl := h2.length_eq
  simp only [List.length_append, List.length_cons] at hXl
  have hL1 : 0 < L.length := by
    obtain ⟨u, hu, hlt⟩ := hlo
    rcases List.mem_append.1 (h2.mem_iff.2 hu) with h | h
    · exact List.length_pos_of_mem h
    · rcases List.mem_cons.1 h with rfl | h
      · omega
      · have := h4 u h; omega
  have hR1 : 0 < R.length := by
    obtain ⟨u, hu, hlt⟩ := hhi
    rcases List.mem_append.1 (h2.mem_iff.2 hu) with h | h
    · have := h3 u h; omega
    · rcases List.mem_cons.1 h with rfl | h
      · omega
      · exact List.length_pos_of_mem h
  have hsplit := sortI_split h2 h3 h4
  have w1 : IntKind.i64.wrap (((A.length + L.length : Nat) : Int) - (A.length : Int)) = (L.length : Int) := by rw [wrap64 (by omega)]; omega
  have w2 : IntKind.i64.wrap (((A.length + X.length : Nat) : Int) - ((A.length + L.length : Nat) : Int)) = ((R.length + 1 : Nat) : Int) := by rw [wrap64 (by omega)]; omega
  have w3 : IntKind.i64.wrap (((A.length + X.length : Nat) : Int) - (A.length : Int)) = (X.length : Int) := by rw [wrap64 (by omega)]; omega
  have w4 : IntKind.i64.wrap (Int.tdiv (X.length : Int) 8) = 1 := by rw [Int.tdiv_eq_ediv_of_nonneg (by omega), wrap64 (by omega)]; omega
  have w5 : IntKind.i64.wrap (((A.length + L.length : Nat) : Int) + 1) = ((A.length + L.length + 1 : Nat) : Int) := wrapN (by omega)
  refine ⟨_, h1, ?_⟩
  show (if IntKind.i64.wrap (((A.length + L.length : Nat) : Int) - (A.length : Int)) < IntKind.i64.wrap (((A.length + X.length : Nat) : Int) - ((A.length + L.length : Nat) : Int)) then _ else _ : Comp _).wp _
  rw [Comp.wp_ite]
  simp only [w1, w2, w3, w4, w5]
  split
  · rename_i hc
    have hq := pdq0_ret (Z := A) (l := L) (R := v :: R ++ C) (lim := lim) (by omega) (by omega)
    have e1 : A ++ (L ++ v :: R) ++ C = A ++ L ++ (v :: R ++ C) := by simp
    rw [e1]
    refine ⟨_, hq, ?_⟩
    refine ⟨⟨A ++ sortI L ++ [v], R, C, fl, ?_, ?_, ?_⟩, ?_⟩
    · have e2 : (sortI L).length = L.length := (sortI_perm L).length_eq
      simp only [List.length_append, e2, List.length_cons, List.length_nil, decide_eq_true (show (1 : Int) ≤ (L.length : Int) by omega)]
      have e3 : A ++ sortI L ++ [v] ++ R ++ C = A ++ sortI L ++ (v :: R ++ C) := by simp
      have e4 : A.length + X.length = A.length + L.length + 1 + R.length := by omega
      rw [e3, e4]
    · have : (A ++ sortI L ++ [v] ++ R ++ C).Perm (A ++ (L ++ v :: R) ++ C) := by
        have q : (sortI L ++ v :: R).Perm (L ++ v :: R) := (sortI_perm L).append_right _
        have := (q.append_left A).append_right C
        simpa using this
      exact this.trans (((h2.append_left A).append_right C).trans hp)
    · rw [← hs, hsplit]; simp
    · show (((A.length + X.length : Nat) : Int) - ((A.length + L.length + 1 : Nat) : Int)).toNat < X.length
      omega
  · rename_i hc
    have eZ : (A ++ L ++ [v]).length = A.length + L.length + 1 := by simp; omega
    have hq := pdq0_ret (Z := A ++ L ++ [v]) (l := R) (R := C) (lim := lim) (by omega) (by omega)
    rw [eZ] at hq
    have e1 : A ++ (L ++ v :: R) ++ C = A ++ L ++ [v] ++ R ++ C := by simp
    have e4 : A.length + X.length = A.length + L.length + 1 + R.length := by omega
    rw [e1]
    refine ⟨_, by rw [e4]; exact hq, ?_⟩
    refine ⟨⟨A, L, v :: sortI R ++ C, fl, ?_, ?_, ?_⟩, ?_⟩
    · have e3 : A ++ L ++ [v] ++ sortI R ++ C = A ++ L ++ (v :: sortI R ++ C) := by simp
      rw [decide_eq_true (show (1 : Int) ≤ ((R.length + 1 : Nat) : Int) by omega), e3]
    · have : (A ++ L ++ (v :: sortI R ++ C)).Perm (A ++ (L ++ v :: R) ++ C) := by
        have q : (L ++ v :: sortI R).Perm (L ++ v :: R) := ((sortI_perm R).cons v).append_left _
        have := (q.append_left A).append_right C
        simpa using this
      exact this.trans (((h2.append_left A).append_right C).trans hp)
    · rw [← hs, hsplit]; simp
    · show (((A.length + L.length : Nat) : Int) - (A.length : Int)).toNat < X.length
      omega
theorem pdq_ret {l : List Int} {lim : Int} (hl : l.length ≤ 15) (hn : l.Nodup) (hlim : l.length ≤ 12 ∨ lim ≠ 0) : (slices_pdqsortOrdered_uint8_2 l 0 (l.length : Int) lim).Ret (sortI l) := by
  refine Comp.wp_next.2 ?_
  refine Comp.loop_inv (I := PdI l lim) (m := fun s => (s.2.2.1 - s.2.1).toNat) (fun s hs => ?_) _ ⟨[], l, [], true, by simp, by simp, by simp⟩
  obtain ⟨A, X, C, wp, rfl, hp, hS⟩ := hs
  have hlen := hp.length_eq
  simp only [List.length_append] at hlen
  have w3 : IntKind.i64.wrap (((A.length + X.length : Nat) : Int) - (A.length : Int)) = (X.length : Int) := by rw [wrap64 (by omega)]; omega
  have hm : ((((A.length + X.length : Nat) : Int)) - (A.length : Int)).toNat = X.length := by omega
  show (if IntKind.i64.wrap (((A.length + X.length : Nat) : Int) - (A.length : Int)) ≤ 12 then _ else _ : Comp _).wp _
  rw [Comp.wp_ite, w3]
  split
  · exact ⟨_, isortZ (by omega), hS⟩
  · rename_i hX
    have hX : 12 < X.length := by omega
    rw [Comp.wp_ite, if_neg (by omega), Comp.wp_ite, if_neg (by simp)]
    have hnd : (A ++ X ++ C).Nodup := hp.nodup_iff.2 hn
    have hgetX : ∀ k u, A.length ≤ k → k < A.length + X.length → (A ++ X ++ C)[k]? = some u → u ∈ X := fun k u h1 h2 h3 => by
      rw [List.append_assoc, List.getElem?_append_right h1, List.getElem?_append_left (by omega)] at h3
      exact List.mem_of_getElem? h3
    obtain ⟨p, hint, c1, c2, c3, c4, v, c5, ⟨k1, u1, c6, c7, c8, c9⟩, ⟨k2, u2, d6, d7, d8, d9⟩⟩ := pivot_ret (a := A.length) (b := A.length + X.length) hnd (by simp) (by omega) (by omega) (by simp; omega)
    have hcont : ∀ Φ : List Int → Prop, (contP (A.length : Int) ((A.length + X.length : Nat) : Int) lim (A ++ X ++ C) (p : Int)).wp (Out (fun s' => PdI l lim s' ∧ (s'.2.2.1 - s'.2.1).toNat < X.length) Φ) := fun Φ => contP_wp hl hX hp hS c5 c3 c4 ⟨u1, hgetX k1 u1 c6 c7 c8, c9⟩ ⟨u2, hgetX k2 u2 d6 d7 d8, d9⟩
    have hk3 : ∀ (wpv : Bool) (Φ : List Int → Prop), (slices_pdqsortOrdered_uint8_2_k3 (A.length : Int) ((A.length + X.length : Nat) : Int) true wpv lim (p : Int) (A ++ X ++ C)).wp (Out (fun s' => PdI l lim s' ∧ (s'.2.2.1 - s'.2.1).toNat < X.length) Φ) := fun wpv Φ => by
      show (if 0 < (A.length : Int) then _ else _ : Comp _).wp _
      rw [Comp.wp_ite]
      split
      · rename_i hA
        have e1 : IntKind.i64.wrap ((A.length : Int) - 1) = ((A.length - 1 : Nat) : Int) := by rw [wrap64 (by omega)]; omega
        have hA1 : A.length - 1 < A.length := by omega
        have g1 : (A ++ X ++ C)[A.length - 1]? = some A[A.length - 1] := by
          rw [List.append_assoc, List.getElem?_append_left hA1]; exact List.getElem?_eq_getElem hA1
        have hle : A[A.length - 1] ≤ v := by
          have hsd := sortI_sd l
          rw [← hS, List.append_assoc] at hsd
          have h1 := (List.pairwise_append.1 hsd).2.2 A[A.length - 1] (List.getElem_mem hA1) v
          refine h1 (List.mem_append.2 (.inl ((sortI_perm X).mem_iff.2 (hgetX p v c3 c4 c5))))
        have hne : A[A.length - 1] ≠ v := nodup_at hnd g1 c5 (by omega)
        rw [e1]
        refine ⟨_, at_nat g1, v, at_nat c5, _, Less_ret _ _, ?_⟩
        rw [Comp.wp_ite, if_neg (by simp; omega)]
        exact hcont Φ
      · exact hcont Φ
    refine ⟨_, c1, ?_⟩
    show (if hint = 2 then _ else _ : Comp _).wp _
    rw [Comp.wp_ite, if_neg c2]
    show (if true = true then _ else _ : Comp _).wp _
    rw [Comp.wp_ite, if_pos rfl, Comp.wp_ite]
    have fin : ∀ c : Comp (((List Int) × Int × Int × Int × Bool × Bool) ⊕ (List Int)), ∀ Φ : List Int → Prop, c.wp (Out (fun s' => PdI l lim s' ∧ (s'.2.2.1 - s'.2.1).toNat < X.length) Φ) → c.wp (Out (fun s' => PdI l lim s' ∧ (s'.2.2.1 - s'.2.1).toNat < ((((A.length + X.length : Nat) : Int)) - (A.length : Int)).toNat) Φ) := fun c Φ h => by rw [hm]; exact h
    split
    · rw [Comp.wp_ite]
      split
      · obtain ⟨fl, q1, q2⟩ := partial_ret (d := A ++ X ++ C) (a := A.length) (b := A.length + X.length) (by simp) (by omega) (by omega) (by simp; omega)
        refine ⟨_, q1, ?_⟩
        show (if fl = true then _ else _ : Comp _).wp _
        rw [Comp.wp_ite]
        split
        · rename_i hfl
          show A ++ X ++ C = sortI l
          rw [← hS, sortI_id (sorted_of_adj (q2 hfl))]
        · exact fin _ _ (hk3 _ _)
      · exact fin _ _ (hk3 _ _)
    · exact fin _ _ (hk3 _ _)
theorem len_val : ∀ n : Fin 16, ((math_bits_Len (IntKind.u64.wrap (n.val : Int))).ev 1).any (fun v => decide (n.val ≤ 12) || decide (v ≠ 0)) = true := by decide +kernel
theorem sortU_ret {l : List Int} (hl : l.length ≤ 15) (hn : l.Nodup) : (slices_Sort_uint8_uint8 l).Ret (sortI l) := by
  have h := len_val ⟨l.length, by omega⟩
  rw [Option.any_eq_true] at h
  obtain ⟨v, hv, h2⟩ := h
  simp only [Bool.or_eq_true, decide_eq_true_eq] at h2
  exact ⟨v, Comp.Ret.of_ev 1 hv, _, pdq_ret hl hn h2, rfl⟩
end Go.EL
