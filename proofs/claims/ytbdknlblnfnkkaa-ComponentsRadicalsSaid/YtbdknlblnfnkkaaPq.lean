/- Sorting bytes: pivots, and the whole for up to 15 different ones. The conditions stand in each statement. -/
import Derived.Test.YtbdknlblnfnkkaaPo
namespace Go.EL
open Go
/-- The insertion of one element into a sorted range, behind a prefix. -/
theorem innerZ {Z : List Int} {x : Int} {R : List Int} : ∀ (n : Nat) (A B : List Int), A.length = n → Z.length + A.length < 1000000000 → Sd (A ++ B) → (∀ b ∈ B, x < b) → (slices_insertionSortOrdered_uint8_L4 (Z.length : Int) (Z ++ A ++ x :: (B ++ R), ((Z.length + A.length : Nat) : Int))).wp fun d => ∃ S, d = Z ++ S ++ R ∧ S.Perm (x :: (A ++ B)) ∧ Sd S := by
  intro n
  induction n with
  | zero =>
    intro A B hn _ hs hB
    have : A = [] := List.eq_nil_of_length_eq_zero hn
    subst this
    refine Comp.loop_fold ?_
    show (if (Z.length : Int) < ((Z.length + 0 : Nat) : Int) then _ else _ : Comp _).wp _
    rw [Comp.wp_ite, if_neg (by omega)]
    exact ⟨x :: B, by simp, List.Perm.refl _, List.pairwise_cons.2 ⟨fun b hb => Int.le_of_lt (hB b hb), hs⟩⟩
  | succ n ih =>
    intro A B hn hlt hs hB
    obtain ⟨A', y, rfl⟩ : ∃ A' y, A = A' ++ [y] := by
      rcases List.eq_nil_or_concat A with rfl | ⟨A', y, rfl⟩
      · simp at hn
      · exact ⟨A', y, List.concat_eq_append⟩
    have hn' : A'.length = n := by simp at hn; exact hn
    have e0 : Z ++ (A' ++ [y]) ++ x :: (B ++ R) = (Z ++ A') ++ y :: x :: (B ++ R) := by simp
    have el : Z.length + (A' ++ [y]).length = (Z ++ A').length + 1 := by simp; omega
    have eZ : (Z ++ A').length = Z.length + A'.length := by simp
    rw [el] at hlt
    rw [e0, el]
    refine Comp.loop_fold ?_
    show (if (Z.length : Int) < (((Z ++ A').length + 1 : Nat) : Int) then _ else _ : Comp _).wp _
    rw [Comp.wp_ite, if_pos (by omega)]
    have w1 : IntKind.i64.wrap ((((Z ++ A').length + 1 : Nat) : Int) - 1) = ((Z ++ A').length : Int) := by rw [wrap64 (by omega)]; omega
    have g1 : (0 : Int) ≤ (((Z ++ A').length + 1 : Nat) : Int) ∧ ((Z ++ A') ++ y :: x :: (B ++ R))[(((Z ++ A').length + 1 : Nat) : Int).toNat]? = some x := ⟨by omega, by
      have := get_mid ((Z ++ A') ++ [y]) (B ++ R) x
      have e1 : (Z ++ A') ++ [y] ++ x :: (B ++ R) = (Z ++ A') ++ y :: x :: (B ++ R) := by simp
      have e2 : ((Z ++ A') ++ [y]).length = (Z ++ A').length + 1 := by simp; omega
      rw [e1, e2] at this
      exact this⟩
    have g2 : (0 : Int) ≤ ((Z ++ A').length : Int) ∧ ((Z ++ A') ++ y :: x :: (B ++ R))[((Z ++ A').length : Int).toNat]? = some y := ⟨by omega, get_mid (Z ++ A') _ y⟩
    rw [w1]
    refine ⟨x, g1, y, g2, _, Less_ret x y, ?_⟩
    rw [Comp.wp_ite]
    split
    · rename_i h
      have hxy : x < y := of_decide_eq_true h
      refine ⟨y, g2, x, g1, x, g1, y, ⟨by omega, ?_⟩, ?_⟩
      · rw [show (((Z ++ A').length + 1 : Nat) : Int).toNat = (Z ++ A').length + 1 by omega, show ((Z ++ A').length : Int).toNat = (Z ++ A').length by omega, List.getElem?_set_ne (by omega)]
        exact get_mid (Z ++ A') _ y
      · rw [show (((Z ++ A').length + 1 : Nat) : Int).toNat = (Z ++ A').length + 1 by omega, show ((Z ++ A').length : Int).toNat = (Z ++ A').length by omega, set_mid]
        have := ih A' (y :: B) hn' (by omega) (by simpa using hs) (fun b hb => by
          rcases List.mem_cons.1 hb with rfl | hb
          · exact hxy
          · exact hB b hb)
        rw [eZ]
        show (slices_insertionSortOrdered_uint8_L4 (Z.length : Int) (Z ++ A' ++ x :: y :: (B ++ R), ((Z.length + A'.length : Nat) : Int))).wp _
        refine Comp.mono _ (fun d hd => ?_) this
        obtain ⟨S, h1, h2, h3⟩ := hd
        exact ⟨S, h1, by simpa using h2, h3⟩
    · rename_i h
      have hxy : y ≤ x := by simp only [decide_eq_true_eq] at h; omega
      refine ⟨A' ++ y :: x :: B, by simp, ?_, ?_⟩
      · have : (A' ++ y :: x :: B).Perm (x :: (A' ++ y :: B)) := by
          have := @List.perm_middle _ x (A' ++ [y]) B
          simpa using this
        simpa using this
      · have hs' : Sd (A' ++ y :: B) := by simpa using hs
        obtain ⟨p1, p2, p3⟩ := List.pairwise_append.1 hs'
        obtain ⟨p4, p5⟩ := List.pairwise_cons.1 p2
        refine List.pairwise_append.2 ⟨p1, List.pairwise_cons.2 ⟨fun b hb => ?_, List.pairwise_cons.2 ⟨fun b hb => Int.le_of_lt (hB b hb), p5⟩⟩, fun a ha b hb => ?_⟩
        · rcases List.mem_cons.1 hb with rfl | hb
          · exact hxy
          · exact p4 b hb
        · rcases List.mem_cons.1 hb with rfl | hb
          · exact p3 a ha b (by simp)
          · rcases List.mem_cons.1 hb with rfl | hb
            · exact Int.le_trans (p3 a ha y (by simp)) hxy
            · exact p3 a ha b (by simp [hb])
theorem isortZ {Z l R : List Int} (hl : Z.length + l.length < 1000000000) : (slices_insertionSortOrdered_uint8 (Z ++ l ++ R) (Z.length : Int) ((Z.length + l.length : Nat) : Int)).Ret (Z ++ sortI l ++ R) := by
  show (Comp.loop _ _).wp _
  rw [wrap64 (by omega)]
  cases l with
  | nil =>
    refine Comp.loop_fold ?_
    show (if (Z.length : Int) + 1 < ((Z.length + 0 : Nat) : Int) then _ else _ : Comp _).wp _
    rw [Comp.wp_ite, if_neg (by omega)]
    show Z ++ [] ++ R = Z ++ sortI [] ++ R
    rw [← sortI_eq (List.Perm.refl []) List.Pairwise.nil]
  | cons x0 l' =>
    simp only [List.length_cons] at hl
    refine Comp.loop_idx l'.length (fun k s => ∃ S, s = (Z ++ S ++ ((x0 :: l').drop (k + 1) ++ R), ((Z.length + (k + 1) : Nat) : Int)) ∧ S.Perm ((x0 :: l').take (k + 1)) ∧ Sd S) (fun k s hk hs => ?_) (fun s hs => ?_) ⟨[x0], by simp, by simp, by simp⟩
    · obtain ⟨S, rfl, hp, hS⟩ := hs
      have hk' : k + 1 < (x0 :: l').length := by simp; omega
      have hSl : S.length = k + 1 := by rw [hp.length_eq]; simp; omega
      show (if ((Z.length + (k + 1) : Nat) : Int) < ((Z.length + (x0 :: l').length : Nat) : Int) then _ else _ : Comp _).wp _
      rw [Comp.wp_ite, if_pos (by omega)]
      have hd : (x0 :: l').drop (k + 1) = (x0 :: l')[k + 1] :: (x0 :: l').drop (k + 1 + 1) := List.drop_eq_getElem_cons hk'
      have := innerZ (Z := Z) (x := (x0 :: l')[k + 1]) (R := (x0 :: l').drop (k + 1 + 1) ++ R) S.length S [] rfl (by omega) (by simpa using hS) (by simp)
      rw [List.nil_append, ← List.cons_append, ← hd, hSl] at this
      refine Comp.wp_next.2 (Comp.mono _ (fun d ⟨S', h1, h2, h3⟩ => ?_) this)
      refine ⟨S', ?_, ?_, h3⟩
      · rw [h1, wrapN (by omega)]; rfl
      · rw [(List.take_append_getElem hk').symm]
        refine h2.trans ?_
        simp only [List.append_nil]
        exact (List.Perm.cons _ hp).trans (List.perm_append_singleton _ _).symm
    · obtain ⟨S, rfl, hp, hS⟩ := hs
      show (if ((Z.length + (l'.length + 1) : Nat) : Int) < ((Z.length + (x0 :: l').length : Nat) : Int) then _ else _ : Comp _).wp _
      rw [Comp.wp_ite, if_neg (by simp)]
      show Z ++ S ++ ((x0 :: l').drop (l'.length + 1) ++ R) = Z ++ sortI (x0 :: l') ++ R
      rw [List.drop_of_length_le (by simp), List.nil_append]
      rw [List.take_of_length_le (by simp)] at hp
      rw [sortI_eq hp hS]
/-- The loop of a partition. -/
theorem part_L2 {d0 : List Int} {a b : Nat} {v : Int} (hn : d0.length ≤ 1000000) : ∀ s, (∃ d i j, s = (d, ((i : Nat) : Int), ((j : Nat) : Int)) ∧ Pt d0 a b v d i j) →
    ∃ r, (slices_partitionOrdered_uint8_L2 (a : Int) s).Ret r ∧ ∃ d i j, r = (d, ((j : Nat) : Int)) ∧ Pt d0 a b v d i j ∧ j < i := by
  refine Comp.loop_det (fun s => ∃ d i j, s = (d, ((i : Nat) : Int), ((j : Nat) : Int)) ∧ Pt d0 a b v d i j) (fun s => (s.2.2 + 1 - s.2.1).toNat) (fun s hs => ?_)
  obtain ⟨d, i, j, rfl, h⟩ := hs
  obtain ⟨i', j', h1, h2, h3, h4, h5, h6⟩ := h.pass hn
  have hb := h.jb
  have hbn := h.bn
  by_cases hc : j' < i'
  · refine ⟨.inr (d, (j' : Int)), ?_, .inr ⟨_, rfl, d, i', j', rfl, h3, hc⟩⟩
    refine Comp.wp_next.2 (Comp.Ret.then (a := (i' : Int)) h1 (Comp.wp_next.2 (Comp.Ret.then (a := (j' : Int)) h2 ?_)))
    show (if (j' : Int) < (i' : Int) then _ else _ : Comp _).wp _
    rw [Comp.wp_ite, if_pos (by omega)]
    rfl
  · obtain ⟨x, y, hx, hy, hlt, hp⟩ := h6 (by omega)
    have e1 : IntKind.i64.wrap ((j' : Int) - 1) = ((j' - 1 : Nat) : Int) := by rw [wrap64 (by omega)]; omega
    have e2 : IntKind.i64.wrap ((i' : Int) + 1) = ((i' + 1 : Nat) : Int) := wrapN (by omega)
    refine ⟨.inl ((d.set i' x).set j' y, ((i' + 1 : Nat) : Int), ((j' - 1 : Nat) : Int)), ?_, .inl ⟨_, rfl, ⟨_, _, _, rfl, hp⟩, ?_⟩⟩
    · refine Comp.wp_next.2 (Comp.Ret.then (a := (i' : Int)) h1 (Comp.wp_next.2 (Comp.Ret.then (a := (j' : Int)) h2 ?_)))
      show (if (j' : Int) < (i' : Int) then _ else _ : Comp _).wp _
      rw [Comp.wp_ite, if_neg (by omega)]
      have hl : (d.set i' x).length = d.length := by simp
      have hj : j' < d.length := by have := h.len; omega
      refine ⟨x, at_nat hx, y, at_nat hy, y, at_nat hy, (d.set i' x)[j']'(by omega), ⟨by omega, ?_⟩, ?_⟩
      · exact List.getElem?_eq_getElem (l := d.set i' x) (i := j') (by omega)
      · show _ = _
        rw [e1, e2]
        rfl
    · have h31 := h3.ij
      show (((j' - 1 : Nat) : Int) + 1 - ((i' + 1 : Nat) : Int)).toNat < ((j : Int) + 1 - (i : Int)).toNat
      omega
theorem part_ret {d0 : List Int} {a b p : Nat} {v : Int} (hp : d0[p]? = some v) (hap : a ≤ p) (hpb : p < b) (hab : a + 1 < b) (hbn : b ≤ d0.length) (hn : d0.length ≤ 1000000) :
    ∃ (j : Nat) (fl : Bool) (d : List Int), (slices_partitionOrdered_uint8 d0 (a : Int) (b : Int) (p : Int)).Ret ((j : Int), fl, d) ∧ d.Perm d0 ∧ (∀ k, k < a ∨ b ≤ k → d[k]? = d0[k]?) ∧ d[j]? = some v ∧ a ≤ j ∧ j < b ∧
      (∀ k z, a ≤ k → k < j → d[k]? = some z → z < v) ∧ (∀ k z, j < k → k < b → d[k]? = some z → v ≤ z) := by
  have hga : d0[a]? = some d0[a] := List.getElem?_eq_getElem (by omega)
  obtain ⟨s1, s2⟩ := swap_spec hga hp
  have hP : Pt d0 a b v ((d0.set a v).set p d0[a]) (a + 1) (b - 1) := by
    refine ⟨s1, fun k hk => ?_, ?_, fun k x q1 q2 => by omega, fun k x q1 q2 => by omega, by omega, by omega, by omega, hbn⟩
    · rw [s2, if_neg (by omega), if_neg (by omega)]
    · rw [s2]
      by_cases e : a = p
      · subst e; rw [if_pos rfl, ← hga]; exact hp
      · rw [if_neg e, if_pos rfl]
  obtain ⟨i', j', h1, h2, h3, h4, h5, h6⟩ := hP.pass hn
  have hl := hP.len
  have eb : IntKind.i64.wrap ((b : Int) - 1) = ((b - 1 : Nat) : Int) := by rw [wrap64 (by omega)]; omega
  have ea : IntKind.i64.wrap ((a : Int) + 1) = ((a + 1 : Nat) : Int) := wrapN (by omega)
  have pre : ∀ r, (slices_partitionOrdered_uint8_k7 d0 (a : Int) (p : Int) v d0[a] (i' : Int) (j' : Int)).Ret r → (slices_partitionOrdered_uint8 d0 (a : Int) (b : Int) (p : Int)).Ret r := fun r hr => by
    refine ⟨v, at_nat hp, d0[a], at_nat hga, d0[a], at_nat hga, (d0.set a v)[p]'(by simp; omega), ⟨by omega, List.getElem?_eq_getElem (l := d0.set a v) (i := p) (by simp; omega)⟩, ?_⟩
    refine Comp.wp_next.2 ?_
    rw [ea]
    refine Comp.Ret.then (a := (i' : Int)) ?_ ?_
    · show (scanUp ((d0.set a v).set p d0[a]) a (IntKind.i64.wrap ((b : Int) - 1)) ((a + 1 : Nat) : Int)).Ret _
      rw [eb]; exact h1
    · refine Comp.wp_next.2 ?_
      rw [eb]
      exact Comp.Ret.then (a := (j' : Int)) h2 hr
  by_cases hc : j' < i'
  · obtain ⟨x, q1, q2, q3, q4, q5, q6, q7, q8⟩ := h3.last hc
    refine ⟨j', true, _, pre _ ?_, q2, q3, q4, q5, q6, q7, q8⟩
    show (if (j' : Int) < (i' : Int) then _ else _ : Comp _).wp _
    rw [Comp.wp_ite, if_pos (by omega)]
    exact ⟨v, at_nat h3.piv, x, at_nat q1, x, at_nat q1, (((d0.set a v).set p d0[a]).set j' v)[a]'(by simp; omega), ⟨by omega, List.getElem?_eq_getElem (l := ((d0.set a v).set p d0[a]).set j' v) (i := a) (by simp; omega)⟩, rfl⟩
  · obtain ⟨x, y, hx, hy, hlt, hPt⟩ := h6 (by omega)
    have e1 : IntKind.i64.wrap ((j' : Int) - 1) = ((j' - 1 : Nat) : Int) := by rw [wrap64 (by omega)]; omega
    have e2 : IntKind.i64.wrap ((i' : Int) + 1) = ((i' + 1 : Nat) : Int) := wrapN (by omega)
    obtain ⟨r, g1, d, i2, j2, rfl, g2, g3⟩ := part_L2 (a := a) (b := b) (v := v) hn _ ⟨_, _, _, rfl, hPt⟩
    obtain ⟨x2, q1, q2, q3, q4, q5, q6, q7, q8⟩ := g2.last g3
    refine ⟨j2, false, _, pre _ ?_, q2, q3, q4, q5, q6, q7, q8⟩
    show (if (j' : Int) < (i' : Int) then _ else _ : Comp _).wp _
    rw [Comp.wp_ite, if_neg (by omega)]
    refine ⟨x, at_nat hx, y, at_nat hy, y, at_nat hy, (((d0.set a v).set p d0[a]).set i' x)[j']'(by simp; omega), ⟨by omega, List.getElem?_eq_getElem (l := ((d0.set a v).set p d0[a]).set i' x) (i := j') (by simp; omega)⟩, Comp.wp_next.2 ?_⟩
    rw [e1, e2]
    refine g1.then ?_
    have hl2 := g2.len
    exact ⟨v, at_nat g2.piv, x2, at_nat q1, x2, at_nat q1, (d.set j2 v)[a]'(by simp; omega), ⟨by omega, List.getElem?_eq_getElem (l := d.set j2 v) (i := a) (by simp; omega)⟩, rfl⟩
end Go.EL
