/- Sorting bytes: ranges, partitions. The conditions stand in each statement. -/
import Derived.Test.YtbdknlblnfnkkaaPs
namespace Go.EL
open Go
/-- A loop with a result that is told. -/
theorem Comp.loop_det {σ ρ : Type} {step : σ → Comp (σ ⊕ ρ)} {Φ : ρ → Prop} (I : σ → Prop) (m : σ → Nat)
    (h : ∀ s, I s → ∃ o, (step s).Ret o ∧ ((∃ s', o = .inl s' ∧ I s' ∧ m s' < m s) ∨ ∃ r, o = .inr r ∧ Φ r)) : ∀ s, I s → ∃ r, (Comp.loop step s).Ret r ∧ Φ r := by
  have key : ∀ n s, m s ≤ n → I s → ∃ r, (Comp.loop step s).Ret r ∧ Φ r := by
    intro n
    induction n with
    | zero =>
      intro s hn hs
      obtain ⟨o, h1, h2⟩ := h s hs
      rcases h2 with ⟨s', rfl, _, hlt⟩ | ⟨r, rfl, hr⟩
      · omega
      · exact ⟨r, Comp.loop_fold (h1.then rfl), hr⟩
    | succ n ih =>
      intro s hn hs
      obtain ⟨o, h1, h2⟩ := h s hs
      rcases h2 with ⟨s', rfl, hi, hlt⟩ | ⟨r, rfl, hr⟩
      · obtain ⟨r, h3, h4⟩ := ih s' (by omega) hi
        exact ⟨r, Comp.loop_fold (h1.then h3), h4⟩
      · exact ⟨r, Comp.loop_fold (h1.then rfl), hr⟩
  exact fun s hs => key (m s) s (Nat.le_refl _) hs
theorem at_nat {d : List Int} {i : Nat} {x : Int} (h : d[i]? = some x) : (0 : Int) ≤ (i : Int) ∧ d[(i : Int).toNat]? = some x := ⟨by omega, by simpa using h⟩
theorem swap_spec {d : List Int} {i j : Nat} {x y : Int} (hi : d[i]? = some y) (hj : d[j]? = some x) : ((d.set i x).set j y).Perm d ∧ ∀ k, ((d.set i x).set j y)[k]? = if k = j then some y else if k = i then some x else d[k]? := by
  obtain ⟨h1, rfl⟩ := List.getElem?_eq_some_iff.1 hi
  obtain ⟨h2, rfl⟩ := List.getElem?_eq_some_iff.1 hj
  refine ⟨List.set_set_perm h1 h2, fun k => ?_⟩
  rw [List.getElem?_set, List.getElem?_set]
  by_cases e : k = j
  · subst e; simp [h2]
  · rw [if_neg (fun q => e q.symm), if_neg e]
    by_cases e' : k = i
    · subst e'; simp [h1]
    · rw [if_neg (fun q => e' q.symm), if_neg e']
/-- Up, as long as less than the pivot. -/
def scanUp (d : List Int) (a B : Int) : Int → Comp Int :=
  Comp.loop fun i => if i ≤ B then (Comp.at' d i fun x => Comp.at' d a fun y => Comp.bind (cmp_Less_uint8 x y) fun c => if c = true then (Comp.ret (.inl (IntKind.i64.wrap (i + 1)))) else (Comp.ret (.inr i))) else (Comp.ret (.inr i))
def scanDown (d : List Int) (a I : Int) : Int → Comp Int :=
  Comp.loop fun j => if I ≤ j then (Comp.at' d j fun x => Comp.at' d a fun y => Comp.bind (cmp_Less_uint8 x y) fun c => if (!c) = true then (Comp.ret (.inl (IntKind.i64.wrap (j - 1)))) else (Comp.ret (.inr j))) else (Comp.ret (.inr j))
theorem scanUp_ret {d : List Int} {a B i : Nat} {v : Int} (ha : d[a]? = some v) (hB : B < d.length) (hi : i ≤ B + 1) (hd : d.length ≤ 1000000) :
    ∃ r : Nat, (scanUp d a B i).Ret (r : Int) ∧ i ≤ r ∧ r ≤ B + 1 ∧ (∀ k x, i ≤ k → k < r → d[k]? = some x → x < v) ∧ (r ≤ B → ∃ x, d[r]? = some x ∧ ¬ x < v) := by
  obtain ⟨r, h1, r', rfl, h2⟩ := Comp.loop_det (step := fun i : Int => if i ≤ (B : Int) then (Comp.at' d i fun x => Comp.at' d (a : Int) fun y => Comp.bind (cmp_Less_uint8 x y) fun c => if c = true then (Comp.ret (.inl (IntKind.i64.wrap (i + 1)))) else (Comp.ret (.inr i))) else (Comp.ret (.inr i)))
    (Φ := fun z : Int => ∃ r : Nat, z = (r : Int) ∧ i ≤ r ∧ r ≤ B + 1 ∧ (∀ k x, i ≤ k → k < r → d[k]? = some x → x < v) ∧ (r ≤ B → ∃ x, d[r]? = some x ∧ ¬ x < v))
    (fun z => ∃ r : Nat, z = (r : Int) ∧ i ≤ r ∧ r ≤ B + 1 ∧ (∀ k x, i ≤ k → k < r → d[k]? = some x → x < v)) (fun z => (B + 1 - z).toNat) (fun s hs => by
    obtain ⟨r, rfl, h1, h2, h3⟩ := hs
    by_cases hr : r ≤ B
    · have hget : d[r]? = some d[r] := List.getElem?_eq_getElem (by omega)
      by_cases hlt : d[r] < v
      · refine ⟨.inl (IntKind.i64.wrap ((r : Int) + 1)), ?_, .inl ⟨_, rfl, ⟨r + 1, wrapN (by omega), by omega, by omega, fun k x h4 h5 h6 => ?_⟩, ?_⟩⟩
        · show (if (r : Int) ≤ (B : Int) then _ else _ : Comp _).wp _
          rw [Comp.wp_ite, if_pos (by omega)]
          refine ⟨d[r], at_nat hget, v, at_nat ha, _, Less_ret _ _, ?_⟩
          rw [Comp.wp_ite, if_pos (decide_eq_true hlt)]
          rfl
        · by_cases e : k = r
          · subst e; rw [hget] at h6; cases h6; exact hlt
          · exact h3 k x h4 (by omega) h6
        · rw [wrapN (by omega)]; omega
      · refine ⟨.inr (r : Int), ?_, .inr ⟨_, rfl, r, rfl, h1, h2, h3, fun _ => ⟨_, hget, hlt⟩⟩⟩
        show (if (r : Int) ≤ (B : Int) then _ else _ : Comp _).wp _
        rw [Comp.wp_ite, if_pos (by omega)]
        refine ⟨d[r], at_nat hget, v, at_nat ha, _, Less_ret _ _, ?_⟩
        rw [Comp.wp_ite, if_neg (by simp [hlt])]
        rfl
    · refine ⟨.inr (r : Int), ?_, .inr ⟨_, rfl, r, rfl, h1, h2, h3, fun h => absurd h hr⟩⟩
      show (if (r : Int) ≤ (B : Int) then _ else _ : Comp _).wp _
      rw [Comp.wp_ite, if_neg (by omega)]
      rfl) (i : Int) ⟨i, rfl, Nat.le_refl _, hi, fun k x h4 h5 => by omega⟩
  exact ⟨r', h1, h2⟩
theorem scanDown_ret {d : List Int} {a I j : Nat} {v : Int} (ha : d[a]? = some v) (hj : j < d.length) (hI : 1 ≤ I) (hi : I ≤ j + 1) (hd : d.length ≤ 1000000) :
    ∃ r : Nat, (scanDown d a I j).Ret (r : Int) ∧ I ≤ r + 1 ∧ r ≤ j ∧ (∀ k x, r < k → k ≤ j → d[k]? = some x → ¬ x < v) ∧ (I ≤ r → ∃ x, d[r]? = some x ∧ x < v) := by
  obtain ⟨r, h1, r', rfl, h2⟩ := Comp.loop_det (step := fun j : Int => if (I : Int) ≤ j then (Comp.at' d j fun x => Comp.at' d (a : Int) fun y => Comp.bind (cmp_Less_uint8 x y) fun c => if (!c) = true then (Comp.ret (.inl (IntKind.i64.wrap (j - 1)))) else (Comp.ret (.inr j))) else (Comp.ret (.inr j)))
    (Φ := fun z : Int => ∃ r : Nat, z = (r : Int) ∧ I ≤ r + 1 ∧ r ≤ j ∧ (∀ k x, r < k → k ≤ j → d[k]? = some x → ¬ x < v) ∧ (I ≤ r → ∃ x, d[r]? = some x ∧ x < v))
    (fun z => ∃ r : Nat, z = (r : Int) ∧ I ≤ r + 1 ∧ r ≤ j ∧ (∀ k x, r < k → k ≤ j → d[k]? = some x → ¬ x < v)) (fun z => z.toNat) (fun s hs => by
    obtain ⟨r, rfl, h1, h2, h3⟩ := hs
    by_cases hr : I ≤ r
    · have hget : d[r]? = some d[r] := List.getElem?_eq_getElem (by omega)
      have e1 : IntKind.i64.wrap ((r : Int) - 1) = ((r - 1 : Nat) : Int) := by rw [wrap64 (by omega)]; omega
      by_cases hlt : d[r] < v
      · refine ⟨.inr (r : Int), ?_, .inr ⟨_, rfl, r, rfl, h1, h2, h3, fun _ => ⟨_, hget, hlt⟩⟩⟩
        show (if (I : Int) ≤ (r : Int) then _ else _ : Comp _).wp _
        rw [Comp.wp_ite, if_pos (by omega)]
        refine ⟨d[r], at_nat hget, v, at_nat ha, _, Less_ret _ _, ?_⟩
        rw [Comp.wp_ite, if_neg (by simp [hlt])]
        rfl
      · refine ⟨.inl (IntKind.i64.wrap ((r : Int) - 1)), ?_, .inl ⟨_, rfl, ⟨r - 1, e1, by omega, by omega, fun k x h4 h5 h6 => ?_⟩, ?_⟩⟩
        · show (if (I : Int) ≤ (r : Int) then _ else _ : Comp _).wp _
          rw [Comp.wp_ite, if_pos (by omega)]
          refine ⟨d[r], at_nat hget, v, at_nat ha, _, Less_ret _ _, ?_⟩
          rw [Comp.wp_ite, if_pos (by simp [hlt])]
          rfl
        · by_cases e : k = r
          · subst e; rw [hget] at h6; cases h6; exact hlt
          · exact h3 k x (by omega) h5 h6
        · rw [e1]; omega
    · refine ⟨.inr (r : Int), ?_, .inr ⟨_, rfl, r, rfl, h1, h2, h3, fun h => absurd h hr⟩⟩
      show (if (I : Int) ≤ (r : Int) then _ else _ : Comp _).wp _
      rw [Comp.wp_ite, if_neg (by omega)]
      rfl) (j : Int) ⟨j, rfl, hi, Nat.le_refl _, fun k x h4 h5 => by omega⟩
  exact ⟨r', h1, h2⟩
/-- On the way of a partition of the cells from a to b. -/
structure Pt (d0 : List Int) (a b : Nat) (v : Int) (d : List Int) (i j : Nat) : Prop where
  perm : d.Perm d0
  out : ∀ k, k < a ∨ b ≤ k → d[k]? = d0[k]?
  piv : d[a]? = some v
  lo : ∀ k x, a < k → k < i → d[k]? = some x → x < v
  hi : ∀ k x, j < k → k < b → d[k]? = some x → v ≤ x
  ai : a < i
  ij : i ≤ j + 1
  jb : j < b
  bn : b ≤ d0.length
theorem Pt.len {d0 d : List Int} {a b i j : Nat} {v : Int} (h : Pt d0 a b v d i j) : d.length = d0.length := h.perm.length_eq
/-- One pass: either the pointers have met, or two elements change places. -/
theorem Pt.pass {d0 d : List Int} {a b i j : Nat} {v : Int} (h : Pt d0 a b v d i j) (hn : d0.length ≤ 1000000) :
    ∃ i' j' : Nat, (scanUp d a j i).Ret (i' : Int) ∧ (scanDown d a i' j).Ret (j' : Int) ∧ Pt d0 a b v d i' j' ∧ i ≤ i' ∧ j' ≤ j ∧
      (i' ≤ j' → ∃ x y, d[j']? = some x ∧ d[i']? = some y ∧ i' < j' ∧ Pt d0 a b v ((d.set i' x).set j' y) (i' + 1) (j' - 1)) := by
  have hl := h.len
  have hai0 := h.ai
  obtain ⟨i', h1, h2, h3, h4, h5⟩ := scanUp_ret (B := j) (i := i) h.piv (by have := h.jb; have := h.bn; omega) h.ij (by omega)
  obtain ⟨j', g1, g2, g3, g4, g5⟩ := scanDown_ret (I := i') (j := j) h.piv (by have := h.jb; have := h.bn; omega) (by omega) h3 (by omega)
  have hlo : ∀ k x, a < k → k < i' → d[k]? = some x → x < v := fun k x q1 q2 q3 => by
    by_cases e : k < i
    · exact h.lo k x q1 e q3
    · exact h4 k x (by omega) q2 q3
  have hhi : ∀ k x, j' < k → k < b → d[k]? = some x → v ≤ x := fun k x q1 q2 q3 => by
    by_cases e : j < k
    · exact h.hi k x e q2 q3
    · have := g4 k x q1 (by omega) q3; omega
  have hai := h.ai
  have hjb := h.jb
  have hbn := h.bn
  refine ⟨i', j', h1, g1, ⟨h.perm, h.out, h.piv, hlo, hhi, by omega, g2, by omega, h.bn⟩, h2, g3, fun hij => ?_⟩
  obtain ⟨y, hy, hy2⟩ := h5 (by omega)
  obtain ⟨x, hx, hx2⟩ := g5 hij
  have hne : i' ≠ j' := fun e => by subst e; rw [hy] at hx; cases hx; exact hy2 hx2
  obtain ⟨s1, s2⟩ := swap_spec hy hx
  refine ⟨x, y, hx, hy, by omega, ⟨s1.trans h.perm, fun k hk => ?_, ?_, fun k z q1 q2 q3 => ?_, fun k z q1 q2 q3 => ?_, by omega, by omega, by omega, h.bn⟩⟩
  · rw [s2, if_neg (by omega), if_neg (by omega)]; exact h.out k hk
  · rw [s2, if_neg (by omega), if_neg (by omega)]; exact h.piv
  · rw [s2] at q3
    rw [if_neg (by omega)] at q3
    by_cases e : k = i'
    · rw [if_pos e] at q3; cases q3; exact hx2
    · rw [if_neg e] at q3; exact hlo k z q1 (by omega) q3
  · rw [s2] at q3
    by_cases e : k = j'
    · rw [if_pos e] at q3; cases q3; omega
    · rw [if_neg e, if_neg (by omega)] at q3; exact hhi k z (by omega) q2 q3
/-- The pivot is put in its place. -/
theorem Pt.last {d0 d : List Int} {a b i j : Nat} {v : Int} (h : Pt d0 a b v d i j) (hij : j < i) :
    ∃ x, d[j]? = some x ∧ ((d.set j v).set a x).Perm d0 ∧ (∀ k, k < a ∨ b ≤ k → ((d.set j v).set a x)[k]? = d0[k]?) ∧ ((d.set j v).set a x)[j]? = some v ∧ a ≤ j ∧ j < b ∧
      (∀ k z, a ≤ k → k < j → ((d.set j v).set a x)[k]? = some z → z < v) ∧ (∀ k z, j < k → k < b → ((d.set j v).set a x)[k]? = some z → v ≤ z) := by
  have hl := h.len
  have hai := h.ai
  have hij' := h.ij
  have hjb := h.jb
  have hbn := h.bn
  have hget : d[j]? = some d[j] := List.getElem?_eq_getElem (by omega)
  obtain ⟨s1, s2⟩ := swap_spec hget h.piv
  refine ⟨d[j], hget, s1.trans h.perm, fun k hk => ?_, ?_, by omega, by omega, fun k z q1 q2 q3 => ?_, fun k z q1 q2 q3 => ?_⟩
  · rw [s2, if_neg (by omega), if_neg (by omega)]; exact h.out k hk
  · rw [s2]
    by_cases e : j = a
    · rw [if_pos e, ← hget, e]; exact h.piv
    · rw [if_neg e, if_pos rfl]
  · rw [s2] at q3
    by_cases e : k = a
    · rw [if_pos e] at q3; cases q3
      exact h.lo j _ (by omega) (by omega) hget
    · rw [if_neg e, if_neg (by omega)] at q3
      exact h.lo k z (by omega) (by omega) q3
  · rw [s2, if_neg (by omega), if_neg (by omega)] at q3
    exact h.hi k z q1 q2 q3
end Go.EL
