/- What the comparison of monomials returns. No condition. -/
import Derived.Test.YtbdknlblnfnkkaaPk
import Derived.Test.YtbdknlblnfnkkaaMo
namespace Go.EL
open Go
theorem monomial_Cmp_ret (a b : M) : (monomial_Cmp a b).Ret (cmpM a b) := by
  unfold monomial_Cmp
  by_cases h : a = b
  · rw [if_pos h]
    subst h
    exact (cmpM_self a).symm
  · rw [if_neg h]
    have hne : ∀ k : Nat, k ≤ 8 → (∀ j : Fin 8, j.val < k → a j = b j) → k < 8 := fun k hk hj => by
      rcases Nat.lt_or_ge k 8 with h1 | h1
      · exact h1
      · exact absurd (funext fun j => hj j (by omega)) h
    refine Comp.loop_inv (I := fun i : Int => 0 ≤ i ∧ i < 8 ∧ ∀ j : Fin 8, (j.val : Int) < i → a j = b j) (m := fun i => (8 - i).toNat) (fun i hi => ?_) 0 ⟨by omega, by omega, fun j hj => by omega⟩
    obtain ⟨h0, h8, hj⟩ := hi
    refine ⟨⟨h0, h8⟩, ⟨h0, h8⟩, ?_⟩
    rw [Comp.wp_ite, getF8 ⟨h0, h8⟩, getF8 ⟨h0, h8⟩]
    split
    · rename_i e
      have hj' : ∀ j : Fin 8, (j.val : Int) < i + 1 → a j = b j := fun j hj1 => by
        by_cases h2 : (j.val : Int) < i
        · exact hj j h2
        · have : j = ⟨i.toNat, by omega⟩ := Fin.ext (by simp; omega)
          rw [this]; exact e
      have := hne (i + 1).toNat (by omega) (fun j hj1 => hj' j (by omega))
      rw [Comp.wp_ret, Comp.Out_inl, wrap64 (by omega)]
      exact ⟨⟨by omega, by omega, hj'⟩, by omega⟩
    · rename_i e
      refine ⟨⟨h0, h8⟩, ⟨h0, h8⟩, ?_⟩
      rw [Comp.wp_ite, getF8 ⟨h0, h8⟩, getF8 ⟨h0, h8⟩]
      have hk : i.toNat < 8 := by omega
      split
      · rename_i e2
        exact (cmpM_lt a b hk (fun j hj1 => hj j (by omega)) e2).symm
      · rename_i e2
        exact (cmpM_gt a b hk (fun j hj1 => hj j (by omega)) (by omega)).symm
theorem irreducible_c1_ret (a b : M) : (components_irreducible_c1 a b).Ret (cmpM b a) := ⟨_, monomial_Cmp_ret b a, rfl⟩
end Go.EL
