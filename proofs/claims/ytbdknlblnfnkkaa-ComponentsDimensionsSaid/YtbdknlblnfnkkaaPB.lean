/- Plain computations: how their claims unfold. No condition. -/
import Derived.Test.YtbdknlblnfnkkaaED
import Derived.Test.YtbdknlblnfnkkaaMo
namespace Go.EL
open Go
namespace Comp
variable {α β σ ρ : Type}
theorem Ret_iff {c : Comp α} {r : α} : c.Ret r ↔ c.wp (fun a => a = r) := Iff.rfl
theorem wp_ret {a : α} {p : α → Prop} : (Comp.ret a).wp p ↔ p a := Iff.rfl
theorem wp_fail {p : α → Prop} : (Comp.fail : Comp α).wp p ↔ False := Iff.rfl
theorem wp_chk {q : Prop} [Decidable q] {c : Comp α} {p : α → Prop} : (Comp.chk q c).wp p ↔ q ∧ c.wp p := Iff.rfl
theorem wp_bind {c : Comp α} {k : α → Comp β} {p : β → Prop} : (Comp.bind c k).wp p ↔ ∃ a, c.Ret a ∧ (k a).wp p := Iff.rfl
theorem wp_next {c : Comp α} {k : α → Comp β} {p : β → Prop} : (Comp.next c k).wp p ↔ c.wp fun a => (k a).wp p := Iff.rfl
theorem wp_at {l : List α} {i : Int} {k : α → Comp β} {p : β → Prop} : (Comp.at' l i k).wp p ↔ ∃ a, (0 ≤ i ∧ l[i.toNat]? = some a) ∧ (k a).wp p := Iff.rfl
theorem wp_any {q : α → Prop} {k : α → Comp β} {p : β → Prop} : (Comp.any q k).wp p ↔ ∀ a, q a → (k a).wp p := Iff.rfl
theorem wp_nil {l : List β} {c d : Comp α} {p : α → Prop} : (Comp.nilCase l c d).wp p ↔ (l = [] → c.wp p) ∧ d.wp p := Iff.rfl
theorem wp_ite {q : Prop} [Decidable q] {c d : Comp α} {p : α → Prop} : (if q then c else d).wp p ↔ if q then c.wp p else d.wp p := by split <;> rfl
theorem Out_inl {A : σ → Prop} {Φ : ρ → Prop} {s : σ} : Out A Φ (.inl s) ↔ A s := Iff.rfl
theorem Out_inr {A : σ → Prop} {Φ : ρ → Prop} {r : ρ} : Out A Φ (.inr r) ↔ Φ r := Iff.rfl
theorem Ret.then {c : Comp α} {a : α} (h : c.Ret a) {p : α → Prop} (hp : p a) : c.wp p := c.mono (fun b e => by rw [e]; exact hp) h
end Comp
theorem wrap64 {x : Int} (h : -9223372036854775808 ≤ x ∧ x ≤ 9223372036854775807) : IntKind.i64.wrap x = x := IntWalk.i64_in _ h
theorem getF8 {a : Fin 8 → Int} {i : Int} (h : 0 ≤ i ∧ i < 8) : getF a i = a ⟨i.toNat, by omega⟩ := getF_eq a (by omega)
end Go.EL
/- What the comparison of monomials returns. No condition. -/
namespace Go.EL
open Go
theorem monomial_Cmp_ret (a b : M) : (monomial_Cmp a b).Ret (cmpM a b) := by
  unfold monomial_Cmp
  by_cases h : a = b
  · rw [if_pos h]
    subst h
    exact (cmpM_self a).symm
  · rw [if_neg h]
    have hne : ∀ k : Nat, k ≤ 8 → (∀ j : Fin 8, j.val < k → a j = b j) → k < 8 := fun k hk hj => by
      rcases Nat.lt_or_ge k 8 with h1 | h1
      · exact h1
      · exact absurd (funext fun j => hj j (by omega)) h
    refine Comp.loop_inv (I := fun i : Int => 0 ≤ i ∧ i < 8 ∧ ∀ j : Fin 8, (j.val : Int) < i → a j = b j) (m := fun i => (8 - i).toNat) (fun i hi => ?_) 0 ⟨by omega, by omega, fun j hj => by omega⟩
    obtain ⟨h0, h8, hj⟩ := hi
    refine ⟨⟨h0, h8⟩, ⟨h0, h8⟩, ?_⟩
    rw [Comp.wp_ite, getF8 ⟨h0, h8⟩, getF8 ⟨h0, h8⟩]
    split
    · rename_i e
      have hj' : ∀ j : Fin 8, (j.val : Int) < i + 1 → a j = b j := fun j hj1 => by
        by_cases h2 : (j.val : Int) < i
        · exact hj j h2
        · have : j = ⟨i.toNat, by omega⟩ := Fin.ext (by simp; omega)
          rw [this]; exact e
      have := hne (i + 1).toNat (by omega) (fun j hj1 => hj' j (by omega))
      rw [Comp.wp_ret, Comp.Out_inl, wrap64 (by omega)]
      exact ⟨⟨by omega, by omega, hj'⟩, by omega⟩
    · rename_i e
      refine ⟨⟨h0, h8⟩, ⟨h0, h8⟩, ?_⟩
      rw [Comp.wp_ite, getF8 ⟨h0, h8⟩, getF8 ⟨h0, h8⟩]
      have hk : i.toNat < 8 := by omega
      split
      · rename_i e2
        exact (cmpM_lt a b hk (fun j hj1 => hj j (by omega)) e2).symm
      · rename_i e2
        exact (cmpM_gt a b hk (fun j hj1 => hj j (by omega)) (by omega)).symm
theorem irreducible_c1_ret (a b : M) : (components_irreducible_c1 a b).Ret (cmpM b a) := ⟨_, monomial_Cmp_ret b a, rfl⟩
end Go.EL
