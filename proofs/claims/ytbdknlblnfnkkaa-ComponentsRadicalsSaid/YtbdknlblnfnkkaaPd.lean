/- Loops over indexes; what the functions of monomials return. The conditions stand in each statement. -/
import Derived.Test.YtbdknlblnfnkkaaPb
import Derived.Test.YtbdknlblnfnkkaaPc
namespace Go.EL
open Go
/-- A loop that counts to n, or is left before. -/
theorem Comp.loop_idx {σ ρ : Type} {step : σ → Comp (σ ⊕ ρ)} {Φ : ρ → Prop} (n : Nat) (I : Nat → σ → Prop) (h : ∀ k s, k < n → I k s → (step s).wp (Out (fun s' => I (k + 1) s') Φ)) (hend : ∀ s, I n s → (step s).wp (Out (fun _ => False) Φ)) :
    ∀ {s : σ}, I 0 s → (Comp.loop step s).wp Φ := by
  have key : ∀ d k s, k + d = n → I k s → (Comp.loop step s).wp Φ := by
    intro d
    induction d with
    | zero => intro k s hk hs; rw [Nat.add_zero] at hk; subst hk; exact Comp.loop_fold ((step s).mono (Out.mono (fun _ h => h.elim) (fun _ x => x)) (hend s hs))
    | succ d ih => intro k s hk hs; exact Comp.loop_fold ((step s).mono (Out.mono (fun s' h' => ih (k + 1) s' (by omega) h') (fun _ x => x)) (h k s (by omega) hs))
  exact fun {s} hs => key n 0 s (by omega) hs
theorem wrapN {k : Nat} (h : k < 1000000000000) : IntKind.i64.wrap ((k : Int) + 1) = ((k + 1 : Nat) : Int) := by rw [wrap64 (by omega)]; simp
theorem idxN {α : Type} {l : List α} {k : Nat} (h : k < l.length) : (0 : Int) ≤ (k : Int) ∧ l[(k : Int).toNat]? = some l[k] := ⟨by omega, by simp [h]⟩
theorem getFN {a : M} {k : Nat} (h : k < 8) : getF a (k : Int) = a ⟨k, h⟩ := by rw [getF8 (by omega)]; rfl
/-- A list within the bounds of the model. -/
def Lb {α : Type} (l : List α) : Prop := l.length ≤ 1000000000

theorem monomial_Divides_ret (a b : M) : (monomial_Divides a b).Ret (decide (dvdM a b)) := by
  refine Comp.loop_idx 8 (fun k s => s = (k : Int) ∧ ∀ i : Fin 8, i.val < k → a i ≤ b i) (fun k s hk hs => ?_) (fun s hs => ?_) ⟨rfl, fun i hi => by omega⟩
  · obtain ⟨rfl, hi⟩ := hs
    rw [Comp.wp_ite, if_pos (by omega)]
    refine ⟨by omega, by omega, ?_⟩
    rw [Comp.wp_ite, getFN hk, getFN hk]
    split
    · rename_i h
      show _ = _
      exact (decide_eq_false (fun hd => by have := hd ⟨k, hk⟩; omega)).symm
    · rename_i h
      exact ⟨wrapN (by omega), all_step hi hk (by omega)⟩
  · obtain ⟨rfl, hi⟩ := hs
    rw [Comp.wp_ite, if_neg (by omega)]
    show _ = _
    exact (decide_eq_true (fun i => hi i i.isLt)).symm
theorem monomial_In_ret {m : M} {l : List M} (hl : Lb l) : (monomial_In m l).Ret (inM m l) := by
  unfold Lb at hl
  refine Comp.loop_idx l.length (fun k s => s = (k : Int) ∧ ∀ i (h : i < l.length), i < k → ¬ dvdM l[i] m) (fun k s hk hs => ?_) (fun s hs => ?_) ⟨rfl, fun i _ hi => by omega⟩
  · obtain ⟨rfl, hi⟩ := hs
    rw [Comp.wp_ite, if_pos (by omega)]
    refine ⟨l[k], idxN hk, _, monomial_Divides_ret _ _, ?_⟩
    rw [Comp.wp_ite]
    split
    · rename_i h
      show _ = _
      exact (inM_iff.2 ⟨l[k], List.getElem_mem hk, of_decide_eq_true h⟩).symm
    · rename_i h
      refine ⟨wrapN (by omega), fun i hi1 hi2 => ?_⟩
      by_cases e : i = k
      · subst e; exact fun hd => h (decide_eq_true hd)
      · exact hi i hi1 (by omega)
  · obtain ⟨rfl, hi⟩ := hs
    rw [Comp.wp_ite, if_neg (by omega)]
    show _ = _
    refine (Bool.eq_false_iff.2 fun h => ?_).symm
    obtain ⟨d, hd, hd2⟩ := inM_iff.1 h
    obtain ⟨i, hi1, rfl⟩ := List.mem_iff_getElem.1 hd
    exact hi i hi1 hi1 hd2
theorem monomial_Minimal_c1_ret {m : M} {l : List M} (hl : Lb l) : (monomial_Minimal_c1 m l).Ret (inM m l) := ⟨_, monomial_In_ret hl, rfl⟩
theorem reverse_ret {l : List M} (hl : Lb l) : (slices_Reverse_api_Mono_api_Mono l).Ret l.reverse := by
  unfold Lb at hl
  show (Comp.loop _ _).wp _
  refine Comp.loop_idx (l.length / 2) (fun k s => ∃ t : List M, s = (t, (k : Int), (l.length : Int) - 1 - k) ∧ t.length = l.length ∧ ∀ p, p < l.length → t[p]? = if p < k ∨ l.length - k ≤ p then l[l.length - 1 - p]? else l[p]?) (fun k s hk hs => ?_) (fun s hs => ?_) ⟨l, ?_, rfl, fun p hp => ?_⟩
  · obtain ⟨t, rfl, ht, hp⟩ := hs
    have h1 : k < l.length := by omega
    have h2 : l.length - 1 - k < l.length := by omega
    have e1 := hp k h1
    rw [if_neg (by omega), List.getElem?_eq_getElem h1] at e1
    have e2 := hp (l.length - 1 - k) h2
    rw [if_neg (by omega), List.getElem?_eq_getElem h2] at e2
    have n1 : ((k : Nat) : Int).toNat = k := by omega
    have n2 : ((l.length : Int) - 1 - k).toNat = l.length - 1 - k := by omega
    show (if (k : Int) < (l.length : Int) - 1 - k then _ else _ : Comp _).wp _
    rw [Comp.wp_ite, if_pos (by omega)]
    refine ⟨_, ⟨by omega, by rw [n2]; exact e2⟩, _, ⟨by omega, by rw [n1]; exact e1⟩, _, ⟨by omega, by rw [n1]; exact e1⟩, l[l.length - 1 - k], ⟨by omega, ?_⟩, ?_⟩
    · rw [n1, n2, List.getElem?_set_ne (by omega)]; exact e2
    · refine ⟨(t.set k l[l.length - 1 - k]).set (l.length - 1 - k) l[k], ?_, ?_, fun p hpl => ?_⟩
      · rw [n1, n2, wrap64 (by omega), wrap64 (by omega)]
        refine Prod.ext rfl (Prod.ext ?_ ?_)
        · show (k : Int) + 1 = ((k + 1 : Nat) : Int); omega
        · show (l.length : Int) - 1 - k - 1 = (l.length : Int) - 1 - ((k + 1 : Nat) : Int); omega
      · simp [ht]
      · rw [List.getElem?_set]
        split
        · rename_i e; subst e
          rw [List.length_set, if_pos (by omega), if_pos (by omega), show l.length - 1 - (l.length - 1 - k) = k by omega, List.getElem?_eq_getElem h1]
        · rename_i ne1
          rw [List.getElem?_set]
          split
          · rename_i e; subst e
            rw [if_pos (by omega), if_pos (by omega), List.getElem?_eq_getElem h2]
          · rename_i ne2
            rw [hp p hpl]
            by_cases hc : p < k ∨ l.length - k ≤ p
            · rw [if_pos hc, if_pos (by omega)]
            · rw [if_neg hc, if_neg (by omega)]
  · obtain ⟨t, rfl, ht, hp⟩ := hs
    show (if ((l.length / 2 : Nat) : Int) < (l.length : Int) - 1 - ((l.length / 2 : Nat) : Int) then _ else _ : Comp _).wp _
    rw [Comp.wp_ite, if_neg (by omega)]
    show t = l.reverse
    apply List.ext_getElem?
    intro p
    by_cases h : p < l.length
    · rw [hp p h, List.getElem?_reverse h]
      split
      · rfl
      · have : p = l.length - 1 - p := by omega
        rw [← this]
    · rw [List.getElem?_eq_none (by omega), List.getElem?_eq_none (by simp; omega)]
  · rw [wrap64 (by omega)]; simp
  · rw [if_neg (by omega)]
theorem clone_ret {l : List M} (hl : Lb l) : (slices_Clone_api_Mono_api_Mono l).Ret l := by
  refine ⟨fun h => ?_, ?_, ?_⟩
  · show [] = l; exact h.symm
  · exact hl
  · show [] ++ l = l; rfl
theorem monomial_Minimal_ret {l : List M} (hl : Lb l) : (monomial_Minimal l).Ret (minimalM l) := by
  have hl' := hl
  unfold Lb at hl
  have hs : (sortM l).length = l.length := sortM_length l
  refine ⟨l, clone_ret hl', sortM l, ⟨hl, rfl⟩, ?_⟩
  show (Comp.loop _ _).wp _
  refine Comp.loop_idx (sortM l).length (fun k s => s = ((k : Int), minAcc ((sortM l).take k))) (fun k s hk hs' => ?_) (fun s hs' => ?_) rfl
  · subst hs'
    have hlen : (minAcc ((sortM l).take k)).length ≤ k := by
      have := (minAcc_sub ((sortM l).take k)).length_le
      simp at this; omega
    show (if ((k : Nat) : Int) < ((sortM l).length : Int) then _ else _ : Comp _).wp _
    rw [Comp.wp_ite, if_pos (by omega)]
    refine ⟨_, idxN hk, _, monomial_Minimal_c1_ret (by unfold Lb; omega), ?_⟩
    have hn := minAcc_next hk
    rw [Comp.wp_ite]
    split
    · rename_i h
      refine ⟨by simp [small]; omega, ?_⟩
      show _ = _
      rw [wrapN (by omega), hn, minStep, if_neg (by simpa using h)]
    · rename_i h
      show _ = _
      rw [wrapN (by omega), hn, minStep, if_pos (by simpa using h)]
  · subst hs'
    show (if (((sortM l).length : Nat) : Int) < ((sortM l).length : Int) then _ else _ : Comp _).wp _
    rw [Comp.wp_ite, if_neg (by omega), List.take_length]
    have hlen : (minAcc (sortM l)).length ≤ l.length := by have := (minAcc_sub (sortM l)).length_le; omega
    exact ⟨_, reverse_ret (by unfold Lb; omega), rfl⟩
end Go.EL
