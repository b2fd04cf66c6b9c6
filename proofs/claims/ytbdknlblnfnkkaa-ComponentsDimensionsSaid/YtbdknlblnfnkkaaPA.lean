/- The lexicographic order of monomials. No condition. -/
import Derived.Test.YtbdknlblnfnkkaaEC
namespace Go.EL
open Go Go.RowKit
abbrev M := Fin 8 → Int
/-- The lexicographic comparison from index k on (fuel n). -/
def cmpFrom (a b : M) : Nat → Nat → Int
  | 0, _ => 0
  | n + 1, k => if h : k < 8 then (if a ⟨k, h⟩ < b ⟨k, h⟩ then -1 else if b ⟨k, h⟩ < a ⟨k, h⟩ then 1 else cmpFrom a b n (k + 1)) else 0
def cmpM (a b : M) : Int := cmpFrom a b 8 0
theorem cmpFrom_eq (a b : M) : ∀ (k : Nat), k ≤ 8 → (∀ i : Fin 8, i.val < k → a i = b i) → cmpM a b = cmpFrom a b (8 - k) k
  | 0, _, _ => rfl
  | k + 1, hk, h => by
    rw [cmpFrom_eq a b k (by omega) (fun i hi => h i (by omega))]
    have hl : k < 8 := by omega
    have e := h ⟨k, hl⟩ (by simp)
    rw [show 8 - k = (8 - (k + 1)) + 1 by omega]
    simp [cmpFrom, hl, e]
theorem cmpM_lt (a b : M) {k : Nat} (hk : k < 8) (h : ∀ i : Fin 8, i.val < k → a i = b i) (hlt : a ⟨k, hk⟩ < b ⟨k, hk⟩) : cmpM a b = -1 := by
  rw [cmpFrom_eq a b k (by omega) h, show 8 - k = (7 - k) + 1 by omega]
  simp [cmpFrom, hk, hlt]
theorem cmpM_gt (a b : M) {k : Nat} (hk : k < 8) (h : ∀ i : Fin 8, i.val < k → a i = b i) (hlt : b ⟨k, hk⟩ < a ⟨k, hk⟩) : cmpM a b = 1 := by
  rw [cmpFrom_eq a b k (by omega) h, show 8 - k = (7 - k) + 1 by omega]
  have : ¬ a ⟨k, hk⟩ < b ⟨k, hk⟩ := by omega
  simp [cmpFrom, hk, hlt, this]
theorem cmpM_eq (a b : M) (h : ∀ i, a i = b i) : cmpM a b = 0 := by
  rw [cmpFrom_eq a b 8 (by omega) (fun i _ => h i)]
  rfl

theorem cmpFrom_neg (a b : M) : ∀ n k, cmpFrom b a n k = - cmpFrom a b n k
  | 0, _ => by simp [cmpFrom]
  | n + 1, k => by
    simp only [cmpFrom]
    split
    · rename_i h
      rw [cmpFrom_neg a b n (k + 1)]
      split <;> split <;> first | omega | (split <;> omega)
    · rfl
theorem cmpFrom_range (a b : M) : ∀ n k, cmpFrom a b n k = -1 ∨ cmpFrom a b n k = 0 ∨ cmpFrom a b n k = 1
  | 0, _ => by simp [cmpFrom]
  | n + 1, k => by
    have := cmpFrom_range a b n (k + 1)
    simp only [cmpFrom]
    split
    · split
      · omega
      · split <;> omega
    · omega
theorem cmpFrom_trans (a b c : M) : ∀ n k, cmpFrom a b n k ≤ 0 → cmpFrom b c n k ≤ 0 → cmpFrom a c n k ≤ 0 ∧ ((cmpFrom a b n k < 0 ∨ cmpFrom b c n k < 0) → cmpFrom a c n k < 0)
  | 0, _ => by simp [cmpFrom]
  | n + 1, k => by
    have ih := cmpFrom_trans a b c n (k + 1)
    simp only [cmpFrom]
    by_cases h : k < 8
    · simp only [dif_pos h]
      by_cases h1 : a ⟨k, h⟩ < b ⟨k, h⟩
      · by_cases h2 : b ⟨k, h⟩ < c ⟨k, h⟩
        · simp [h1, h2, show a ⟨k, h⟩ < c ⟨k, h⟩ by omega]
        · by_cases h3 : c ⟨k, h⟩ < b ⟨k, h⟩
          · simp [h2, h3]
          · simp [show a ⟨k, h⟩ < c ⟨k, h⟩ by omega]
      · by_cases h1' : b ⟨k, h⟩ < a ⟨k, h⟩
        · simp [h1, h1']
        · by_cases h2 : b ⟨k, h⟩ < c ⟨k, h⟩
          · simp [show a ⟨k, h⟩ < c ⟨k, h⟩ by omega]
          · by_cases h3 : c ⟨k, h⟩ < b ⟨k, h⟩
            · simp [h2, h3]
            · simp only [h1, h1', h2, h3, if_false, show ¬ a ⟨k, h⟩ < c ⟨k, h⟩ by omega, show ¬ c ⟨k, h⟩ < a ⟨k, h⟩ by omega]
              exact ih
    · simp [h]
theorem cmpFrom_zero (a b : M) : ∀ n k, n + k = 8 → cmpFrom a b n k = 0 → ∀ i : Fin 8, k ≤ i.val → a i = b i
  | 0, k, e, _, i, hi => by have := i.isLt; omega
  | n + 1, k, e, hz, i, hi => by
    have hk : k < 8 := by omega
    simp only [cmpFrom, dif_pos hk] at hz
    by_cases h1 : a ⟨k, hk⟩ < b ⟨k, hk⟩
    · simp [h1] at hz
    · by_cases h2 : b ⟨k, hk⟩ < a ⟨k, hk⟩
      · simp [h1, h2] at hz
      · simp only [h1, h2, if_false] at hz
        by_cases hik : i.val = k
        · have : i = ⟨k, hk⟩ := Fin.ext hik
          subst this; omega
        · exact cmpFrom_zero a b n (k + 1) (by omega) hz i (by omega)
theorem cmpM_neg (a b : M) : cmpM b a = - cmpM a b := cmpFrom_neg a b 8 0
theorem cmpM_range (a b : M) : cmpM a b = -1 ∨ cmpM a b = 0 ∨ cmpM a b = 1 := cmpFrom_range a b 8 0
theorem cmpM_le_trans {a b c : M} (h1 : cmpM a b ≤ 0) (h2 : cmpM b c ≤ 0) : cmpM a c ≤ 0 := (cmpFrom_trans a b c 8 0 h1 h2).1
theorem cmpM_lt_trans {a b c : M} (h1 : cmpM a b ≤ 0) (h2 : cmpM b c ≤ 0) (h : cmpM a b < 0 ∨ cmpM b c < 0) : cmpM a c < 0 := (cmpFrom_trans a b c 8 0 h1 h2).2 h
theorem cmpM_self (a : M) : cmpM a a = 0 := cmpM_eq a a fun _ => rfl
theorem cmpM_zero {a b : M} (h : cmpM a b = 0) : a = b := funext fun i => cmpFrom_zero a b 8 0 rfl h i (Nat.zero_le _)

theorem swoM : Go.Sort.SWO (Go.Proofs.ltOf cmpM) where
  irrefl x := by simp [Go.Proofs.ltOf, cmpM_self]
  trans x y z h1 h2 := by
    simp only [Go.Proofs.ltOf, decide_eq_true_eq] at *
    exact cmpM_lt_trans (by omega) (by omega) (.inl h1)
  ntrans x y z h1 h2 := by
    simp only [Go.Proofs.ltOf, decide_eq_false_iff_not] at *
    have a := cmpM_neg x y
    have b := cmpM_neg y z
    have c := cmpM_neg x z
    have := cmpM_le_trans (a := z) (b := y) (c := x) (by omega) (by omega)
    omega
theorem totM (x y : M) (h1 : Go.Proofs.ltOf cmpM x y = false) (h2 : Go.Proofs.ltOf cmpM y x = false) : x = y := by
  simp only [Go.Proofs.ltOf, decide_eq_false_iff_not] at *
  have := cmpM_neg x y
  exact cmpM_zero (by omega)
theorem swoR : Go.Sort.SWO (Go.Proofs.ltOf fun a b => cmpM b a) where
  irrefl x := by simp [Go.Proofs.ltOf, cmpM_self]
  trans x y z h1 h2 := by
    simp only [Go.Proofs.ltOf, decide_eq_true_eq] at *
    exact cmpM_lt_trans (a := z) (b := y) (c := x) (by omega) (by omega) (.inl h2)
  ntrans x y z h1 h2 := by
    simp only [Go.Proofs.ltOf, decide_eq_false_iff_not] at *
    have a := cmpM_neg x y
    have b := cmpM_neg y z
    have c := cmpM_neg x z
    have := cmpM_le_trans (a := x) (b := y) (c := z) (by omega) (by omega)
    omega
theorem totR (x y : M) (h1 : Go.Proofs.ltOf (fun a b => cmpM b a) x y = false) (h2 : Go.Proofs.ltOf (fun a b => cmpM b a) y x = false) : x = y := by
  simp only [Go.Proofs.ltOf, decide_eq_false_iff_not] at *
  have := cmpM_neg x y
  exact cmpM_zero (by omega)
end Go.EL
