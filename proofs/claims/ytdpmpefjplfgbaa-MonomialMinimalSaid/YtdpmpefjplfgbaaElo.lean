/- Plain laws of monomials: products, quotients, lattice, order, degrees and supports. The conditions stand in each statement. -/
import Derived.Test.YtdpmpefjplfgbaaEln
namespace Go.EL
open Go Go.RowKit

/-- The product, or 1. -/
def mulM (a b : M) : M := if Ok (addM a b) then addM a b else zeroM
def mulE (a b : M) : Int := if Ok (addM a b) then 0 else 2
def quoM (a b : M) : M := if dvdM b a then subM a b else zeroM
theorem mul_val (a b : M) : (if Ok (addM a b) then Value.tuple #[.agg (vecA (addM a b)), .int .i64 0] else .tuple #[.agg (vecA zeroM), .int .i64 2]) = .tuple #[.agg (vecA (mulM a b)), .int .i64 (mulE a b)] := by
  unfold mulM mulE; split <;> rfl
theorem quo_val (a b : M) : (if dvdM b a then Value.tuple #[.agg (vecA (subM a b)), .bool true] else .tuple #[.agg (vecA zeroM), .bool false]) = .tuple #[.agg (vecA (quoM a b)), .bool (decide (dvdM b a))] := by
  unfold quoM; split
  · rename_i h; simp [h]
  · rename_i h; simp [h]
theorem bdec (b : Bool) : b = decide (b = true) := by cases b <;> rfl
theorem ok_zero : Ok zeroM := by decide
theorem addM_comm (a b : M) : addM a b = addM b a := by funext i; simp [addM]; omega
theorem addM_zero (a : M) : addM a zeroM = a := by funext i; simp [addM, zeroM]
theorem mulM_comm (a b : M) : mulM a b = mulM b a := by unfold mulM; rw [addM_comm]
theorem mulE_comm (a b : M) : mulE a b = mulE b a := by unfold mulE; rw [addM_comm]
theorem mulE_range (a b : M) : mulE a b = 0 ∨ mulE a b = 2 := by unfold mulE; split <;> simp
theorem mulE_ok {a b : M} (h : ¬ mulE a b = 2) : Ok (addM a b) := by
  unfold mulE at h; split at h
  · assumption
  · simp at h
theorem mulE_ok0 {a b : M} (h : ¬ ¬ mulE a b = 0) : Ok (addM a b) := mulE_ok (by omega)
theorem mulE_big {a b : M} (h : mulE a b = 2) : ¬ Ok (addM a b) := fun hk => by simp [mulE, hk] at h
theorem mulM_ok {a b : M} (h : Ok (addM a b)) : mulM a b = addM a b := if_pos h
theorem mulM_big {a b : M} (h : ¬ Ok (addM a b)) : mulM a b = zeroM := if_neg h
theorem mulE_eq {a b : M} (h : Ok (addM a b)) : mulE a b = 0 := if_pos h
theorem mulE_eq2 {a b : M} (h : ¬ Ok (addM a b)) : mulE a b = 2 := if_neg h
theorem ok_mul {a b : M} : Ok (mulM a b) := by
  unfold mulM; split
  · assumption
  · exact ok_zero
theorem mulM_zero {a : M} (h : Ok a) : mulM a zeroM = a := by rw [mulM_ok (by rw [addM_zero]; exact h), addM_zero]
theorem mulE_zero {a : M} (h : Ok a) : mulE a zeroM = 0 := mulE_eq (by rw [addM_zero]; exact h)
theorem ok_max {a b : M} (ha : Ok a) (hb : Ok b) : Ok (maxM a b) := fun i => by have := ha i; have := hb i; simp only [maxM]; split <;> omega
theorem ok_min {a b : M} (ha : Ok a) (hb : Ok b) : Ok (minM a b) := fun i => by have := ha i; have := hb i; simp only [minM]; split <;> omega
theorem ok_quo {a b : M} (ha : Ok a) (hb : Ok b) : Ok (quoM a b) := by
  unfold quoM; split
  · rename_i h; intro i; have := ha i; have := hb i; have := h i; simp only [subM]; omega
  · exact ok_zero
theorem maxM_comm (a b : M) : maxM a b = maxM b a := by funext i; simp only [maxM]; split <;> split <;> omega
theorem minM_comm (a b : M) : minM a b = minM b a := by funext i; simp only [minM]; split <;> split <;> omega
theorem dvd_refl (a : M) : dvdM a a := fun _ => Int.le_refl _
theorem dvd_trans {a b c : M} (h : dvdM a b) (k : dvdM b c) : dvdM a c := fun i => Int.le_trans (h i) (k i)
theorem dvd_antisymm {a b : M} (h : dvdM a b) (k : dvdM b a) : a = b := funext fun i => Int.le_antisymm (h i) (k i)
theorem dvd_max_l (a b : M) : dvdM a (maxM a b) := fun i => by simp only [maxM]; split <;> omega
theorem dvd_max_r (a b : M) : dvdM b (maxM a b) := fun i => by simp only [maxM]; split <;> omega
theorem min_dvd_l (a b : M) : dvdM (minM a b) a := fun i => by simp only [minM]; split <;> omega
theorem min_dvd_r (a b : M) : dvdM (minM a b) b := fun i => by simp only [minM]; split <;> omega
theorem zero_dvd {a : M} (h : Ok a) : dvdM zeroM a := fun i => (h i).1
theorem max_dvd_iff {a b c : M} : dvdM (maxM a b) c ↔ dvdM a c ∧ dvdM b c := by
  constructor
  · intro h; exact ⟨dvd_trans (dvd_max_l a b) h, dvd_trans (dvd_max_r a b) h⟩
  · rintro ⟨h1, h2⟩ i; have := h1 i; have := h2 i; simp only [maxM]; split <;> omega
theorem dvd_min_iff {a b c : M} : dvdM c (minM a b) ↔ dvdM c a ∧ dvdM c b := by
  constructor
  · intro h; exact ⟨dvd_trans h (min_dvd_l a b), dvd_trans h (min_dvd_r a b)⟩
  · rintro ⟨h1, h2⟩ i; have := h1 i; have := h2 i; simp only [minM]; split <;> omega
theorem max_dvd_self {a b : M} : dvdM (maxM a b) a ↔ a = maxM a b := ⟨fun h => dvd_antisymm (dvd_max_l a b) h, fun h i => by rw [← h]; exact Int.le_refl _⟩
theorem add_max_min (a b : M) : addM (maxM a b) (minM a b) = addM a b := by funext i; simp only [addM, maxM, minM]; split <;> split <;> omega
theorem mul_max_min (a b : M) : mulM a b = mulM (maxM a b) (minM a b) := by unfold mulM; rw [add_max_min]
theorem mulE_max_min (a b : M) : mulE a b = mulE (maxM a b) (minM a b) := by unfold mulE; rw [add_max_min]
theorem max_max_min (a b : M) : maxM (maxM a b) (minM a b) = maxM a b := by funext i; simp only [maxM, minM]; (repeat' split) <;> omega
theorem min_max_min (a b : M) : minM (maxM a b) (minM a b) = minM a b := by funext i; simp only [maxM, minM]; (repeat' split) <;> omega
theorem quo_no {a b : M} (h : ¬ dvdM b a) : quoM a b = zeroM := if_neg h
theorem add_quo {a b : M} (h : dvdM b a) : addM (quoM a b) b = a := by unfold quoM; rw [if_pos h]; funext i; simp only [addM, subM]; omega
theorem mul_quo {a b : M} (ha : Ok a) (h : dvdM b a) : mulM (quoM a b) b = a := by rw [mulM_ok (by rw [add_quo h]; exact ha), add_quo h]
theorem mulE_quo {a b : M} (ha : Ok a) (h : dvdM b a) : mulE (quoM a b) b = 0 := mulE_eq (by rw [add_quo h]; exact ha)
theorem dvd_mul_r {a b : M} (ha : Ok a) (h : ¬ mulE a b = 2) : dvdM b (mulM a b) := by rw [mulM_ok (mulE_ok h)]; intro i; have := ha i; simp only [addM]; omega
theorem quo_mul {a b : M} (ha : Ok a) (h : ¬ mulE a b = 2) : quoM (mulM a b) b = a := by
  unfold quoM; rw [if_pos (dvd_mul_r ha h), mulM_ok (mulE_ok h)]; funext i; simp only [addM, subM]; omega
theorem degTo_add (a b : M) : ∀ k, degTo (addM a b) k = degTo a k + degTo b k
  | 0 => rfl
  | k + 1 => by
    simp only [degTo, degTo_add a b k]
    split
    · simp only [addM]; omega
    · omega
theorem deg_mul {a b : M} (h : ¬ mulE a b = 2) : degM (mulM a b) = degM a + degM b := by rw [mulM_ok (mulE_ok h)]; exact degTo_add a b 8
theorem degTo_ok {a : M} (h : Ok a) : ∀ k, 0 ≤ degTo a k ∧ degTo a k ≤ 65535 * (k : Int)
  | 0 => by simp [degTo]
  | k + 1 => by
    have ih := degTo_ok h k
    simp only [degTo]
    split
    · rename_i hk; have := h ⟨k, hk⟩; omega
    · omega
theorem degM_ok {a : M} (h : Ok a) : 0 ≤ degM a ∧ degM a ≤ 524280 := by have := degTo_ok h 8; unfold degM; omega
theorem supp_or_nat {a b : M} (ha : Ok a) (hb : Ok b) : ∀ k, ∃ s t u : Nat, suppTo a k = s ∧ suppTo b k = t ∧ suppTo (addM a b) k = u ∧ s < 2 ^ k ∧ t < 2 ^ k ∧ u = s ||| t
  | 0 => ⟨0, 0, 0, rfl, rfl, rfl, by decide, by decide, by decide⟩
  | k + 1 => by
    obtain ⟨s, t, u, h1, h2, h3, h4, h5, h6⟩ := supp_or_nat ha hb k
    have hp : (2 : Nat) ^ (k + 1) = 2 * 2 ^ k := by rw [Nat.pow_succ]; omega
    have h7 : s ||| t < 2 ^ k := Nat.or_lt_two_pow h4 h5
    have e : ∀ {x : Nat}, x < 2 ^ k → x + 2 ^ k = 2 ^ k ||| x := fun {x} hx => by
      have := Nat.two_pow_add_eq_or_of_lt hx 1
      simpa [Nat.add_comm] using this
    simp only [suppTo]
    split
    · rename_i hk
      have ha' := ha ⟨k, hk⟩
      have hb' := hb ⟨k, hk⟩
      have hab : addM a b ⟨k, hk⟩ = a ⟨k, hk⟩ + b ⟨k, hk⟩ := rfl
      rw [h1, h2, h3, p2_nat]
      by_cases ca : 0 < a ⟨k, hk⟩
      · by_cases cb : 0 < b ⟨k, hk⟩
        · refine ⟨s + 2 ^ k, t + 2 ^ k, u + 2 ^ k, by simp [ca], by simp [cb], by rw [if_pos (by omega)]; simp, by omega, by omega, ?_⟩
          rw [e h4, e h5, e (by omega), h6]
          rw [show (2 ^ k ||| s) ||| (2 ^ k ||| t) = (2 ^ k ||| 2 ^ k) ||| (s ||| t) by ac_rfl, Nat.or_self]
        · refine ⟨s + 2 ^ k, t, u + 2 ^ k, by simp [ca], by simp [cb], by rw [if_pos (by omega)]; simp, by omega, by omega, ?_⟩
          rw [e h4, e (by omega), h6]; ac_rfl
      · by_cases cb : 0 < b ⟨k, hk⟩
        · refine ⟨s, t + 2 ^ k, u + 2 ^ k, by simp [ca], by simp [cb], by rw [if_pos (by omega)]; simp, by omega, by omega, ?_⟩
          rw [e h5, e (by omega), h6]; ac_rfl
        · exact ⟨s, t, u, by simp [ca], by simp [cb], by rw [if_neg (by omega)]; simp, by omega, by omega, h6⟩
    · refine ⟨s, t, u, by omega, by omega, ?_, by omega, by omega, h6⟩
      rw [h3]; omega
theorem supp_mul {a b : M} (ha : Ok a) (hb : Ok b) (h : ¬ mulE a b = 2) : suppM (mulM a b) = IntKind.u8.wrap (BitVec.ofInt IntKind.u8.bits (suppM a) ||| BitVec.ofInt IntKind.u8.bits (suppM b)).toNat := by
  rw [mulM_ok (mulE_ok h)]
  obtain ⟨s, t, u, h1, h2, h3, h4, h5, h6⟩ := supp_or_nat ha hb 8
  unfold suppM
  rw [h1, h2, h3]
  have h7 : s ||| t < 2 ^ 8 := Nat.or_lt_two_pow h4 h5
  have : (BitVec.ofInt IntKind.u8.bits (s : Int) ||| BitVec.ofInt IntKind.u8.bits (t : Int)).toNat = s ||| t := by
    rw [BitVec.toNat_or, BitVec.ofInt_natCast, BitVec.ofInt_natCast, BitVec.toNat_ofNat, BitVec.toNat_ofNat]
    simp only [IntKind.bits]
    rw [Nat.mod_eq_of_lt h4, Nat.mod_eq_of_lt h5]
  rw [this, h6]
  simp only [IntKind.wrap, IntKind.bits, IntKind.signed, Bool.false_and, Bool.false_eq_true, if_false]
  omega
theorem mul_assoc' {a b c : M} (ha : Ok a) (hb : Ok b) (hc : Ok c) (h1 : ¬ mulE a b = 2) (h2 : ¬ ¬ mulE b c = 0) : addM (mulM a b) c = addM a (mulM b c) := by
  rw [mulM_ok (mulE_ok h1), mulM_ok (mulE_ok0 h2)]; funext i; simp only [addM]; omega
theorem mul_assoc1 {a b c : M} (ha : Ok a) (hb : Ok b) (hc : Ok c) (h1 : ¬ mulE a b = 2) (h2 : ¬ ¬ mulE b c = 0) : mulM (mulM a b) c = mulM a (mulM b c) := by
  have := mul_assoc' ha hb hc h1 h2
  unfold mulM at *; rw [this]
theorem mul_assoc2 {a b c : M} (ha : Ok a) (hb : Ok b) (hc : Ok c) (h1 : ¬ mulE a b = 2) (h2 : ¬ ¬ mulE b c = 0) : mulE (mulM a b) c = mulE a (mulM b c) := by
  have := mul_assoc' ha hb hc h1 h2
  unfold mulE; rw [this]
theorem big_iff {a b : M} (ha : Ok a) (hb : Ok b) : (∃ i : Fin 8, 65535 < a i + b i) ↔ mulE a b = 2 := by
  constructor
  · rintro ⟨i, h⟩
    refine mulE_eq2 fun hk => ?_
    have := hk i; simp only [addM] at this; omega
  · intro h
    refine Classical.byContradiction fun hn => mulE_big h fun i => ?_
    have h1 := ha i; have h2 := hb i
    have : ¬ 65535 < a i + b i := fun hh => hn ⟨i, hh⟩
    simp only [addM]; omega
theorem ex_step {p : Fin 8 → Prop} {bg : Bool} {k : Nat} (hb : bg = true ↔ ∃ i : Fin 8, i.val < k ∧ p i) (h : k < 8) (q : Bool) (hq : q = true ↔ (bg = true ∨ p ⟨k, h⟩)) : q = true ↔ ∃ i : Fin 8, i.val < k + 1 ∧ p i := by
  rw [hq, hb]
  constructor
  · rintro (⟨i, h1, h2⟩ | h2)
    · exact ⟨i, by omega, h2⟩
    · exact ⟨⟨k, h⟩, by simp, h2⟩
  · rintro ⟨i, h1, h2⟩
    by_cases e : i.val = k
    · have : i = ⟨k, h⟩ := Fin.ext e
      subst this; exact .inr h2
    · exact .inl ⟨i, by omega, h2⟩
theorem ex_all {p : Fin 8 → Prop} {bg : Bool} {k : Nat} (hb : bg = true ↔ ∃ i : Fin 8, i.val < k ∧ p i) (h : ¬ k < 8) : bg = true ↔ ∃ i, p i := by
  rw [hb]; exact ⟨fun ⟨i, _, h2⟩ => ⟨i, h2⟩, fun ⟨i, h2⟩ => ⟨i, by omega, h2⟩⟩
theorem bool_of_iff {b : Bool} {p : Prop} [Decidable p] (h : b = true ↔ p) : b = decide p := by
  by_cases hp : p
  · rw [h.2 hp]; simp [hp]
  · cases b with
    | false => simp [hp]
    | true => exact absurd (h.1 rfl) hp
theorem cmpM_zero_iff {a b : M} : cmpM a b = 0 ↔ a = b := ⟨cmpM_zero, fun h => by subst h; exact cmpM_self _⟩
theorem cmpFrom_zeroM {a : M} (h : Ok a) : ∀ n k, 0 ≤ cmpFrom a zeroM n k
  | 0, _ => by simp [cmpFrom]
  | n + 1, k => by
    have ih := cmpFrom_zeroM h n (k + 1)
    simp only [cmpFrom]
    split
    · rename_i hk
      have := h ⟨k, hk⟩
      have hz : zeroM ⟨k, hk⟩ = 0 := rfl
      rw [hz]
      split
      · omega
      · split <;> omega
    · omega
theorem cmp_zero_le {a : M} (h : Ok a) : 0 ≤ cmpM a zeroM := cmpFrom_zeroM h 8 0
theorem cmp_neg_val (a b : M) : IntKind.i64.wrap (0 - cmpM a b) = cmpM b a := by
  rw [cmpM_neg a b]
  rcases cmpM_range a b with h | h | h <;> rw [h] <;> decide
theorem cmp_lt_le {a b c : M} (h1 : cmpM a b < 0) (h2 : cmpM b c ≤ 0) : cmpM a c = -1 := by
  have := cmpM_lt_trans (by omega) h2 (.inl h1)
  have := cmpM_range a c
  omega
theorem cmpFrom_add (a b c : M) : ∀ n k, cmpFrom (addM a c) (addM b c) n k = cmpFrom a b n k
  | 0, _ => rfl
  | n + 1, k => by
    simp only [cmpFrom, cmpFrom_add a b c n (k + 1)]
    split
    · rename_i hk
      simp only [addM]
      have e1 : (a ⟨k, hk⟩ + c ⟨k, hk⟩ < b ⟨k, hk⟩ + c ⟨k, hk⟩) = (a ⟨k, hk⟩ < b ⟨k, hk⟩) := by apply propext; omega
      have e2 : (b ⟨k, hk⟩ + c ⟨k, hk⟩ < a ⟨k, hk⟩ + c ⟨k, hk⟩) = (b ⟨k, hk⟩ < a ⟨k, hk⟩) := by apply propext; omega
      simp only [e1, e2]
    · rfl
theorem cmp_mul {a b c : M} (h1 : ¬ ¬ mulE a c = 0) (h2 : ¬ ¬ mulE b c = 0) : cmpM (mulM a c) (mulM b c) = cmpM a b := by
  rw [mulM_ok (mulE_ok0 h1), mulM_ok (mulE_ok0 h2)]; exact cmpFrom_add a b c 8 0
end Go.EL
