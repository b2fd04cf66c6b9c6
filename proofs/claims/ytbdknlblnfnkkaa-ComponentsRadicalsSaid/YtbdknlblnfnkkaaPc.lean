/- Monomials and lists of them. No condition. -/
import Derived.Test.YtbdknlblnfnkkaaPa
namespace Go.EL
open Go Go.RowKit
instance inhM : Inhabited M := ⟨fun _ => 0⟩
/-- The first k entries by f, the rest by a. -/
def mixM (k : Nat) (f a : M) : M := fun i => if i.val < k then f i else a i
theorem mix_step {k : Nat} (f a : M) (h : k < 8) : setF (mixM k f a) k (f ⟨k, h⟩) = mixM (k + 1) f a := by
  funext i; unfold setF mixM
  by_cases e : i.val = k
  · have : i = ⟨k, h⟩ := Fin.ext e
    subst this; simp
  · have e1 : (i.val < k + 1) = (i.val < k) := by apply propext; omega
    simp [e, e1]
theorem mix_at {k : Nat} (f a : M) (h : k < 8) : mixM k f a ⟨k, h⟩ = a ⟨k, h⟩ := by unfold mixM; simp
theorem mix_zero (f a : M) : mixM 0 f a = a := by funext i; simp [mixM]
theorem mix_all {k : Nat} (f a : M) (h : ¬ k < 8) : mixM k f a = f := by
  funext i
  have : i.val < k := by omega
  simp [mixM, this]
theorem all_step {p : Fin 8 → Prop} {k : Nat} (hall : ∀ i : Fin 8, i.val < k → p i) (h : k < 8) (hk : p ⟨k, h⟩) : ∀ i : Fin 8, i.val < k + 1 → p i := fun i hi => by
  by_cases e : i.val = k
  · have : i = ⟨k, h⟩ := Fin.ext e
    rw [this]; exact hk
  · exact hall i (by omega)
def zeroM : M := fun _ => 0
def maxM (a b : M) : M := fun i => if a i < b i then b i else a i
def minM (a b : M) : M := fun i => if b i < a i then b i else a i
/-- In the range of exponents. -/
def Ok (a : M) : Prop := ∀ i, 0 ≤ a i ∧ a i ≤ 65535
instance decOk (a : M) : Decidable (Ok a) := inferInstanceAs (Decidable (∀ i, 0 ≤ a i ∧ a i ≤ 65535))
def dvdM (a b : M) : Prop := ∀ i, a i ≤ b i
instance decDvd (a b : M) : Decidable (dvdM a b) := inferInstanceAs (Decidable (∀ i, a i ≤ b i))
/-- Powers of 2. -/
def p2 : Nat → Int
  | 0 => 1
  | k + 1 => 2 * p2 k
theorem p2_le : ∀ {k : Nat}, k ≤ 8 → 1 ≤ p2 k ∧ p2 k ≤ 256
  | 0, _ => by decide
  | 1, _ => by decide
  | 2, _ => by decide
  | 3, _ => by decide
  | 4, _ => by decide
  | 5, _ => by decide
  | 6, _ => by decide
  | 7, _ => by decide
  | 8, _ => by decide
  | k + 9, h => by omega
theorem p2_lt {k : Nat} (h : k < 8) : 1 ≤ p2 k ∧ p2 k ≤ 128 := by
  have := p2_le (k := k + 1) (by omega)
  simp only [p2] at this
  omega
theorem p2_shift {k : Nat} (h : k < 8) : IntKind.u8.wrap (1 * 2 ^ (min (k : Int).toNat IntKind.u8.bits)) = p2 k := by
  match k, h with
  | 0, _ => decide | 1, _ => decide | 2, _ => decide | 3, _ => decide | 4, _ => decide | 5, _ => decide | 6, _ => decide | 7, _ => decide
theorem p2_wrap {k : Nat} (h : k < 8) : IntKind.u8.wrap (p2 k) = p2 k := by
  match k, h with
  | 0, _ => decide | 1, _ => decide | 2, _ => decide | 3, _ => decide | 4, _ => decide | 5, _ => decide | 6, _ => decide | 7, _ => decide
/-- The variables below k that occur, as bits. -/
def suppTo (a : M) : Nat → Int
  | 0 => 0
  | k + 1 => suppTo a k + (if h : k < 8 then (if 0 < a ⟨k, h⟩ then p2 k else 0) else 0)
def suppM (a : M) : Int := suppTo a 8
theorem suppTo_lt (a : M) : ∀ k : Nat, 0 ≤ suppTo a k ∧ suppTo a k < p2 k
  | 0 => by simp [suppTo, p2]
  | k + 1 => by
    have ih := suppTo_lt a k
    simp only [suppTo, p2]
    split
    · split <;> omega
    · omega
theorem suppTo_yes (a : M) {k : Nat} (h : k < 8) (ha : 0 < a ⟨k, h⟩) : suppTo a k + p2 k = suppTo a (k + 1) := by simp [suppTo, h, ha]
theorem suppTo_no (a : M) {k : Nat} (h : k < 8) (ha : ¬ 0 < a ⟨k, h⟩) : suppTo a k = suppTo a (k + 1) := by simp [suppTo, h, ha]
theorem or_p2_nat : ∀ k : Fin 8, ∀ s : Fin 128, s.val < 2 ^ k.val → IntKind.u8.wrap (BitVec.ofInt IntKind.u8.bits (s.val : Int) ||| BitVec.ofInt IntKind.u8.bits (p2 k.val)).toNat = s.val + p2 k.val := by decide +kernel
theorem p2_nat : ∀ k : Nat, p2 k = ((2 ^ k : Nat) : Int)
  | 0 => rfl
  | k + 1 => by rw [p2, p2_nat k, Nat.pow_succ]; omega
theorem or_p2 {k : Nat} (h : k < 8) {s : Int} (h0 : 0 ≤ s) (h1 : s < p2 k) : IntKind.u8.wrap (BitVec.ofInt IntKind.u8.bits s ||| BitVec.ofInt IntKind.u8.bits (p2 k)).toNat = s + p2 k := by
  obtain ⟨n, rfl⟩ := Int.eq_ofNat_of_zero_le h0
  have h2 := p2_lt h
  rw [p2_nat] at h1
  exact or_p2_nat ⟨k, h⟩ ⟨n, by rw [p2_nat] at h2; omega⟩ (by simp; omega)
theorem add_p2 {k : Nat} (h : k < 8) {s : Int} (h0 : 0 ≤ s) (h1 : s < p2 k) : IntKind.u8.wrap (s + p2 k) = s + p2 k := by
  have h2 := p2_lt h
  simp only [IntKind.wrap, IntKind.bits, IntKind.signed, Bool.false_and, Bool.false_eq_true, if_false]
  omega

theorem ok_max {a b : M} (ha : Ok a) (hb : Ok b) : Ok (maxM a b) := fun i => by have := ha i; have := hb i; simp only [maxM]; split <;> omega
theorem maxM_comm (a b : M) : maxM a b = maxM b a := by funext i; simp only [maxM]; split <;> split <;> omega
theorem dvd_refl (a : M) : dvdM a a := fun _ => Int.le_refl _
theorem dvd_trans {a b c : M} (h : dvdM a b) (k : dvdM b c) : dvdM a c := fun i => Int.le_trans (h i) (k i)
theorem dvd_antisymm {a b : M} (h : dvdM a b) (k : dvdM b a) : a = b := funext fun i => Int.le_antisymm (h i) (k i)
theorem dvd_max_l (a b : M) : dvdM a (maxM a b) := fun i => by simp only [maxM]; split <;> omega
theorem dvd_max_r (a b : M) : dvdM b (maxM a b) := fun i => by simp only [maxM]; split <;> omega
theorem zero_dvd {a : M} (h : Ok a) : dvdM zeroM a := fun i => (h i).1
theorem max_dvd_iff {a b c : M} : dvdM (maxM a b) c ↔ dvdM a c ∧ dvdM b c := by
  constructor
  · intro h; exact ⟨dvd_trans (dvd_max_l a b) h, dvd_trans (dvd_max_r a b) h⟩
  · rintro ⟨h1, h2⟩ i; have := h1 i; have := h2 i; simp only [maxM]; split <;> omega
theorem cmpM_zero_iff {a b : M} : cmpM a b = 0 ↔ a = b := ⟨cmpM_zero, fun h => by subst h; exact cmpM_self _⟩
/-- The sorted list. -/
def sortM (l : List M) : List M := sortBy cmpM l
theorem sortM_perm (l : List M) : (sortM l).Perm l := List.mergeSort_perm _ _
theorem sortM_length (l : List M) : (sortM l).length = l.length := (sortM_perm l).length_eq
theorem sortM_sorted (l : List M) : (sortM l).Pairwise fun x y => cmpM x y ≤ 0 := by
  have := List.pairwise_mergeSort (le := fun x y => !(Go.Proofs.ltOf cmpM) y x) (fun a b c h1 h2 => by
    simp only [Bool.not_eq_true'] at *
    exact swoM.ntrans _ _ _ h2 h1) (fun a b => by
    simp only [Go.Proofs.ltOf, Bool.or_eq_true, Bool.not_eq_true', decide_eq_false_iff_not]
    have := cmpM_neg a b
    omega) l
  refine this.imp fun {a b} h => ?_
  simp only [Go.Proofs.ltOf, Bool.not_eq_true', decide_eq_false_iff_not] at h
  have := cmpM_neg a b
  omega
def inM (m : M) (l : List M) : Bool := l.any fun d => decide (dvdM d m)
def minStep (acc : List M) (m : M) : List M := if inM m acc then acc else acc ++ [m]
def minAcc (l : List M) : List M := l.foldl minStep []
theorem minAcc_next {l : List M} {x : Nat} (h : x < l.length) : minAcc (l.take (x + 1)) = minStep (minAcc (l.take x)) l[x] := by
  unfold minAcc
  rw [List.take_succ_eq_append_getElem h, List.foldl_append]
  rfl
def minimalM (l : List M) : List M := (minAcc (sortM l)).reverse
theorem dvd_cmpFrom {a b : M} (h : dvdM a b) : ∀ n k, cmpFrom a b n k ≤ 0
  | 0, _ => by simp [cmpFrom]
  | n + 1, k => by
    have ih := dvd_cmpFrom h n (k + 1)
    simp only [cmpFrom]
    split
    · rename_i hk
      have := h ⟨k, hk⟩
      split
      · omega
      · split
        · omega
        · exact ih
    · omega
theorem dvd_cmp {a b : M} (h : dvdM a b) : cmpM a b ≤ 0 := dvd_cmpFrom h 8 0
theorem inM_iff {m : M} {l : List M} : inM m l = true ↔ ∃ d ∈ l, dvdM d m := by simp [inM, List.any_eq_true]
theorem minAcc_snoc (T : List M) (a : M) : minAcc (T ++ [a]) = minStep (minAcc T) a := by unfold minAcc; rw [List.foldl_append]; rfl
theorem snoc_ind {α : Type} {p : List α → Prop} (h0 : p []) (h1 : ∀ l a, p l → p (l ++ [a])) : ∀ l, p l := fun l => by
  have : ∀ r : List α, p r.reverse := by
    intro r
    induction r with
    | nil => exact h0
    | cons a r ih => rw [List.reverse_cons]; exact h1 _ _ ih
  have h := this l.reverse
  rwa [List.reverse_reverse] at h
theorem minAcc_sub : ∀ S : List M, (minAcc S).Sublist S := snoc_ind (by simp [minAcc]) fun T a ih => by
  rw [minAcc_snoc, minStep]
  split
  · exact ih.trans (List.sublist_append_left _ _)
  · exact List.Sublist.append ih (List.Sublist.refl _)
theorem minAcc_cover : ∀ S : List M, ∀ d ∈ S, ∃ e ∈ minAcc S, dvdM e d := snoc_ind (by simp) fun T a ih d hd => by
  rw [minAcc_snoc, minStep]
  rw [List.mem_append] at hd
  split
  · rename_i hin
    rcases hd with hd | hd
    · exact ih d hd
    · obtain rfl : d = a := by simpa using hd
      obtain ⟨e, h1, h2⟩ := inM_iff.1 hin
      exact ⟨e, h1, h2⟩
  · rcases hd with hd | hd
    · obtain ⟨e, h1, h2⟩ := ih d hd
      exact ⟨e, by simp [h1], h2⟩
    · obtain rfl : d = a := by simpa using hd
      exact ⟨d, by simp, dvd_refl d⟩
theorem minAcc_strict : ∀ S : List M, S.Pairwise (fun x y => cmpM x y ≤ 0) → (minAcc S).Pairwise fun x y => cmpM x y < 0 := snoc_ind (by simp [minAcc]) fun T a ih hs => by
  rw [List.pairwise_append] at hs
  obtain ⟨h1, _, h3⟩ := hs
  rw [minAcc_snoc, minStep]
  split
  · exact ih h1
  · rename_i hin
    rw [List.pairwise_append]
    refine ⟨ih h1, by simp, fun t ht b hb => ?_⟩
    obtain rfl : b = a := by simpa using hb
    have hle := h3 t ((minAcc_sub T).subset ht) b (by simp)
    rcases Int.lt_or_eq_of_le hle with h | h
    · exact h
    · exact absurd (inM_iff.2 ⟨t, ht, by rw [cmpM_zero h]; exact dvd_refl b⟩) hin
theorem minAcc_mem : ∀ S : List M, S.Pairwise (fun x y => cmpM x y ≤ 0) → ∀ m, m ∈ minAcc S ↔ (m ∈ S ∧ ∀ d ∈ S, dvdM d m → d = m) := snoc_ind (by simp [minAcc]) fun T a ih hs m => by
  rw [List.pairwise_append] at hs
  obtain ⟨h1, _, h3⟩ := hs
  have ih' := ih h1
  have keep : m ∈ minAcc T → m ∈ T ++ [a] ∧ ∀ d ∈ T ++ [a], dvdM d m → d = m := fun hm => by
    obtain ⟨hmT, hmin⟩ := (ih' m).1 hm
    refine ⟨by simp [hmT], fun d hd hdm => ?_⟩
    rw [List.mem_append] at hd
    rcases hd with hd | hd
    · exact hmin d hd hdm
    · obtain rfl : d = a := by simpa using hd
      have c1 := dvd_cmp hdm
      have c2 := h3 m hmT d (by simp)
      have c3 := cmpM_neg d m
      exact cmpM_zero (by omega)
  rw [minAcc_snoc, minStep]
  split
  · rename_i hin
    refine ⟨keep, fun ⟨hm, hmin⟩ => ?_⟩
    rw [List.mem_append] at hm
    rcases hm with hm | hm
    · exact (ih' m).2 ⟨hm, fun d hd => hmin d (by simp [hd])⟩
    · obtain rfl : m = a := by simpa using hm
      obtain ⟨e, he1, he2⟩ := inM_iff.1 hin
      have := hmin e (by simp [(minAcc_sub T).subset he1]) he2
      subst this; exact he1
  · rename_i hin
    rw [List.mem_append]
    constructor
    · rintro (hm | hm)
      · exact keep hm
      · obtain rfl : m = a := by simpa using hm
        refine ⟨by simp, fun d hd hdm => ?_⟩
        rw [List.mem_append] at hd
        rcases hd with hd | hd
        · obtain ⟨e, he1, he2⟩ := minAcc_cover T d hd
          exact absurd (inM_iff.2 ⟨e, he1, dvd_trans he2 hdm⟩) hin
        · simpa using hd
    · rintro ⟨hm, hmin⟩
      rw [List.mem_append] at hm
      rcases hm with hm | hm
      · exact .inl ((ih' m).2 ⟨hm, fun d hd => hmin d (by simp [hd])⟩)
      · exact .inr hm
theorem minimalM_mem {l : List M} {m : M} : m ∈ minimalM l ↔ (m ∈ l ∧ ∀ d ∈ l, dvdM d m → d = m) := by
  have hp := sortM_perm l
  simp only [minimalM, List.mem_reverse, minAcc_mem _ (sortM_sorted l), hp.mem_iff]
theorem minimalM_length (l : List M) : (minimalM l).length ≤ l.length := by
  have := (minAcc_sub (sortM l)).length_le
  rw [sortM_length] at this
  simpa [minimalM] using this
theorem minimalM_cover {l : List M} {d : M} (h : d ∈ l) : ∃ e ∈ minimalM l, dvdM e d := by
  obtain ⟨e, h1, h2⟩ := minAcc_cover (sortM l) d ((sortM_perm l).mem_iff.2 h)
  exact ⟨e, by simpa [minimalM] using h1, h2⟩
theorem minimalM_nil (l : List M) : (minimalM l).length = 0 ↔ l.length = 0 := by
  constructor
  · intro h
    cases l with
    | nil => rfl
    | cons a l =>
      obtain ⟨e, h1, _⟩ := minimalM_cover (l := a :: l) (d := a) (by simp)
      rw [List.eq_nil_of_length_eq_zero h] at h1
      simp at h1
  · intro h
    have := minimalM_length l
    omega
theorem inM_minimal (m : M) (l : List M) : inM m l = inM m (minimalM l) := by
  rw [Bool.eq_iff_iff, inM_iff, inM_iff]
  constructor
  · rintro ⟨d, h1, h2⟩
    obtain ⟨e, h3, h4⟩ := minimalM_cover h1
    exact ⟨e, h3, dvd_trans h4 h2⟩
  · rintro ⟨d, h1, h2⟩
    exact ⟨d, (minimalM_mem.1 h1).1, h2⟩
theorem minimalM_strict (l : List M) : (minimalM l).Pairwise fun x y => cmpM y x < 0 := by
  unfold minimalM
  rw [List.pairwise_reverse]
  exact minAcc_strict _ (sortM_sorted l)
theorem minimalM_same {l l' : List M} (h : ∀ m, m ∈ l ↔ m ∈ l') : minimalM l = minimalM l' := by
  have hm : ∀ m, m ∈ minimalM l ↔ m ∈ minimalM l' := fun m => by
    simp only [minimalM_mem, h]
  have nd : ∀ l : List M, (minimalM l).Nodup := fun l => (minimalM_strict l).imp fun {a b} hab e => by rw [e, cmpM_self] at hab; omega
  have hp : (minimalM l).Perm (minimalM l') := (List.perm_ext_iff_of_nodup (nd l) (nd l')).2 hm
  refine List.Perm.eq_of_pairwise (le := fun x y => cmpM y x < 0) ?_ (minimalM_strict l) (minimalM_strict l') hp
  intro a b _ _ h1 h2
  have := cmpM_neg a b
  omega
end Go.EL
