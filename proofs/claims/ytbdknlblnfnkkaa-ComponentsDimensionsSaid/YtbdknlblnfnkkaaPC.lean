/- Monomials and lists of them. No condition. -/
import Derived.Test.YtbdknlblnfnkkaaPA
import Derived.Test.YtbdknlblnfnkkaaPB
namespace Go.EL
open Go Go.RowKit
instance inhM : Inhabited M := ⟨fun _ => 0⟩
/-- The first k entries by f, the rest by a. -/
def mixM (k : Nat) (f a : M) : M := fun i => if i.val < k then f i else a i
theorem mix_step {k : Nat} (f a : M) (h : k < 8) : setF (mixM k f a) k (f ⟨k, h⟩) = mixM (k + 1) f a := by
  funext i; unfold setF mixM
  by_cases e : i.val = k
  · have : i = ⟨k, h⟩ := Fin.ext e
    subst this; simp
  · have e1 : (i.val < k + 1) = (i.val < k) := by apply propext; omega
    simp [e, e1]
theorem mix_at {k : Nat} (f a : M) (h : k < 8) : mixM k f a ⟨k, h⟩ = a ⟨k, h⟩ := by unfold mixM; simp
theorem mix_zero (f a : M) : mixM 0 f a = a := by funext i; simp [mixM]
theorem mix_all {k : Nat} (f a : M) (h : ¬ k < 8) : mixM k f a = f := by
  funext i
  have : i.val < k := by omega
  simp [mixM, this]
theorem all_step {p : Fin 8 → Prop} {k : Nat} (hall : ∀ i : Fin 8, i.val < k → p i) (h : k < 8) (hk : p ⟨k, h⟩) : ∀ i : Fin 8, i.val < k + 1 → p i := fun i hi => by
  by_cases e : i.val = k
  · have : i = ⟨k, h⟩ := Fin.ext e
    rw [this]; exact hk
  · exact hall i (by omega)
def zeroM : M := fun _ => 0
def maxM (a b : M) : M := fun i => if a i < b i then b i else a i
def minM (a b : M) : M := fun i => if b i < a i then b i else a i
/-- In the range of exponents. -/
def Ok (a : M) : Prop := ∀ i, 0 ≤ a i ∧ a i ≤ 65535
instance decOk (a : M) : Decidable (Ok a) := inferInstanceAs (Decidable (∀ i, 0 ≤ a i ∧ a i ≤ 65535))
def dvdM (a b : M) : Prop := ∀ i, a i ≤ b i
instance decDvd (a b : M) : Decidable (dvdM a b) := inferInstanceAs (Decidable (∀ i, a i ≤ b i))
/-- Powers of 2. -/
def p2 : Nat → Int
  | 0 => 1
  | k + 1 => 2 * p2 k
theorem p2_le : ∀ {k : Nat}, k ≤ 8 → 1 ≤ p2 k ∧ p2 k ≤ 256
  | 0, _ => by decide
  | 1, _ => by decide
  | 2, _ => by decide
  | 3, _ => by decide
  | 4, _ => by decide
  | 5, _ => by decide
  | 6, _ => by decide
  | 7, _ => by decide
  | 8, _ => by decide
  | k + 9, h => by omega
theorem p2_lt {k : Nat} (h : k < 8) : 1 ≤ p2 k ∧ p2 k ≤ 128 := by
  have := p2_le (k := k + 1) (by omega)
  simp only [p2] at this
  omega
theorem p2_shift {k : Nat} (h : k < 8) : IntKind.u8.wrap (1 * 2 ^ (min (k : Int).toNat IntKind.u8.bits)) = p2 k := by
  match k, h with
  | 0, _ => decide | 1, _ => decide | 2, _ => decide | 3, _ => decide | 4, _ => decide | 5, _ => decide | 6, _ => decide | 7, _ => decide
theorem p2_wrap {k : Nat} (h : k < 8) : IntKind.u8.wrap (p2 k) = p2 k := by
  match k, h with
  | 0, _ => decide | 1, _ => decide | 2, _ => decide | 3, _ => decide | 4, _ => decide | 5, _ => decide | 6, _ => decide | 7, _ => decide
/-- The variables below k that occur, as bits. -/
def suppTo (a : M) : Nat → Int
  | 0 => 0
  | k + 1 => suppTo a k + (if h : k < 8 then (if 0 < a ⟨k, h⟩ then p2 k else 0) else 0)
def suppM (a : M) : Int := suppTo a 8
theorem suppTo_lt (a : M) : ∀ k : Nat, 0 ≤ suppTo a k ∧ suppTo a k < p2 k
  | 0 => by simp [suppTo, p2]
  | k + 1 => by
    have ih := suppTo_lt a k
    simp only [suppTo, p2]
    split
    · split <;> omega
    · omega
theorem suppTo_yes (a : M) {k : Nat} (h : k < 8) (ha : 0 < a ⟨k, h⟩) : suppTo a k + p2 k = suppTo a (k + 1) := by simp [suppTo, h, ha]
theorem suppTo_no (a : M) {k : Nat} (h : k < 8) (ha : ¬ 0 < a ⟨k, h⟩) : suppTo a k = suppTo a (k + 1) := by simp [suppTo, h, ha]
theorem or_p2_nat : ∀ k : Fin 8, ∀ s : Fin 128, s.val < 2 ^ k.val → IntKind.u8.wrap (BitVec.ofInt IntKind.u8.bits (s.val : Int) ||| BitVec.ofInt IntKind.u8.bits (p2 k.val)).toNat = s.val + p2 k.val := by decide +kernel
theorem p2_nat : ∀ k : Nat, p2 k = ((2 ^ k : Nat) : Int)
  | 0 => rfl
  | k + 1 => by rw [p2, p2_nat k, Nat.pow_succ]; omega
theorem or_p2 {k : Nat} (h : k < 8) {s : Int} (h0 : 0 ≤ s) (h1 : s < p2 k) : IntKind.u8.wrap (BitVec.ofInt IntKind.u8.bits s ||| BitVec.ofInt IntKind.u8.bits (p2 k)).toNat = s + p2 k := by
  obtain ⟨n, rfl⟩ := Int.eq_ofNat_of_zero_le h0
  have h2 := p2_lt h
  rw [p2_nat] at h1
  exact or_p2_nat ⟨k, h⟩ ⟨n, by rw [p2_nat] at h2; omega⟩ (by simp; omega)
theorem add_p2 {k : Nat} (h : k < 8) {s : Int} (h0 : 0 ≤ s) (h1 : s < p2 k) : IntKind.u8.wrap (s + p2 k) = s + p2 k := by
  have h2 := p2_lt h
  simp only [IntKind.wrap, IntKind.bits, IntKind.signed, Bool.false_and, Bool.false_eq_true, if_false]
  omega

theorem ok_max {a b : M} (ha : Ok a) (hb : Ok b) : Ok (maxM a b) := fun i => by have := ha i; have := hb i; simp only [maxM]; split <;> omega
theorem maxM_comm (a b : M) : maxM a b = maxM b a := by funext i; simp only [maxM]; split <;> split <;> omega
theorem dvd_refl (a : M) : dvdM a a := fun _ => Int.le_refl _
theorem dvd_trans {a b c : M} (h : dvdM a b) (k : dvdM b c) : dvdM a c := fun i => Int.le_trans (h i) (k i)
theorem dvd_antisymm {a b : M} (h : dvdM a b) (k : dvdM b a) : a = b := funext fun i => Int.le_antisymm (h i) (k i)
theorem dvd_max_l (a b : M) : dvdM a (maxM a b) := fun i => by simp only [maxM]; split <;> omega
theorem dvd_max_r (a b : M) : dvdM b (maxM a b) := fun i => by simp only [maxM]; split <;> omega
theorem zero_dvd {a : M} (h : Ok a) : dvdM zeroM a := fun i => (h i).1
theorem max_dvd_iff {a b c : M} : dvdM (maxM a b) c ↔ dvdM a c ∧ dvdM b c := by
  constructor
  · intro h; exact ⟨dvd_trans (dvd_max_l a b) h, dvd_trans (dvd_max_r a b) h⟩
  · rintro ⟨h1, h2⟩ i; have := h1 i; have := h2 i; simp only [maxM]; split <;> omega
theorem cmpM_zero_iff {a b : M} : cmpM a b = 0 ↔ a = b := ⟨cmpM_zero, fun h => by subst h; exact cmpM_self _⟩
/-- The sorted list. -/
def sortM (l : List M) : List M := sortBy cmpM l
theorem sortM_perm (l : List M) : (sortM l).Perm l := List.mergeSort_perm _ _
theorem sortM_length (l : List M) : (sortM l).length = l.length := (sortM_perm l).length_eq
theorem sortM_sorted (l : List M) : (sortM l).Pairwise fun x y => cmpM x y ≤ 0 := by
  have := List.pairwise_mergeSort (le := fun x y => !(Go.Proofs.ltOf cmpM) y x) (fun a b c h1 h2 => by
    simp only [Bool.not_eq_true'] at *
    exact swoM.ntrans _ _ _ h2 h1) (fun a b => by
    simp only [Go.Proofs.ltOf, Bool.or_eq_true, Bool.not_eq_true', decide_eq_false_iff_not]
    have := cmpM_neg a b
    omega) l
  refine this.imp fun {a b} h => ?_
  simp only [Go.Proofs.ltOf, Bool.not_eq_true', decide_eq_false_iff_not] at h
  have := cmpM_neg a b
  omega
def inM (m : M) (l : List M) : Bool := l.any fun d => decide (dvdM d m)
def minStep (acc : List M) (m : M) : List M := if inM m acc then acc else acc ++ [m]
def minAcc (l : List M) : List M := l.foldl minStep []
theorem minAcc_next {l : List M} {x : Nat} (h : x < l.length) : minAcc (l.take (x + 1)) = minStep (minAcc (l.take x)) l[x] := by
  unfold minAcc
  rw [List.take_succ_eq_append_getElem h, List.foldl_append]
  rfl
def minimalM (l : List M) : List M := (minAcc (sortM l)).reverse
theorem dvd_cmpFrom {a b : M} (h : dvdM a b) : ∀ n k, cmpFrom a b n k ≤ 0
  | 0, _ => by simp [cmpFrom]
  | n + 1, k => by
    have ih := dvd_cmpFrom h n (k + 1)
    simp only [cmpFrom]
    split
    · rename_i hk
      have := h ⟨k, hk⟩
      split
      · omega
      · split
        · omega
        · exact ih
    · omega
theorem dvd_cmp {a b : M} (h : dvdM a b) : cmpM a b ≤ 0 := dvd_cmpFrom h 8 0
theorem inM_iff {m : M} {l : List M} : inM m l = true ↔ ∃ d ∈ l, dvdM d m := by simp [inM, List.any_eq_true]
theorem minAcc_snoc (T : List M) (a : M) : minAcc (T ++ [a]) = minStep (minAcc T) a := by unfold minAcc; rw [List.foldl_append]; rfl
theorem snoc_ind {α : Type} {p : List α → Prop} (h0 : p []) (h1 : ∀ l a, p l → p (l ++ [a])) : ∀ l, p l := fun l => by
  have : ∀ r : List α, p r.reverse := by
    intro r
    induction r with
    | nil => exact h0
    | cons a r ih => rw [List.reverse_cons]; exact h1 _ _ ih
  have h := this l.reverse
  rwa [List.reverse_reverse] at h
theorem minAcc_sub : ∀ S : List M, (minAcc S).Sublist S := snoc_ind (by simp [minAcc]) fun T a ih => by
  rw [minAcc_snoc, minStep]
  split
  · exact ih.trans (List.sublist_append_left _ _)
  · exact List.Sublist.append ih (List.Sublist.refl _)
theorem minAcc_cover : ∀ S : List M, ∀ d ∈ S, ∃ e ∈ minAcc S, dvdM e d := snoc_ind (by simp) fun T a ih d hd => by
  rw [minAcc_snoc, minStep]
  rw [List.mem_append] at hd
  split
  · rename_i hin
    rcases hd with hd | hd
    · exact ih d hd
    · obtain rfl : d = a := by simpa using hd
      obtain ⟨e, h1, h2⟩ := inM_iff.1 hin
      exact ⟨e, h1, h2⟩
  · rcases hd with hd | hd
    · obtain ⟨e, h1, h2⟩ := ih d hd
      exact ⟨e, by simp [h1], h2⟩
    · obtain rfl : d = a := by simpa using hd
      exact ⟨d, by simp, dvd_refl d⟩
theorem minAcc_strict : ∀ S : List M, S.Pairwise (fun x y => cmpM x y ≤ 0) → (minAcc S).Pairwise fun x y => cmpM x y < 0 := snoc_ind (by simp [minAcc]) fun T a ih hs => by
  rw [List.pairwise_append] at hs
  obtain ⟨h1, _, h3⟩ := hs
  rw [minAcc_snoc, minStep]
  split
  · exact ih h1
  · rename_i hin
    rw [List.pairwise_append]
    refine ⟨ih h1, by simp, fun t ht b hb => ?_⟩
    obtain rfl : b = a := by simpa using hb
    have hle := h3 t ((minAcc_sub T).subset ht) b (by simp)
    rcases Int.lt_or_eq_of_le hle with h | h
    · exact h
    · exact absurd (inM_iff.2 ⟨t, ht, by rw [cmpM_zero h]; exact dvd_refl b⟩) hin
theorem minAcc_mem : ∀ S : List M, S.Pairwise (fun x y => cmpM x y ≤ 0) → ∀ m, m ∈ minAcc S ↔ (m ∈ S ∧ ∀ d ∈ S, dvdM d m → d = m) := snoc_ind (by simp [minAcc]) fun T a ih hs m => by
  rw [List.pairwise_append] at hs
  obtain ⟨h1, _, h3⟩ := hs
  have ih' := ih h1
  have keep : m ∈ minAcc T → m ∈ T ++ [a] ∧ ∀ d ∈ T ++ [a], dvdM d m → d = m := fun hm => by
    obtain ⟨hmT, hmin⟩ := (ih' m).1 hm
    refine ⟨by simp [hmT], fun d hd hdm => ?_⟩
    rw [List.mem_append] at hd
    rcases hd with hd | hd
    · exact hmin d hd hdm
    · obtain rfl : d = a := by simpa using hd
      have c1 := dvd_cmp hdm
      have c2 := h3 m hmT d (by simp)
      have c3 := cmpM_neg d m
      exact cmpM_zero (by omega)
  rw [minAcc_snoc, minStep]
  split
  · rename_i hin
    refine ⟨keep, fun ⟨hm, hmin⟩ => ?_⟩
    rw [List.mem_append] at hm
    rcases hm with hm | hm
    · exact (ih' m).2 ⟨hm, fun d hd => hmin d (by simp [hd])⟩
    · obtain rfl : m = a := by simpa using hm
      obtain ⟨e, he1, he2⟩ := inM_iff.1 hin
      have := hmin e (by simp [(minAcc_sub T).subset he1]) he2
      subst this; exact he1
  · rename_i hin
    rw [List.mem_append]
    constructor
    · rintro (hm | hm)
      · exact keep hm
      · obtain rfl : m = a := by simpa using hm
        refine ⟨by simp, fun d hd hdm => ?_⟩
        rw [List.mem_append] at hd
        rcases hd with hd | hd
        · obtain ⟨e, he1, he2⟩ := minAcc_cover T d hd
          exact absurd (inM_iff.2 ⟨e, he1, dvd_trans he2 hdm⟩) hin
        · simpa using hd
    · rintro ⟨hm, hmin⟩
      rw [List.mem_append] at hm
      rcases hm with hm | hm
      · exact .inl ((ih' m).2 ⟨hm, fun d hd => hmin d (by simp [hd])⟩)
      · exact .inr hm
theorem minimalM_mem {l : List M} {m : M} : m ∈ minimalM l ↔ (m ∈ l ∧ ∀ d ∈ l, dvdM d m → d = m) := by
  have hp := sortM_perm l
  simp only [minimalM, List.mem_reverse, minAcc_mem _ (sortM_sorted l), hp.mem_iff]
theorem minimalM_length (l : List M) : (minimalM l).length ≤ l.length := by
  have := (minAcc_sub (sortM l)).length_le
  rw [sortM_length] at this
  simpa [minimalM] using this
theorem minimalM_cover {l : List M} {d : M} (h : d ∈ l) : ∃ e ∈ minimalM l, dvdM e d := by
  obtain ⟨e, h1, h2⟩ := minAcc_cover (sortM l) d ((sortM_perm l).mem_iff.2 h)
  exact ⟨e, by simpa [minimalM] using h1, h2⟩
theorem minimalM_nil (l : List M) : (minimalM l).length = 0 ↔ l.length = 0 := by
  constructor
  · intro h
    cases l with
    | nil => rfl
    | cons a l =>
      obtain ⟨e, h1, _⟩ := minimalM_cover (l := a :: l) (d := a) (by simp)
      rw [List.eq_nil_of_length_eq_zero h] at h1
      simp at h1
  · intro h
    have := minimalM_length l
    omega
theorem inM_minimal (m : M) (l : List M) : inM m l = inM m (minimalM l) := by
  rw [Bool.eq_iff_iff, inM_iff, inM_iff]
  constructor
  · rintro ⟨d, h1, h2⟩
    obtain ⟨e, h3, h4⟩ := minimalM_cover h1
    exact ⟨e, h3, dvd_trans h4 h2⟩
  · rintro ⟨d, h1, h2⟩
    exact ⟨d, (minimalM_mem.1 h1).1, h2⟩
theorem minimalM_strict (l : List M) : (minimalM l).Pairwise fun x y => cmpM y x < 0 := by
  unfold minimalM
  rw [List.pairwise_reverse]
  exact minAcc_strict _ (sortM_sorted l)
theorem minimalM_same {l l' : List M} (h : ∀ m, m ∈ l ↔ m ∈ l') : minimalM l = minimalM l' := by
  have hm : ∀ m, m ∈ minimalM l ↔ m ∈ minimalM l' := fun m => by
    simp only [minimalM_mem, h]
  have nd : ∀ l : List M, (minimalM l).Nodup := fun l => (minimalM_strict l).imp fun {a b} hab e => by rw [e, cmpM_self] at hab; omega
  have hp : (minimalM l).Perm (minimalM l') := (List.perm_ext_iff_of_nodup (nd l) (nd l')).2 hm
  refine List.Perm.eq_of_pairwise (le := fun x y => cmpM y x < 0) ?_ (minimalM_strict l) (minimalM_strict l') hp
  intro a b _ _ h1 h2
  have := cmpM_neg a b
  omega
end Go.EL
/- Loops over indexes; what the functions of monomials return. The conditions stand in each statement. -/
namespace Go.EL
open Go
/-- A loop that counts to n, or is left before. -/
theorem Comp.loop_idx {σ ρ : Type} {step : σ → Comp (σ ⊕ ρ)} {Φ : ρ → Prop} (n : Nat) (I : Nat → σ → Prop) (h : ∀ k s, k < n → I k s → (step s).wp (Out (fun s' => I (k + 1) s') Φ)) (hend : ∀ s, I n s → (step s).wp (Out (fun _ => False) Φ)) :
    ∀ {s : σ}, I 0 s → (Comp.loop step s).wp Φ := by
  have key : ∀ d k s, k + d = n → I k s → (Comp.loop step s).wp Φ := by
    intro d
    induction d with
    | zero => intro k s hk hs; rw [Nat.add_zero] at hk; subst hk; exact Comp.loop_fold ((step s).mono (Out.mono (fun _ h => h.elim) (fun _ x => x)) (hend s hs))
    | succ d ih => intro k s hk hs; exact Comp.loop_fold ((step s).mono (Out.mono (fun s' h' => ih (k + 1) s' (by omega) h') (fun _ x => x)) (h k s (by omega) hs))
  exact fun {s} hs => key n 0 s (by omega) hs
theorem wrapN {k : Nat} (h : k < 1000000000000) : IntKind.i64.wrap ((k : Int) + 1) = ((k + 1 : Nat) : Int) := by rw [wrap64 (by omega)]; simp
theorem idxN {α : Type} {l : List α} {k : Nat} (h : k < l.length) : (0 : Int) ≤ (k : Int) ∧ l[(k : Int).toNat]? = some l[k] := ⟨by omega, by simp [h]⟩
theorem getFN {a : M} {k : Nat} (h : k < 8) : getF a (k : Int) = a ⟨k, h⟩ := by rw [getF8 (by omega)]; rfl
/-- A list within the bounds of the model. -/
def Lb {α : Type} (l : List α) : Prop := l.length ≤ 1000000000

theorem monomial_Divides_ret (a b : M) : (monomial_Divides a b).Ret (decide (dvdM a b)) := by
  refine Comp.loop_idx 8 (fun k s => s = (k : Int) ∧ ∀ i : Fin 8, i.val < k → a i ≤ b i) (fun k s hk hs => ?_) (fun s hs => ?_) ⟨rfl, fun i hi => by omega⟩
  · obtain ⟨rfl, hi⟩ := hs
    rw [Comp.wp_ite, if_pos (by omega)]
    refine ⟨by omega, by omega, ?_⟩
    rw [Comp.wp_ite, getFN hk, getFN hk]
    split
    · rename_i h
      show _ = _
      exact (decide_eq_false (fun hd => by have := hd ⟨k, hk⟩; omega)).symm
    · rename_i h
      exact ⟨wrapN (by omega), all_step hi hk (by omega)⟩
  · obtain ⟨rfl, hi⟩ := hs
    rw [Comp.wp_ite, if_neg (by omega)]
    show _ = _
    exact (decide_eq_true (fun i => hi i i.isLt)).symm
theorem monomial_In_ret {m : M} {l : List M} (hl : Lb l) : (monomial_In m l).Ret (inM m l) := by
  unfold Lb at hl
  refine Comp.loop_idx l.length (fun k s => s = (k : Int) ∧ ∀ i (h : i < l.length), i < k → ¬ dvdM l[i] m) (fun k s hk hs => ?_) (fun s hs => ?_) ⟨rfl, fun i _ hi => by omega⟩
  · obtain ⟨rfl, hi⟩ := hs
    rw [Comp.wp_ite, if_pos (by omega)]
    refine ⟨l[k], idxN hk, _, monomial_Divides_ret _ _, ?_⟩
    rw [Comp.wp_ite]
    split
    · rename_i h
      show _ = _
      exact (inM_iff.2 ⟨l[k], List.getElem_mem hk, of_decide_eq_true h⟩).symm
    · rename_i h
      refine ⟨wrapN (by omega), fun i hi1 hi2 => ?_⟩
      by_cases e : i = k
      · subst e; exact fun hd => h (decide_eq_true hd)
      · exact hi i hi1 (by omega)
  · obtain ⟨rfl, hi⟩ := hs
    rw [Comp.wp_ite, if_neg (by omega)]
    show _ = _
    refine (Bool.eq_false_iff.2 fun h => ?_).symm
    obtain ⟨d, hd, hd2⟩ := inM_iff.1 h
    obtain ⟨i, hi1, rfl⟩ := List.mem_iff_getElem.1 hd
    exact hi i hi1 hi1 hd2
theorem monomial_Minimal_c1_ret {m : M} {l : List M} (hl : Lb l) : (monomial_Minimal_c1 m l).Ret (inM m l) := ⟨_, monomial_In_ret hl, rfl⟩
theorem reverse_ret {l : List M} (hl : Lb l) : (slices_Reverse_api_Mono_api_Mono l).Ret l.reverse := by
  unfold Lb at hl
  show (Comp.loop _ _).wp _
  refine Comp.loop_idx (l.length / 2) (fun k s => ∃ t : List M, s = (t, (k : Int), (l.length : Int) - 1 - k) ∧ t.length = l.length ∧ ∀ p, p < l.length → t[p]? = if p < k ∨ l.length - k ≤ p then l[l.length - 1 - p]? else l[p]?) (fun k s hk hs => ?_) (fun s hs => ?_) ⟨l, ?_, rfl, fun p hp => ?_⟩
  · obtain ⟨t, rfl, ht, hp⟩ := hs
    have h1 : k < l.length := by omega
    have h2 : l.length - 1 - k < l.length := by omega
    have e1 := hp k h1
    rw [if_neg (by omega), List.getElem?_eq_getElem h1] at e1
    have e2 := hp (l.length - 1 - k) h2
    rw [if_neg (by omega), List.getElem?_eq_getElem h2] at e2
    have n1 : ((k : Nat) : Int).toNat = k := by omega
    have n2 : ((l.length : Int) - 1 - k).toNat = l.length - 1 - k := by omega
    show (if (k : Int) < (l.length : Int) - 1 - k then _ else _ : Comp _).wp _
    rw [Comp.wp_ite, if_pos (by omega)]
    refine ⟨_, ⟨by omega, by rw [n2]; exact e2⟩, _, ⟨by omega, by rw [n1]; exact e1⟩, _, ⟨by omega, by rw [n1]; exact e1⟩, l[l.length - 1 - k], ⟨by omega, ?_⟩, ?_⟩
    · rw [n1, n2, List.getElem?_set_ne (by omega)]; exact e2
    · refine ⟨(t.set k l[l.length - 1 - k]).set (l.length - 1 - k) l[k], ?_, ?_, fun p hpl => ?_⟩
      · rw [n1, n2, wrap64 (by omega), wrap64 (by omega)]
        refine Prod.ext rfl (Prod.ext ?_ ?_)
        · show (k : Int) + 1 = ((k + 1 : Nat) : Int); omega
        · show (l.length : Int) - 1 - k - 1 = (l.length : Int) - 1 - ((k + 1 : Nat) : Int); omega
      · simp [ht]
      · rw [List.getElem?_set]
        split
        · rename_i e; subst e
          rw [List.length_set, if_pos (by omega), if_pos (by omega), show l.length - 1 - (l.length - 1 - k) = k by omega, List.getElem?_eq_getElem h1]
        · rename_i ne1
          rw [List.getElem?_set]
          split
          · rename_i e; subst e
            rw [if_pos (by omega), if_pos (by omega), List.getElem?_eq_getElem h2]
          · rename_i ne2
            rw [hp p hpl]
            by_cases hc : p < k ∨ l.length - k ≤ p
            · rw [if_pos hc, if_pos (by omega)]
            · rw [if_neg hc, if_neg (by omega)]
  · obtain ⟨t, rfl, ht, hp⟩ := hs
    show (if ((l.length / 2 : Nat) : Int) < (l.length : Int) - 1 - ((l.length / 2 : Nat) : Int) then _ else _ : Comp _).wp _
    rw [Comp.wp_ite, if_neg (by omega)]
    show t = l.reverse
    apply List.ext_getElem?
    intro p
    by_cases h : p < l.length
    · rw [hp p h, List.getElem?_reverse h]
      split
      · rfl
      · have : p = l.length - 1 - p := by omega
        rw [← this]
    · rw [List.getElem?_eq_none (by omega), List.getElem?_eq_none (by simp; omega)]
  · rw [wrap64 (by omega)]; simp
  · rw [if_neg (by omega)]
theorem clone_ret {l : List M} (hl : Lb l) : (slices_Clone_api_Mono_api_Mono l).Ret l := by
  refine ⟨fun h => ?_, ?_, ?_⟩
  · show [] = l; exact h.symm
  · exact hl
  · show [] ++ l = l; rfl
theorem monomial_Minimal_ret {l : List M} (hl : Lb l) : (monomial_Minimal l).Ret (minimalM l) := by
  have hl' := hl
  unfold Lb at hl
  have hs : (sortM l).length = l.length := sortM_length l
  refine ⟨l, clone_ret hl', sortM l, ⟨hl, rfl⟩, ?_⟩
  show (Comp.loop _ _).wp _
  refine Comp.loop_idx (sortM l).length (fun k s => s = ((k : Int), minAcc ((sortM l).take k))) (fun k s hk hs' => ?_) (fun s hs' => ?_) rfl
  · subst hs'
    have hlen : (minAcc ((sortM l).take k)).length ≤ k := by
      have := (minAcc_sub ((sortM l).take k)).length_le
      simp at this; omega
    show (if ((k : Nat) : Int) < ((sortM l).length : Int) then _ else _ : Comp _).wp _
    rw [Comp.wp_ite, if_pos (by omega)]
    refine ⟨_, idxN hk, _, monomial_Minimal_c1_ret (by unfold Lb; omega), ?_⟩
    have hn := minAcc_next hk
    rw [Comp.wp_ite]
    split
    · rename_i h
      refine ⟨by simp [small]; omega, ?_⟩
      show _ = _
      rw [wrapN (by omega), hn, minStep, if_neg (by simpa using h)]
    · rename_i h
      show _ = _
      rw [wrapN (by omega), hn, minStep, if_pos (by simpa using h)]
  · subst hs'
    show (if (((sortM l).length : Nat) : Int) < ((sortM l).length : Int) then _ else _ : Comp _).wp _
    rw [Comp.wp_ite, if_neg (by omega), List.take_length]
    have hlen : (minAcc (sortM l)).length ≤ l.length := by have := (minAcc_sub (sortM l)).length_le; omega
    exact ⟨_, reverse_ret (by unfold Lb; omega), rfl⟩
end Go.EL
/- Irreducible components: what the function returns. The conditions stand in each statement. -/
namespace Go.EL
open Go
/-- All entries are numbers of the machine. -/
def Wf (m : M) : Prop := ∀ i, (Lit.int IntKind.i64 (m i)).wf = true
theorem Wf_zero : Wf zeroM := fun _ => show (Lit.int IntKind.i64 0).wf = true by decide
theorem Wf_set {a g : M} (ha : Wf a) (hg : Wf g) {k : Nat} (h : k < 8) : Wf (setF a k (g ⟨k, h⟩)) := fun i => by
  unfold setF
  split
  · exact hg ⟨k, h⟩
  · exact ha i
/-- The splitting of an irreducible ideal by a monomial. -/
def splitTo (a g : M) : Nat → List M
  | 0 => []
  | k + 1 => splitTo a g k ++ (if h : k < 8 then (if 0 < g ⟨k, h⟩ then [setF a k (g ⟨k, h⟩)] else []) else [])
def splitM (a g : M) : List M := if ∃ i, 0 < a i ∧ a i ≤ g i then [a] else splitTo a g 8
theorem splitTo_length (a g : M) : ∀ k, (splitTo a g k).length ≤ k
  | 0 => by simp [splitTo]
  | k + 1 => by
    have := splitTo_length a g k
    simp only [splitTo, List.length_append]
    split
    · split <;> simp <;> omega
    · simp; omega
theorem splitTo_mem {a g x : M} : ∀ {k}, k ≤ 8 → (x ∈ splitTo a g k ↔ ∃ i : Fin 8, i.val < k ∧ 0 < g i ∧ x = setF a i.val (g i))
  | 0, _ => by simp [splitTo]
  | k + 1, hk => by
    have h : k < 8 := by omega
    simp only [splitTo, List.mem_append, splitTo_mem (by omega : k ≤ 8), dif_pos h]
    constructor
    · rintro (⟨i, h1, h2, h3⟩ | h1)
      · exact ⟨i, by omega, h2, h3⟩
      · split at h1
        · rename_i hp; simp only [List.mem_singleton] at h1; exact ⟨⟨k, h⟩, by simp, hp, h1⟩
        · simp at h1
    · rintro ⟨i, h1, h2, h3⟩
      by_cases e : i.val = k
      · right
        have : i = ⟨k, h⟩ := Fin.ext e
        subst this
        rw [if_pos h2, h3]; simp
      · exact .inl ⟨i, by omega, h2, h3⟩
theorem splitM_length (a g : M) : (splitM a g).length ≤ 8 := by
  unfold splitM
  split
  · simp
  · exact splitTo_length a g 8
theorem splitM_Wf {a g x : M} (ha : Wf a) (hg : Wf g) (h : x ∈ splitM a g) : Wf x := by
  unfold splitM at h
  split at h
  · simp only [List.mem_singleton] at h; subst h; exact ha
  · obtain ⟨i, _, _, rfl⟩ := (splitTo_mem (Nat.le_refl 8)).1 h
    exact Wf_set ha hg i.isLt
theorem split_ret (a g : M) : (components_split a g).Ret (splitM a g) := by
  show (Comp.loop _ _).wp _
  refine Comp.loop_idx 8 (fun k s => s = (splitTo a g k, (k : Int)) ∧ ∀ i : Fin 8, i.val < k → ¬ (0 < a i ∧ a i ≤ g i)) (fun k s hk hs => ?_) (fun s hs => ?_) ⟨rfl, fun i hi => by omega⟩
  · obtain ⟨rfl, hi⟩ := hs
    have hlen := splitTo_length a g k
    show (if (k : Int) < 8 then _ else _ : Comp _).wp _
    rw [Comp.wp_ite, if_pos (by omega)]
    refine ⟨by omega, by omega, ?_⟩
    have more : ¬ (0 < a ⟨k, hk⟩ ∧ a ⟨k, hk⟩ ≤ g ⟨k, hk⟩) → ∀ {Φ : _ → Prop}, (if 0 < getF g (k : Int) then (Comp.chk (0 ≤ (k : Int) ∧ (k : Int) < 8) (Comp.chk ((splitTo a g k ++ [setF a (k : Int).toNat (getF g (k : Int))]).length ≤ small) (Comp.ret (.inl ((splitTo a g k ++ [setF a (k : Int).toNat (getF g (k : Int))]), IntKind.i64.wrap ((k : Int) + 1)))))) else (Comp.ret (.inl (splitTo a g k, IntKind.i64.wrap ((k : Int) + 1)))) : Comp ((List M × Int) ⊕ (List M ⊕ List M))).wp
        (Out (fun s' => s' = (splitTo a g (k + 1), ((k + 1 : Nat) : Int)) ∧ ∀ i : Fin 8, i.val < k + 1 → ¬ (0 < a i ∧ a i ≤ g i)) Φ) := by
      intro hno Φ
      have hi' := all_step hi hk hno
      rw [Comp.wp_ite, getFN hk, wrapN (by omega)]
      split
      · rename_i hp
        refine ⟨by omega, by simp [small]; omega, ?_, hi'⟩
        simp [splitTo, hk, hp]
      · rename_i hp
        refine ⟨?_, hi'⟩
        simp [splitTo, hk, hp]
    rw [Comp.wp_ite, getFN hk]
    split
    · rename_i h1
      refine ⟨by omega, ?_⟩
      rw [Comp.wp_ite, getFN hk]
      split
      · rename_i h2
        show [a] = splitM a g
        rw [splitM, if_pos ⟨⟨k, hk⟩, h1, h2⟩]
      · rename_i h2
        have h3 := fun Φ => more (fun h => h2 h.2) (Φ := Φ)
        simp only [getFN hk] at h3
        exact h3 _
    · rename_i h1
      exact more (fun h => h1 h.1)
  · obtain ⟨rfl, hi⟩ := hs
    show (if ((8 : Nat) : Int) < 8 then _ else _ : Comp _).wp _
    rw [Comp.wp_ite, if_neg (by omega)]
    show splitTo a g 8 = splitM a g
    rw [splitM, if_neg]
    rintro ⟨i, h⟩
    exact hi i i.isLt h
/-- The irreducible ideal of a contains that of b. -/
def contM (a b : M) : Prop := ∀ i, 0 < b i → ¬ a i = 0 ∧ a i ≤ b i
instance decCont (a b : M) : Decidable (contM a b) := inferInstanceAs (Decidable (∀ i, 0 < b i → ¬ a i = 0 ∧ a i ≤ b i))
theorem contains_ret (a b : M) : (components_contains a b).Ret (decide (contM a b)) := by
  show (Comp.loop _ _).wp _
  refine Comp.loop_idx 8 (fun k s => s = (k : Int) ∧ ∀ i : Fin 8, i.val < k → 0 < b i → ¬ a i = 0 ∧ a i ≤ b i) (fun k s hk hs => ?_) (fun s hs => ?_) ⟨rfl, fun i hi => by omega⟩
  · obtain ⟨rfl, hi⟩ := hs
    show (if (k : Int) < 8 then _ else _ : Comp _).wp _
    rw [Comp.wp_ite, if_pos (by omega)]
    refine ⟨by omega, ?_⟩
    rw [Comp.wp_ite, getFN hk]
    split
    · rename_i h1
      refine ⟨by omega, ?_⟩
      rw [Comp.wp_ite, getFN hk]
      split
      · rename_i h2
        show _ = _
        exact (decide_eq_false (fun h => (h ⟨k, hk⟩ h1).1 h2)).symm
      · rename_i h2
        refine ⟨by omega, ?_⟩
        rw [Comp.wp_ite]
        split
        · rename_i h3
          show _ = _
          exact (decide_eq_false (fun h => by have := (h ⟨k, hk⟩ h1).2; omega)).symm
        · rename_i h3
          exact ⟨wrapN (by omega), all_step hi hk (fun _ => ⟨h2, by omega⟩)⟩
    · rename_i h1
      exact ⟨wrapN (by omega), all_step hi hk (fun h => absurd h h1)⟩
  · obtain ⟨rfl, hi⟩ := hs
    show (if ((8 : Nat) : Int) < 8 then _ else _ : Comp _).wp _
    rw [Comp.wp_ite, if_neg (by omega)]
    show _ = _
    exact (decide_eq_true (fun i => hi i i.isLt)).symm
/-- The keys of a list that is put into a map. -/
def putAll (D : List (M × Bool)) (l : List M) : List (M × Bool) := l.foldl (fun D b => mput D b true) D
theorem mput_length {K V : Type} [DecidableEq K] (D : List (K × V)) (k : K) (x : V) : (mput D k x).length ≤ D.length + 1 := by
  induction D with
  | nil => simp [mput]
  | cons p D ih => simp only [mput]; split <;> simp <;> omega
theorem mput_keys {K V : Type} [DecidableEq K] (D : List (K × V)) (k : K) (x : V) (y : K) : y ∈ (mput D k x).map (·.1) ↔ y = k ∨ y ∈ D.map (·.1) := by
  induction D with
  | nil => simp [mput]
  | cons p D ih =>
    simp only [mput]
    split
    · rename_i h
      simp only [List.map_cons, List.mem_cons, h]
      constructor
      · rintro (h | h); exact .inl h; exact .inr (.inr h)
      · rintro (h | h | h); exact .inl h; exact .inl h; exact .inr h
    · simp only [List.map_cons, List.mem_cons, ih]
      constructor
      · rintro (h | h | h); exact .inr (.inl h); exact .inl h; exact .inr (.inr h)
      · rintro (h | h | h); exact .inr (.inl h); exact .inl h; exact .inr (.inr h)
theorem mput_nodup {K V : Type} [DecidableEq K] (D : List (K × V)) (k : K) (x : V) (h : (D.map (·.1)).Nodup) : ((mput D k x).map (·.1)).Nodup := by
  induction D with
  | nil => simp [mput]
  | cons p D ih =>
    simp only [List.map_cons, List.nodup_cons] at h
    simp only [mput]
    split
    · rename_i e
      simp only [List.map_cons, List.nodup_cons]
      rw [← e]; exact h
    · rename_i e
      simp only [List.map_cons, List.nodup_cons]
      exact ⟨fun hm => ((mput_keys D k x p.1).1 hm).elim e h.1, ih h.2⟩
theorem putAll_spec (D : List (M × Bool)) (l : List M) (h : (D.map (·.1)).Nodup) : ((putAll D l).map (·.1)).Nodup ∧ (putAll D l).length ≤ D.length + l.length ∧ ∀ y, y ∈ (putAll D l).map (·.1) ↔ y ∈ l ∨ y ∈ D.map (·.1) := by
  induction l generalizing D with
  | nil => exact ⟨h, by simp [putAll], by simp [putAll]⟩
  | cons b l ih =>
    obtain ⟨h1, h2, h3⟩ := ih (mput D b true) (mput_nodup D b true h)
    have := mput_length D b true
    refine ⟨h1, by simp only [putAll, List.foldl_cons, List.length_cons] at *; omega, fun y => ?_⟩
    show y ∈ (putAll (mput D b true) l).map (·.1) ↔ _
    rw [h3, mput_keys, List.mem_cons]
    constructor
    · rintro (h | h | h); exact .inl (.inr h); exact .inl (.inl h); exact .inr h
    · rintro ((h | h) | h); exact .inr (.inl h); exact .inl h; exact .inr (.inr h)
def redM (F : List M) (a : M) : Prop := ∃ b ∈ F, a ≠ b ∧ contM a b
instance decRed (F : List M) (a : M) : Decidable (redM F a) := inferInstanceAs (Decidable (∃ b ∈ F, a ≠ b ∧ contM a b))
def irrStep (S : List M) (g : M) : List M := ((putAll [] (S.flatMap (splitM · g))).map (·.1)).filter fun a => !decide (redM (S.flatMap (splitM · g)) a)
def irrAcc (gens : List M) : List M := gens.foldl irrStep [zeroM]
/-- The irreducible components. -/
def irrF (l : List M) : List M := sortBy (fun a b => cmpM b a) (irrAcc (minimalM l))
theorem irrStep_mem {S : List M} {g x : M} : x ∈ irrStep S g ↔ x ∈ S.flatMap (splitM · g) ∧ ¬ redM (S.flatMap (splitM · g)) x := by
  have := (putAll_spec [] (S.flatMap (splitM · g)) (by simp)).2.2 x
  simp only [List.map_nil, List.not_mem_nil, or_false] at this
  simp only [irrStep, List.mem_filter, this, Bool.not_eq_true', decide_eq_false_iff_not]
theorem irrStep_nodup (S : List M) (g : M) : (irrStep S g).Nodup := (putAll_spec [] (S.flatMap (splitM · g)) (by simp)).1.filter _
theorem flatMap_len {α β : Type} (f : α → List β) (B : Nat) : ∀ (l : List α), (∀ e ∈ l, (f e).length ≤ B) → (l.flatMap f).length ≤ l.length * B
  | [], _ => by simp
  | x :: l, h => by
    have h1 := h x (by simp)
    have h2 := flatMap_len f B l (fun e he => h e (by simp [he]))
    simp only [List.flatMap_cons, List.length_append, List.length_cons, Nat.add_mul]; omega
theorem redM_congr {F F' : List M} (h : ∀ x, x ∈ F ↔ x ∈ F') (a : M) : redM F a ↔ redM F' a := ⟨fun ⟨b, h1, h2⟩ => ⟨b, (h b).1 h1, h2⟩, fun ⟨b, h1, h2⟩ => ⟨b, (h b).2 h1, h2⟩⟩
theorem L7_ret {ks v : List M} (hl : Lb ks) (x : M) {Φ : _ → Prop} (h1 : redM ks x → Φ (.inl v)) (h2 : ¬ redM ks x → Φ (.inr ())) : (components_irreducible_L7 ks v x 0).wp Φ := by
  unfold Lb at hl
  refine Comp.loop_idx ks.length (fun k s => s = (k : Int) ∧ ∀ i (h : i < ks.length), i < k → ¬ (x ≠ ks[i] ∧ contM x ks[i])) (fun k s hk hs => ?_) (fun s hs => ?_) ⟨rfl, fun i _ hi => by omega⟩
  · obtain ⟨rfl, hi⟩ := hs
    show (if (k : Int) < (ks.length : Int) then _ else _ : Comp _).wp _
    rw [Comp.wp_ite, if_pos (by omega)]
    have more : ¬ (x ≠ ks[k] ∧ contM x ks[k]) → IntKind.i64.wrap ((k : Int) + 1) = ((k + 1 : Nat) : Int) ∧ ∀ i (h : i < ks.length), i < k + 1 → ¬ (x ≠ ks[i] ∧ contM x ks[i]) := fun hno => ⟨wrapN (by omega), fun i h1 h2 => by
      by_cases e : i = k
      · subst e; exact hno
      · exact hi i h1 (by omega)⟩
    refine ⟨ks[k], idxN hk, ?_⟩
    rw [Comp.wp_ite]
    split
    · rename_i hne
      refine ⟨_, contains_ret _ _, ?_⟩
      rw [Comp.wp_ite]
      split
      · rename_i hc
        exact h1 ⟨ks[k], List.getElem_mem hk, hne, of_decide_eq_true hc⟩
      · rename_i hc
        exact more (fun h => hc (decide_eq_true h.2))
    · rename_i hne
      exact more (fun h => hne h.1)
  · obtain ⟨rfl, hi⟩ := hs
    show (if ((ks.length : Nat) : Int) < (ks.length : Int) then _ else _ : Comp _).wp _
    rw [Comp.wp_ite, if_neg (by omega)]
    refine h2 ?_
    rintro ⟨b, hb, hb2⟩
    obtain ⟨i, hi1, rfl⟩ := List.mem_iff_getElem.1 hb
    exact hi i hi1 hi1 hb2
theorem L4_ret {ks : List M} (hl : Lb ks) : (components_irreducible_L4 ks ([], 0)).Ret (ks.filter fun a => !decide (redM ks a)) := by
  have hl' := hl
  unfold Lb at hl
  refine Comp.loop_idx ks.length (fun k s => s = ((ks.take k).filter (fun a => !decide (redM ks a)), (k : Int))) (fun k s hk hs => ?_) (fun s hs => ?_) rfl
  · subst hs
    show (if (k : Int) < (ks.length : Int) then _ else _ : Comp _).wp _
    rw [Comp.wp_ite, if_pos (by omega)]
    refine ⟨ks[k], idxN hk, ?_⟩
    have ht : ks.take (k + 1) = ks.take k ++ [ks[k]] := (List.take_append_getElem hk).symm
    have hlen : ((ks.take k).filter (fun a => !decide (redM ks a))).length ≤ k := by
      have := List.length_filter_le (fun a => !decide (redM ks a)) (ks.take k)
      simp at this ⊢; omega
    refine L7_ret hl' _ (fun h => ?_) (fun h => ?_)
    · show _ = _
      rw [wrapN (by omega), ht, List.filter_append]
      simp [h]
    · refine ⟨by simp only [List.length_append, List.length_cons, List.length_nil, small]; omega, ?_⟩
      show _ = _
      rw [wrapN (by omega), ht, List.filter_append]
      simp [h]
  · subst hs
    show (if ((ks.length : Nat) : Int) < (ks.length : Int) then _ else _ : Comp _).wp _
    rw [Comp.wp_ite, if_neg (by omega), List.take_length]
    rfl
theorem L11_ret {ys : List M} {D : List (M × Bool)} (hw : ∀ y ∈ ys, Wf y) (hl : D.length + ys.length ≤ 1000000000) : (components_irreducible_L11 ys (0, D)).Ret (putAll D ys) := by
  have hb : ∀ (l : List M) (D : List (M × Bool)), (putAll D l).length ≤ D.length + l.length := by
    intro l
    induction l with
    | nil => intro D; simp [putAll]
    | cons b l ih => intro D; have := ih (mput D b true); have := mput_length D b true; simp only [putAll, List.foldl_cons, List.length_cons] at *; omega
  refine Comp.loop_idx ys.length (fun k s => s = ((k : Int), putAll D (ys.take k))) (fun k s hk hs => ?_) (fun s hs => ?_) rfl
  · subst hs
    show (if (k : Int) < (ys.length : Int) then _ else _ : Comp _).wp _
    rw [Comp.wp_ite, if_pos (by omega)]
    have ht : putAll D (ys.take (k + 1)) = mput (putAll D (ys.take k)) ys[k] true := by
      rw [(List.take_append_getElem hk).symm, putAll, List.foldl_append]; rfl
    refine ⟨ys[k], idxN hk, ⟨hw _ (List.getElem_mem hk), ?_⟩, ?_⟩
    · have h1 := hb (ys.take k) D
      have h2 := mput_length (putAll D (ys.take k)) ys[k] true
      simp at h1
      show _ ≤ small
      simp only [small]
      omega
    · show _ = _
      rw [wrapN (by omega), ht]
  · subst hs
    show (if ((ys.length : Nat) : Int) < (ys.length : Int) then _ else _ : Comp _).wp _
    rw [Comp.wp_ite, if_neg (by omega), List.take_length]
    rfl
theorem L9_ret {R : List M} {g : M} (hw : ∀ y ∈ R, Wf y) (hg : Wf g) (hl : R.length * 8 ≤ 1000000000) : (components_irreducible_L9 R g (0, [])).Ret (putAll [] (R.flatMap (splitM · g))) := by
  refine Comp.loop_idx R.length (fun k s => s = ((k : Int), putAll [] ((R.take k).flatMap (splitM · g)))) (fun k s hk hs => ?_) (fun s hs => ?_) rfl
  · subst hs
    show (if (k : Int) < (R.length : Int) then _ else _ : Comp _).wp _
    rw [Comp.wp_ite, if_pos (by omega)]
    have ht : putAll [] ((R.take (k + 1)).flatMap (splitM · g)) = putAll (putAll [] ((R.take k).flatMap (splitM · g))) (splitM R[k] g) := by
      rw [(List.take_append_getElem hk).symm, List.flatMap_append]
      simp [putAll, List.foldl_append]
    refine ⟨R[k], idxN hk, _, split_ret _ _, ?_⟩
    have h1 := flatMap_len (splitM · g) 8 (R.take k) (fun e _ => splitM_length e g)
    have h2 := (putAll_spec [] ((R.take k).flatMap (splitM · g)) (by simp)).2.1
    have h3 := splitM_length R[k] g
    simp only [List.length_take, List.length_nil] at h1 h2
    have h4 : min k R.length * 8 ≤ (R.length - 1) * 8 := Nat.mul_le_mul_right _ (by omega)
    refine Comp.wp_next.2 ((L11_ret (fun y hy => splitM_Wf (hw _ (List.getElem_mem hk)) hg hy) (by omega)).then ?_)
    show _ = _
    rw [wrapN (by omega), ht]
  · subst hs
    show (if ((R.length : Nat) : Int) < (R.length : Int) then _ else _ : Comp _).wp _
    rw [Comp.wp_ite, if_neg (by omega), List.take_length]
    rfl
theorem sortR_eq {l l' : List M} (h : l.Perm l') : sortBy (fun a b => cmpM b a) l = sortBy (fun a b => cmpM b a) l' := by
  have tr : ∀ a b c : M, (!(Go.Proofs.ltOf fun a b => cmpM b a) b a) = true → (!(Go.Proofs.ltOf fun a b => cmpM b a) c b) = true → (!(Go.Proofs.ltOf fun a b => cmpM b a) c a) = true := fun a b c h1 h2 => by
    simp only [Bool.not_eq_true'] at *
    exact swoR.ntrans _ _ _ h2 h1
  have to : ∀ a b : M, ((!(Go.Proofs.ltOf fun a b => cmpM b a) b a) || (!(Go.Proofs.ltOf fun a b => cmpM b a) a b)) = true := fun a b => by
    simp only [Go.Proofs.ltOf, Bool.or_eq_true, Bool.not_eq_true', decide_eq_false_iff_not]
    have := cmpM_neg a b
    omega
  refine List.Perm.eq_of_pairwise (le := fun a b => (!(Go.Proofs.ltOf fun a b => cmpM b a) b a) = true) (fun a b _ _ h1 h2 => ?_) (List.pairwise_mergeSort tr to l) (List.pairwise_mergeSort tr to l') (((List.mergeSort_perm l _).trans h).trans (List.mergeSort_perm l' _).symm)
  simp only [Bool.not_eq_true'] at h1 h2
  exact totR a b h2 h1
theorem pow8 : ∀ {k : Nat}, k ≤ 8 → 8 ^ k ≤ 16777216 := fun h => Nat.le_trans (Nat.pow_le_pow_right (by decide) h) (by decide)
theorem irreducible_ret {l : List M} (hl : Lb l) (h8 : (minimalM l).length ≤ 8) (hw : ∀ m ∈ l, Wf m) : (components_irreducible l).Ret (irrF l) := by
  refine ⟨_, monomial_Minimal_ret hl, ?_⟩
  have hwg : ∀ m ∈ minimalM l, Wf m := fun m hm => hw m (minimalM_mem.1 hm).1
  show (Comp.loop _ _).wp _
  refine Comp.loop_idx (minimalM l).length (fun k s => ∃ R : List M, s = (R, (k : Int)) ∧ R.Nodup ∧ (∀ x, x ∈ R ↔ x ∈ irrAcc ((minimalM l).take k)) ∧ (∀ x ∈ R, Wf x) ∧ R.length ≤ 8 ^ k) (fun k s hk hs => ?_) (fun s hs => ?_)
    ⟨[zeroM], rfl, by simp, fun x => by simp [irrAcc], fun x hx => by simp only [List.mem_singleton] at hx; subst hx; exact Wf_zero, by simp⟩
  · obtain ⟨R, rfl, hnd, hmem, hwf, hlen⟩ := hs
    show (if (k : Int) < ((minimalM l).length : Int) then _ else _ : Comp _).wp _
    rw [Comp.wp_ite, if_pos (by omega)]
    have hp := pow8 (k := k) (by omega)
    have hp1 : 8 ^ (k + 1) = 8 ^ k * 8 := rfl
    refine ⟨(minimalM l)[k], idxN hk, Comp.wp_next.2 ((L9_ret hwf (hwg _ (List.getElem_mem hk)) (by omega)).then ?_)⟩
    obtain ⟨s1, s2, s3⟩ := putAll_spec [] (R.flatMap (splitM · (minimalM l)[k])) (by simp)
    have hfl := flatMap_len (splitM · (minimalM l)[k]) 8 R (fun e _ => splitM_length e _)
    intro ks hks
    have hkl : ks.length ≤ R.length * 8 := by
      have := hks.length_eq
      simp only [List.length_map] at this
      simp only [List.length_nil] at s2
      omega
    have hkm : ∀ x, x ∈ ks ↔ x ∈ R.flatMap (splitM · (minimalM l)[k]) := fun x => by rw [hks.mem_iff, s3]; simp
    refine Comp.wp_next.2 ((L4_ret (ks := ks) (by unfold Lb; omega)).then ?_)
    refine ⟨_, by rw [wrapN (by omega)], (hks.nodup_iff.2 s1).filter _, fun x => ?_, fun x hx => ?_, ?_⟩
    · have ht : irrAcc ((minimalM l).take (k + 1)) = irrStep (irrAcc ((minimalM l).take k)) (minimalM l)[k] := by
        rw [(List.take_append_getElem hk).symm, irrAcc, List.foldl_append]; rfl
      have hF : ∀ y, y ∈ R.flatMap (splitM · (minimalM l)[k]) ↔ y ∈ (irrAcc ((minimalM l).take k)).flatMap (splitM · (minimalM l)[k]) := fun y => by
        simp only [List.mem_flatMap, hmem]
      rw [ht, irrStep_mem, List.mem_filter, hkm, hF]
      simp only [Bool.not_eq_true', decide_eq_false_iff_not]
      rw [redM_congr (fun y => (hkm y).trans (hF y))]
    · obtain ⟨y, hy, hxy⟩ := List.mem_flatMap.1 ((hkm x).1 (List.mem_filter.1 hx).1)
      exact splitM_Wf (hwf y hy) (hwg _ (List.getElem_mem hk)) hxy
    · refine Nat.le_trans (List.length_filter_le _ ks) ?_
      rw [hp1]
      exact Nat.le_trans hkl (Nat.mul_le_mul_right _ hlen)
  · obtain ⟨R, rfl, hnd, hmem, hwf, hlen⟩ := hs
    show (if (((minimalM l).length : Nat) : Int) < ((minimalM l).length : Int) then _ else _ : Comp _).wp _
    rw [Comp.wp_ite, if_neg (by omega)]
    rw [List.take_length] at hmem
    have hp := pow8 h8
    refine ⟨_, ⟨by simp only [small]; omega, rfl⟩, ?_⟩
    show _ = irrF l
    refine sortR_eq ((List.perm_ext_iff_of_nodup hnd ?_).2 hmem)
    clear hmem hwg h8 hlen hp
    generalize minimalM l = gs
    rcases List.eq_nil_or_concat gs with rfl | ⟨gs', g, rfl⟩
    · simp [irrAcc]
    · rw [irrAcc, List.concat_eq_append, List.foldl_append]; exact irrStep_nodup _ _
end Go.EL
/- What the other functions of components return. The conditions stand in each statement. -/
namespace Go.EL
open Go
theorem Valid_ret (m : M) : (monomial_Valid m).Ret (decide (Ok m)) := by
  show (Comp.loop _ _).wp _
  refine Comp.loop_idx 8 (fun k s => s = (k : Int) ∧ ∀ i : Fin 8, i.val < k → 0 ≤ m i ∧ m i ≤ 65535) (fun k s hk hs => ?_) (fun s hs => ?_) ⟨rfl, fun i hi => by omega⟩
  · obtain ⟨rfl, hi⟩ := hs
    show (if (k : Int) < 8 then _ else _ : Comp _).wp _
    rw [Comp.wp_ite, if_pos (by omega)]
    refine ⟨by omega, ?_⟩
    rw [Comp.wp_ite, getFN hk]
    split
    · rename_i h
      show _ = _
      exact (decide_eq_false (fun hd => by have := hd ⟨k, hk⟩; omega)).symm
    · rename_i h
      rw [Comp.wp_ite]
      split
      · rename_i h2
        show _ = _
        exact (decide_eq_false (fun hd => by have := hd ⟨k, hk⟩; omega)).symm
      · rename_i h2
        exact ⟨wrapN (by omega), all_step hi hk (by omega)⟩
  · obtain ⟨rfl, hi⟩ := hs
    show (if ((8 : Nat) : Int) < 8 then _ else _ : Comp _).wp _
    rw [Comp.wp_ite, if_neg (by omega)]
    show _ = _
    exact (decide_eq_true (fun i => hi i i.isLt)).symm
theorem Support_ret (m : M) : (monomial_Support m).Ret (suppM m) := by
  show (Comp.loop _ _).wp _
  refine Comp.loop_idx 8 (fun k s => s = (suppTo m k, (k : Int))) (fun k s hk hs => ?_) (fun s hs => ?_) rfl
  · subst hs
    show (if (k : Int) < 8 then _ else _ : Comp _).wp _
    rw [Comp.wp_ite, if_pos (by omega)]
    refine ⟨by omega, ?_⟩
    rw [Comp.wp_ite, getFN hk]
    have hb := suppTo_lt m k
    split
    · rename_i h
      refine ⟨by omega, ?_⟩
      show _ = _
      rw [wrapN (by omega), p2_shift hk, or_p2 hk hb.1 hb.2, suppTo_yes m hk h]
    · rename_i h
      show _ = _
      rw [wrapN (by omega), suppTo_no m hk h]
  · subst hs
    show (if ((8 : Nat) : Int) < 8 then _ else _ : Comp _).wp _
    rw [Comp.wp_ite, if_neg (by omega)]
    rfl
theorem suppM_bd (m : M) : 0 ≤ suppM m ∧ suppM m < 256 := by
  have := suppTo_lt m 8
  have := p2_le (Nat.le_refl 8)
  unfold suppM
  omega
/-- The exponents are valid, and no variable beyond the first n occurs. -/
def okN (n : Int) (m : M) : Prop := Ok m ∧ Int.fdiv (suppM m) (2 ^ (min n.toNat 64)) = 0
instance decOkN (n : Int) (m : M) : Decidable (okN n m) := inferInstanceAs (Decidable (_ ∧ _))
def checkF (l : List M) (n : Int) : Int := if n < 0 then 1 else if 8 < n then 1 else if ∀ m ∈ l, okN n m then (if 8 < (l.length : Int) then 2 else 0) else 1
theorem check_ret {l : List M} (hl : Lb l) (n : Int) : (components_check l n).Ret (checkF l n) := by
  unfold Lb at hl
  unfold components_check checkF
  by_cases h0 : n < 0
  · rw [if_pos h0, if_pos h0]; rfl
  rw [if_neg h0, if_neg h0]
  by_cases h8 : 8 < n
  · rw [if_pos h8, if_pos h8]; rfl
  rw [if_neg h8, if_neg h8]
  show (Comp.loop _ _).wp _
  refine Comp.loop_idx l.length (fun k s => s = (k : Int) ∧ ∀ i (h : i < l.length), i < k → okN n l[i]) (fun k s hk hs => ?_) (fun s hs => ?_) ⟨rfl, fun i _ hi => by omega⟩
  · obtain ⟨rfl, hi⟩ := hs
    show (if (k : Int) < (l.length : Int) then _ else _ : Comp _).wp _
    rw [Comp.wp_ite, if_pos (by omega)]
    refine ⟨l[k], idxN hk, _, Valid_ret _, ?_⟩
    by_cases hv : Ok l[k]
    · rw [decide_eq_true hv]
      refine ⟨_, Support_ret _, by omega, ?_⟩
      rw [Comp.wp_ite]
      have hb := suppM_bd l[k]
      have e1 : IntKind.i64.wrap (suppM l[k]) = suppM l[k] := wrap64 (by omega)
      rw [e1]
      split
      · rename_i h
        show (1 : Int) = _
        rw [if_neg]
        exact fun h2 => h (h2 _ (List.getElem_mem hk)).2
      · rename_i h
        refine ⟨wrapN (by omega), fun i h1 h2 => ?_⟩
        by_cases e : i = k
        · subst e; exact ⟨hv, Classical.not_not.1 h⟩
        · exact hi i h1 (by omega)
    · rw [decide_eq_false hv]
      show (1 : Int) = _
      rw [if_neg]
      exact fun h2 => hv (h2 _ (List.getElem_mem hk)).1
  · obtain ⟨rfl, hi⟩ := hs
    show (if ((l.length : Nat) : Int) < (l.length : Int) then _ else _ : Comp _).wp _
    rw [Comp.wp_ite, if_neg (by omega)]
    have hall : ∀ m ∈ l, okN n m := fun m hm => by
      obtain ⟨i, h1, rfl⟩ := List.mem_iff_getElem.1 hm
      exact hi i h1 h1
    show (if 8 < (l.length : Int) then _ else _ : Comp _).wp _
    rw [Comp.wp_ite, if_pos hall]
    split <;> rfl
/-- The generators of an irreducible ideal. -/
def gensM (a : M) : List M := splitTo zeroM a 8
def partsStep (D : List (Int × List (List M))) (a : M) : List (Int × List (List M)) := mput D (suppM a) ((mget D (suppM a)).getD [] ++ [gensM a])
def partsF (l : List M) : List (Int × List (List M)) := (irrF l).foldl partsStep []
theorem gens_ret (x : M) : (components_parts_L4 x ([], 0)).Ret (gensM x) := by
  refine Comp.loop_idx 8 (fun k s => s = (splitTo zeroM x k, (k : Int))) (fun k s hk hs => ?_) (fun s hs => ?_) rfl
  · subst hs
    have hlen := splitTo_length zeroM x k
    show (if (k : Int) < 8 then _ else _ : Comp _).wp _
    rw [Comp.wp_ite, if_pos (by omega)]
    refine ⟨by omega, ?_⟩
    rw [Comp.wp_ite, getFN hk, wrapN (by omega)]
    split
    · rename_i hp
      refine ⟨by omega, by simp [small]; omega, ?_⟩
      show _ = _
      simp [splitTo, hk, hp]; rfl
    · rename_i hp
      show _ = _
      simp [splitTo, hk, hp]
  · subst hs
    show (if ((8 : Nat) : Int) < 8 then _ else _ : Comp _).wp _
    rw [Comp.wp_ite, if_neg (by omega)]
    rfl
theorem u8wf {x : Int} (h : 0 ≤ x ∧ x < 256) : (Lit.int IntKind.u8 x).wf = true := by
  simp [Lit.wf, IntKind.min, IntKind.max, IntKind.signed, IntKind.bits]
  omega
theorem mget_bound {D : List (Int × List (List M))} {n : Nat} (h : ∀ p ∈ D, p.2.length ≤ n) (k : Int) : ((mget D k).getD []).length ≤ n := by
  induction D with
  | nil => simp [mget]
  | cons p D ih =>
    simp only [mget]
    split
    · exact h p (by simp)
    · exact ih (fun q hq => h q (by simp [hq]))
theorem mput_bound {D : List (Int × List (List M))} {n : Nat} {k : Int} {x : List (List M)} (h : ∀ p ∈ D, p.2.length ≤ n) (hx : x.length ≤ n) : ∀ p ∈ mput D k x, p.2.length ≤ n := by
  induction D with
  | nil => intro p hp; simp only [mput, List.mem_singleton] at hp; subst hp; exact hx
  | cons q D ih =>
    intro p hp
    simp only [mput] at hp
    split at hp
    · rcases List.mem_cons.1 hp with rfl | hp
      · exact hx
      · exact h p (by simp [hp])
    · rcases List.mem_cons.1 hp with rfl | hp
      · exact h p (by simp)
      · exact ih (fun q hq => h q (by simp [hq])) p hp
theorem parts_ret {l : List M} (hl : Lb l) (h8 : (minimalM l).length ≤ 8) (hw : ∀ m ∈ l, Wf m) (hn : (irrF l).length ≤ 100000000) : (components_parts l).Ret (partsF l) := by
  refine ⟨_, irreducible_ret hl h8 hw, ?_⟩
  show (Comp.loop _ _).wp _
  refine Comp.loop_idx (irrF l).length (fun k s => ∃ D, s = ((k : Int), D) ∧ D = ((irrF l).take k).foldl partsStep [] ∧ D.length ≤ k ∧ ∀ p ∈ D, p.2.length ≤ k) (fun k s hk hs => ?_) (fun s hs => ?_) ⟨[], rfl, rfl, by simp, by simp⟩
  · obtain ⟨D, rfl, hD, hDl, hDp⟩ := hs
    show (if (k : Int) < ((irrF l).length : Int) then _ else _ : Comp _).wp _
    rw [Comp.wp_ite, if_pos (by omega)]
    refine ⟨(irrF l)[k], idxN hk, Comp.wp_next.2 ((gens_ret _).then ?_)⟩
    have hb := u8wf (suppM_bd (irrF l)[k])
    have hg := mget_bound hDp (suppM (irrF l)[k])
    have hl1 : ((mget D (suppM (irrF l)[k])).getD [] ++ [gensM (irrF l)[k]]).length ≤ k + 1 := by simp; omega
    have hl2 := mput_length D (suppM (irrF l)[k]) ((mget D (suppM (irrF l)[k])).getD [] ++ [gensM (irrF l)[k]])
    refine ⟨_, Support_ret _, hb, by simp only [small]; omega, ⟨hb, by simp only [small]; omega⟩, ?_⟩
    refine ⟨_, by rw [wrapN (by omega)], ?_, by omega, mput_bound (fun p hp => Nat.le_succ_of_le (hDp p hp)) hl1⟩
    rw [(List.take_append_getElem hk).symm, List.foldl_append, ← hD]; rfl
  · obtain ⟨D, rfl, hD, hDl, hDp⟩ := hs
    show (if (((irrF l).length : Nat) : Int) < ((irrF l).length : Int) then _ else _ : Comp _).wp _
    rw [Comp.wp_ite, if_neg (by omega)]
    rw [List.take_length] at hD
    exact hD
theorem Lcm_ret (a b : M) : (monomial_Lcm a b).Ret (maxM a b) := by
  show (Comp.loop _ _).wp _
  refine Comp.loop_idx 8 (fun k s => s = ((k : Int), mixM k (maxM a b) a)) (fun k s hk hs => ?_) (fun s hs => ?_) (by rw [mix_zero]; rfl)
  · subst hs
    show (if (k : Int) < 8 then _ else _ : Comp _).wp _
    rw [Comp.wp_ite, if_pos (by omega)]
    refine ⟨by omega, by omega, by omega, ?_⟩
    show _ = _
    rw [wrapN (by omega), getFN hk, getFN hk, mix_at _ _ hk]
    have : (if a ⟨k, hk⟩ < b ⟨k, hk⟩ then b ⟨k, hk⟩ else a ⟨k, hk⟩) = maxM a b ⟨k, hk⟩ := rfl
    rw [this, show ((k : Int)).toNat = k by omega, mix_step _ _ hk]
  · subst hs
    show (if ((8 : Nat) : Int) < 8 then _ else _ : Comp _).wp _
    rw [Comp.wp_ite, if_neg (by omega), mix_all _ _ (by omega)]
    rfl
def meetStep (R m : List M) : List M := minimalM (R.flatMap fun a => m.map (maxM a))
def meetF : List (List M) → List M
  | [] => []
  | x :: ms => ms.foldl meetStep (minimalM x)
theorem meet_L6 {m : List M} (a : M) {A : List M} (hb : A.length + m.length ≤ 1000000000) : (components_meet_L6 m a (A, 0)).Ret (A ++ m.map (maxM a)) := by
  refine Comp.loop_idx m.length (fun k s => s = (A ++ (m.take k).map (maxM a), (k : Int))) (fun k s hk hs => ?_) (fun s hs => ?_) (by simp)
  · subst hs
    show (if (k : Int) < (m.length : Int) then _ else _ : Comp _).wp _
    rw [Comp.wp_ite, if_pos (by omega)]
    refine ⟨m[k], idxN hk, _, Lcm_ret _ _, by simp [small]; omega, ?_⟩
    show _ = _
    rw [wrapN (by omega), (List.take_append_getElem hk).symm, List.map_append, ← List.append_assoc]
    rfl
  · subst hs
    show (if ((m.length : Nat) : Int) < (m.length : Int) then _ else _ : Comp _).wp _
    rw [Comp.wp_ite, if_neg (by omega), List.take_length]
    rfl
theorem meet_L4 {R m : List M} (hb : R.length * m.length ≤ 1000000000) (hR : Lb R) (hm : Lb m) : (components_meet_L4 R m ([], 0)).Ret (R.flatMap fun a => m.map (maxM a)) := by
  unfold Lb at hR hm
  refine Comp.loop_idx R.length (fun k s => s = ((R.take k).flatMap (fun a => m.map (maxM a)), (k : Int))) (fun k s hk hs => ?_) (fun s hs => ?_) rfl
  · subst hs
    show (if (k : Int) < (R.length : Int) then _ else _ : Comp _).wp _
    rw [Comp.wp_ite, if_pos (by omega)]
    have h1 := flatMap_len (fun a => m.map (maxM a)) m.length (R.take k) (fun e _ => by simp)
    have h2 : (k + 1) * m.length ≤ R.length * m.length := Nat.mul_le_mul_right _ hk
    rw [List.length_take, Nat.min_eq_left (by omega)] at h1
    rw [Nat.add_mul] at h2
    refine ⟨R[k], idxN hk, Comp.wp_next.2 ((meet_L6 _ (by omega)).then ?_)⟩
    show _ = _
    rw [wrapN (by omega), (List.take_append_getElem hk).symm, List.flatMap_append]
    simp
  · subst hs
    show (if ((R.length : Nat) : Int) < (R.length : Int) then _ else _ : Comp _).wp _
    rw [Comp.wp_ite, if_neg (by omega), List.take_length]
    rfl
/-- The intersections that are met on the way stay within the bounds. -/
def MeetOk (x : List M) (ms : List (List M)) : Prop := Lb x ∧ ms.length ≤ 1000000 ∧ ∀ k (h : k < ms.length), Lb ms[k] ∧ ((ms.take k).foldl meetStep (minimalM x)).length * ms[k].length ≤ 1000000000
theorem meet_ret {x : List M} {ms : List (List M)} (h : MeetOk x ms) : (components_meet (x :: ms)).Ret (meetF (x :: ms)) := by
  obtain ⟨hx, hn, hk⟩ := h
  refine ⟨x, ⟨by omega, rfl⟩, _, monomial_Minimal_ret hx, ⟨by omega, by simp only [List.length_cons]; omega, by simp⟩, ?_⟩
  have ht : (((x :: ms).take (((x :: ms).length : Nat) : Int).toNat).drop (1 : Int).toNat) = ms := by simp
  show (Comp.loop _ _).wp _
  rw [ht]
  have hb : ∀ k, k ≤ ms.length → Lb ((ms.take k).foldl meetStep (minimalM x)) := fun k hk' => by
    cases k with
    | zero => have := minimalM_length x; unfold Lb at *; simp; omega
    | succ k =>
      have hk1 : k < ms.length := by omega
      rw [(List.take_append_getElem hk1).symm, List.foldl_append]
      have h1 := flatMap_len (fun a => ms[k].map (maxM a)) ms[k].length ((ms.take k).foldl meetStep (minimalM x)) (fun e _ => by simp)
      have h2 := minimalM_length (((ms.take k).foldl meetStep (minimalM x)).flatMap fun a => ms[k].map (maxM a))
      have h3 := (hk k hk1).2
      unfold Lb
      simp only [List.foldl_cons, List.foldl_nil, meetStep]
      omega
  refine Comp.loop_idx ms.length (fun k s => s = ((ms.take k).foldl meetStep (minimalM x), (k : Int))) (fun k s hk' hs => ?_) (fun s hs => ?_) rfl
  · subst hs
    show (if (k : Int) < (ms.length : Int) then _ else _ : Comp _).wp _
    rw [Comp.wp_ite, if_pos (by omega)]
    have h1 := flatMap_len (fun a => ms[k].map (maxM a)) ms[k].length ((ms.take k).foldl meetStep (minimalM x)) (fun e _ => by simp)
    refine ⟨ms[k], idxN hk', Comp.wp_next.2 ((meet_L4 (hk k hk').2 (hb k (by omega)) (hk k hk').1).then ?_)⟩
    refine ⟨_, monomial_Minimal_ret (by have := (hk k hk').2; unfold Lb; omega), ?_⟩
    show _ = _
    rw [wrapN (by omega), (List.take_append_getElem hk').symm, List.foldl_append]
    rfl
  · subst hs
    show (if ((ms.length : Nat) : Int) < (ms.length : Int) then _ else _ : Comp _).wp _
    rw [Comp.wp_ite, if_neg (by omega), List.take_length]
    rfl
def radM (m : M) : M := fun i => if 1 < m i then 1 else m i
def radF (l : List M) : List M := minimalM (l.map radM)
theorem Radical_L4 (x : M) : (components_Radical_L4 (0, x)).Ret (radM x) := by
  refine Comp.loop_idx 8 (fun k s => s = ((k : Int), mixM k (radM x) x)) (fun k s hk hs => ?_) (fun s hs => ?_) (by rw [mix_zero]; rfl)
  · subst hs
    show (if (k : Int) < 8 then _ else _ : Comp _).wp _
    rw [Comp.wp_ite, if_pos (by omega)]
    refine ⟨by omega, by omega, ?_⟩
    show _ = _
    rw [wrapN (by omega), getFN hk, mix_at _ _ hk]
    have : (if 1 < x ⟨k, hk⟩ then 1 else x ⟨k, hk⟩) = radM x ⟨k, hk⟩ := rfl
    rw [this, show ((k : Int)).toNat = k by omega, mix_step _ _ hk]
  · subst hs
    show (if ((8 : Nat) : Int) < 8 then _ else _ : Comp _).wp _
    rw [Comp.wp_ite, if_neg (by omega), mix_all _ _ (by omega)]
    rfl
theorem Radical_ret {l : List M} (hl : Lb l) : (components_Radical l).Ret (radF l) := by
  have hl' := hl
  unfold Lb at hl
  show (Comp.loop _ _).wp _
  refine Comp.loop_idx l.length (fun k s => s = ((l.take k).map radM, (k : Int))) (fun k s hk hs => ?_) (fun s hs => ?_) rfl
  · subst hs
    show (if (k : Int) < (l.length : Int) then _ else _ : Comp _).wp _
    rw [Comp.wp_ite, if_pos (by omega)]
    refine ⟨l[k], idxN hk, Comp.wp_next.2 ((Radical_L4 _).then ⟨by simp [small]; omega, ?_⟩)⟩
    show _ = _
    rw [wrapN (by omega), (List.take_append_getElem hk).symm, List.map_append]
    rfl
  · subst hs
    show (if ((l.length : Nat) : Int) < (l.length : Int) then _ else _ : Comp _).wp _
    rw [Comp.wp_ite, if_neg (by omega), List.take_length]
    exact ⟨_, monomial_Minimal_ret (by unfold Lb; simpa using hl), rfl⟩
def meet2 (l m : List M) : List M := meetF [l, m]
theorem Meet_ret {l m : List M} (hl : Lb l) (hm : Lb m) (hb : l.length * m.length ≤ 1000000000) : (components_Meet l m).Ret (meet2 l m) := by
  refine ⟨_, meet_ret ⟨hl, by simp, fun k hk => ?_⟩, rfl⟩
  have : k = 0 := by simp at hk; omega
  subst this
  refine ⟨hm, ?_⟩
  have h1 := minimalM_length l
  exact Nat.le_trans (Nat.mul_le_mul_right _ h1) hb
theorem Same_ret {a b : List M} (ha : Lb a) : (R04_Same a b).Ret (decide (a = b)) := by
  unfold Lb at ha
  unfold R04_Same
  by_cases hl : a.length = b.length
  · rw [if_neg (by omega)]
    show (Comp.loop _ _).wp _
    refine Comp.loop_idx a.length (fun k s => s = (k : Int) ∧ ∀ i (h1 : i < a.length) (h2 : i < b.length), i < k → a[i] = b[i]) (fun k s hk hs => ?_) (fun s hs => ?_) ⟨rfl, fun i _ _ hi => by omega⟩
    · obtain ⟨rfl, hi⟩ := hs
      show (if (k : Int) < (a.length : Int) then _ else _ : Comp _).wp _
      rw [Comp.wp_ite, if_pos (by omega)]
      have hk2 : k < b.length := by omega
      refine ⟨a[k], idxN hk, b[k], idxN hk2, ?_⟩
      rw [Comp.wp_ite]
      split
      · rename_i h
        show _ = _
        exact (decide_eq_false (fun e => h (by subst e; rfl))).symm
      · rename_i h
        refine ⟨wrapN (by omega), fun i h1 h2 h3 => ?_⟩
        by_cases e : i = k
        · subst e; exact Classical.not_not.1 h
        · exact hi i h1 h2 (by omega)
    · obtain ⟨rfl, hi⟩ := hs
      show (if ((a.length : Nat) : Int) < (a.length : Int) then _ else _ : Comp _).wp _
      rw [Comp.wp_ite, if_neg (by omega)]
      show _ = _
      exact (decide_eq_true (List.ext_getElem hl (fun i h1 h2 => hi i h1 h2 h1))).symm
  · rw [if_pos (by omega)]
    show _ = _
    exact (decide_eq_false (fun e => hl (by rw [e]))).symm
end Go.EL
