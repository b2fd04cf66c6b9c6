/- The law ComponentsDimensions on the models. The conditions stand in each statement. -/
import Derived.Test.YtbdknlblnfnkkaaPG
namespace Go.EL
open Go
/-- The greatest of the elements from a number on. -/
def maxI (d : Int) (xs : List Int) : Int := xs.foldl (fun d x => if d < x then x else d) d
theorem maxI_snoc (d : Int) (T : List Int) (a : Int) : maxI d (T ++ [a]) = if maxI d T < a then a else maxI d T := by unfold maxI; rw [List.foldl_append]; rfl
theorem maxI_spec (d : Int) : ∀ xs : List Int, d ≤ maxI d xs ∧ (∀ x ∈ xs, x ≤ maxI d xs) ∧ (maxI d xs = d ∨ maxI d xs ∈ xs) := snoc_ind ⟨Int.le_refl _, by simp, .inl rfl⟩ fun T a ih => by
  obtain ⟨h1, h2, h3⟩ := ih
  rw [maxI_snoc]
  split
  · rename_i h
    refine ⟨by omega, fun x hx => ?_, .inr (by simp)⟩
    rcases List.mem_append.1 hx with hx | hx
    · have := h2 x hx; omega
    · simp at hx; omega
  · rename_i h
    refine ⟨h1, fun x hx => ?_, h3.imp id fun h => by simp [h]⟩
    rcases List.mem_append.1 hx with hx | hx
    · exact h2 x hx
    · simp at hx; omega
def minI (d : Int) (xs : List Int) : Int := xs.foldl (fun d x => if x < d then x else d) d
theorem minI_snoc (d : Int) (T : List Int) (a : Int) : minI d (T ++ [a]) = if a < minI d T then a else minI d T := by unfold minI; rw [List.foldl_append]; rfl
theorem minI_spec (d : Int) : ∀ xs : List Int, minI d xs ≤ d ∧ (∀ x ∈ xs, minI d xs ≤ x) ∧ (minI d xs = d ∨ minI d xs ∈ xs) := snoc_ind ⟨Int.le_refl _, by simp, .inl rfl⟩ fun T a ih => by
  obtain ⟨h1, h2, h3⟩ := ih
  rw [minI_snoc]
  split
  · rename_i h
    refine ⟨by omega, fun x hx => ?_, .inr (by simp)⟩
    rcases List.mem_append.1 hx with hx | hx
    · have := h2 x hx; omega
    · simp at hx; omega
  · rename_i h
    refine ⟨h1, fun x hx => ?_, h3.imp id fun h => by simp [h]⟩
    rcases List.mem_append.1 hx with hx | hx
    · exact h2 x hx
    · simp at hx; omega
theorem Max_ret {x : Int} {xs : List Int} (hl : xs.length ≤ 1000) : (slices_Max_int_int (x :: xs)).Ret (maxI x xs) := by
  show (if ((x :: xs).length : Int) < 1 then _ else _ : Comp _).wp _
  rw [Comp.wp_ite, if_neg (by rw [List.length_cons]; omega)]
  refine ⟨x, ⟨by omega, rfl⟩, Comp.wp_next.2 ?_⟩
  refine Comp.loop_idx xs.length (fun k s => s = (maxI x (xs.take k), ((k + 1 : Nat) : Int))) (fun k s hk hs => ?_) (fun s hs => ?_) rfl
  · subst hs
    show (if ((k + 1 : Nat) : Int) < ((x :: xs).length : Int) then _ else _ : Comp _).wp _
    rw [Comp.wp_ite, if_pos (by rw [List.length_cons]; omega)]
    refine ⟨xs[k], ⟨by omega, ?_⟩, ?_⟩
    · rw [show (((k + 1 : Nat) : Int)).toNat = k + 1 by omega, List.getElem?_cons_succ, List.getElem?_eq_getElem hk]
    · show _ = _
      rw [wrapN (by omega), (List.take_append_getElem hk).symm, maxI_snoc]
  · subst hs
    show (if ((xs.length + 1 : Nat) : Int) < ((x :: xs).length : Int) then _ else _ : Comp _).wp _
    rw [Comp.wp_ite, if_neg (by rw [List.length_cons]; omega), List.take_length]
    rfl
theorem Max_vec {m : M} (h : ∀ i, m i ≤ 64) : ∃ r, (slices_Max_int_int (List.ofFn m)).Ret r ∧ r ≤ 64 := by
  have he : List.ofFn m = m 0 :: [m 1, m 2, m 3, m 4, m 5, m 6, m 7] := by simp [List.ofFn_succ]
  rw [he]
  refine ⟨_, Max_ret (by simp), ?_⟩
  obtain ⟨_, _, h3⟩ := maxI_spec (m 0) [m 1, m 2, m 3, m 4, m 5, m 6, m 7]
  rcases h3 with h3 | h3
  · rw [h3]; exact h 0
  · simp only [List.mem_cons, List.not_mem_nil, or_false] at h3
    rcases h3 with h3 | h3 | h3 | h3 | h3 | h3 | h3 <;> (rw [h3]; exact h _)
def insideC (m : M) (s : Int) : Bool := decide (IntKind.u8.wrap (BitVec.ofInt IntKind.u8.bits (suppM m) &&& ~~~ BitVec.ofInt IntKind.u8.bits (IntKind.u8.wrap s)).toNat = 0)
theorem insideC_ret (m : M) (s : Int) : (hilbert_independent_c1 m s).Ret (insideC m s) := ⟨_, Support_ret m, rfl⟩
theorem contH_ret {ps : List M} (hl : ps.length ≤ 1000000) (p : Int) : (slices_ContainsFunc_api_Mono_api_Mono_hilbert_independent_c1 ps p).Ret (ps.any fun q => insideC q p) := by
  let f := ps.findIdx (fun q => insideC q p)
  have hf : ∀ i (h : i < ps.length), i < f → insideC ps[i] p = false := fun i h hi => by
    have := List.not_of_lt_findIdx (p := fun q => insideC q p) (xs := ps) hi
    simpa using this
  have hfl : f ≤ ps.length := List.findIdx_le_length
  refine ⟨if f < ps.length then (f : Int) else -1, ?_, ?_⟩
  · show (Comp.loop _ _).wp _
    refine Comp.loop_idx ps.length (fun k s => s = (k : Int) ∧ k ≤ f) (fun k s hk hs => ?_) (fun s hs => ?_) ⟨rfl, Nat.zero_le _⟩
    · obtain ⟨rfl, hi⟩ := hs
      show (if (k : Int) < (ps.length : Int) then _ else _ : Comp _).wp _
      rw [Comp.wp_ite, if_pos (by omega)]
      refine ⟨ps[k], idxN hk, _, insideC_ret _ _, ?_⟩
      rw [Comp.wp_ite]
      split
      · rename_i h
        show (k : Int) = _
        have : f = k := by
          rcases Nat.lt_or_ge k f with h1 | h1
          · rw [hf k hk h1] at h; cases h
          · omega
        rw [this, if_pos hk]
      · rename_i h
        refine ⟨wrapN (by omega), ?_⟩
        rcases Nat.lt_or_ge k f with h1 | h1
        · exact h1
        · have e : f = k := by omega
          have := List.findIdx_getElem (p := fun q => insideC q p) (xs := ps) (w := by show f < ps.length; omega)
          exact absurd (by simpa [show ps.findIdx (fun q => insideC q p) = k from e] using this) h
    · obtain ⟨rfl, hi⟩ := hs
      show (if ((ps.length : Nat) : Int) < (ps.length : Int) then _ else _ : Comp _).wp _
      rw [Comp.wp_ite, if_neg (by omega)]
      show (-1 : Int) = _
      rw [if_neg (by omega)]
  · show decide (0 ≤ (if f < ps.length then (f : Int) else -1)) = _
    by_cases h : f < ps.length
    · rw [if_pos h, decide_eq_true (by omega)]
      have := List.findIdx_getElem (p := fun q => insideC q p) (xs := ps) (w := h)
      exact (List.any_eq_true.2 ⟨_, List.getElem_mem h, this⟩).symm
    · rw [if_neg h, decide_eq_false (by omega)]
      refine (Bool.eq_false_iff.2 fun h2 => ?_).symm
      obtain ⟨q, hq, hq2⟩ := List.any_eq_true.1 h2
      obtain ⟨i, hi1, rfl⟩ := List.mem_iff_getElem.1 hq
      rw [hf i hi1 (by omega)] at hq2; cases hq2
theorem inside_fin : ∀ q s : Fin 16, (IntKind.u8.wrap (BitVec.ofInt IntKind.u8.bits (q.val : Int) &&& ~~~ BitVec.ofInt IntKind.u8.bits (IntKind.u8.wrap (s.val : Int))).toNat = 0 ↔ ∀ i : Fin 8, primeM (q.val : Int) i ≤ primeM (s.val : Int) i) := by decide +kernel
theorem inside_iff {m : M} (hm : Sm m) {s : Int} (hs : 0 ≤ s ∧ s < 16) : insideC m s = true ↔ ∀ i, 0 < m i → 0 < primeM s i := by
  unfold insideC
  rw [decide_eq_true_eq]
  have h1 := prime_supp hm
  obtain ⟨q, hq⟩ := fin16 (supp_bd hm)
  obtain ⟨s, rfl⟩ := fin16 hs
  rw [← hq] at h1
  rw [← hq, inside_fin, h1]
  refine forall_congr' fun i => ?_
  have h2 := prime_one (s.val : Int) i
  unfold indM
  split
  · rename_i h; exact ⟨fun _ _ => by omega, fun h' => by have := h' h; omega⟩
  · rename_i h; exact ⟨fun _ h' => absurd h' h, fun _ => by omega⟩
/-- The independent sets below a number. -/
def indTo (l : List M) : Nat → List Int
  | 0 => []
  | k + 1 => indTo l k ++ (if (l.any fun q => insideC q (k : Int)) = true then [] else [(k : Int)])
theorem indTo_len (l : List M) : ∀ k, (indTo l k).length ≤ k
  | 0 => by simp [indTo]
  | k + 1 => by
    have := indTo_len l k
    simp only [indTo, List.length_append]
    split <;> simp <;> omega
theorem indTo_mem {l : List M} {s : Int} : ∀ {k : Nat}, s ∈ indTo l k ↔ (0 ≤ s ∧ s < (k : Int)) ∧ (l.any fun q => insideC q s) = false
  | 0 => by simp [indTo]; omega
  | k + 1 => by
    rw [indTo, List.mem_append, indTo_mem (k := k)]
    constructor
    · rintro (⟨h1, h2⟩ | h)
      · exact ⟨by omega, h2⟩
      · split at h
        · simp at h
        · rename_i hc
          simp at h
          subst h
          exact ⟨by omega, by simpa using hc⟩
    · rintro ⟨h1, h2⟩
      by_cases e : s = (k : Int)
      · subst e
        right
        rw [h2]; simp
      · exact .inl ⟨by omega, h2⟩
theorem ind_ret {l : List M} {n : Nat} (hn : n ≤ 4) (hl : l.length ≤ 1000) : (hilbert_independent l (n : Int)).Ret (indTo l (2 ^ n)) := by
  have h2 : (2 : Nat) ^ n ≤ 16 := Nat.le_trans (Nat.pow_le_pow_right (by decide) hn) (by decide)
  have hw : IntKind.i64.wrap (1 * 2 ^ (min (n : Int).toNat IntKind.i64.bits)) = ((2 ^ n : Nat) : Int) := by
    match n, hn with
    | 0, _ => decide | 1, _ => decide | 2, _ => decide | 3, _ => decide | 4, _ => decide
  refine ⟨by omega, ?_⟩
  refine Comp.loop_idx (2 ^ n) (fun k s => s = (indTo l k, (k : Int))) (fun k s hk hs => ?_) (fun s hs => ?_) rfl
  · subst hs
    show (if (k : Int) < IntKind.i64.wrap _ then _ else _ : Comp _).wp _
    have hlen := indTo_len l k
    rw [hw, Comp.wp_ite, if_pos (by omega)]
    refine ⟨_, contH_ret (by omega) _, ?_⟩
    rw [Comp.wp_ite]
    have hw8 : IntKind.u8.wrap (k : Int) = (k : Int) := by
      simp only [IntKind.wrap, IntKind.bits, IntKind.signed, Bool.false_and, Bool.false_eq_true, if_false]
      omega
    split
    · rename_i hc
      refine ⟨by simp [small]; omega, ?_⟩
      show _ = _
      rw [hw8, wrapN (by omega), indTo, if_neg (by simpa using hc)]
    · rename_i hc
      show _ = _
      rw [wrapN (by omega), indTo, if_pos (by simpa using hc), List.append_nil]
  · subst hs
    show (if ((2 ^ n : Nat) : Int) < IntKind.i64.wrap _ then _ else _ : Comp _).wp _
    rw [hw, Comp.wp_ite, if_neg (by omega)]
    rfl
theorem count_fin : ∀ s : Fin 16, ((math_bits_OnesCount8 (s.val : Int)).ev 20) = some (onesI (s.val : Int)) := by decide +kernel
theorem Count_ret {s : Int} (hs : 0 ≤ s ∧ s < 16) : (math_bits_OnesCount8 s).Ret (onesI s) := by
  obtain ⟨s, rfl⟩ := fin16 hs
  exact Comp.Ret.of_ev 20 (count_fin s)
def dimF (l : List M) (n : Nat) : Int := maxI (-1) ((indTo l (2 ^ n)).map onesI)
theorem dim_ret {l : List M} {n : Nat} (hn : n ≤ 4) (hl : l.length ≤ 1000) : (hilbert_dimension l (n : Int)).Ret (dimF l n) := by
  have h2 : (2 : Nat) ^ n ≤ 16 := Nat.le_trans (Nat.pow_le_pow_right (by decide) hn) (by decide)
  refine ⟨_, ind_ret hn hl, ?_⟩
  have hlen := indTo_len l (2 ^ n)
  have hm : ∀ s ∈ indTo l (2 ^ n), 0 ≤ s ∧ s < 16 := fun s hs => by
    have := (indTo_mem.1 hs).1
    omega
  unfold dimF
  revert hlen hm
  generalize indTo l (2 ^ n) = I
  intro hlen hm
  refine Comp.wp_next.2 (Comp.loop_idx I.length (fun k s => s = (maxI (-1) ((I.take k).map onesI), (k : Int))) (fun k s hk hs => ?_) (fun s hs => ?_) rfl)
  · subst hs
    show (if (k : Int) < (I.length : Int) then _ else _ : Comp _).wp _
    rw [Comp.wp_ite, if_pos (by omega)]
    refine ⟨I[k], idxN hk, _, Count_ret (hm _ (List.getElem_mem hk)), ?_⟩
    show _ = _
    rw [wrapN (by omega), (List.take_append_getElem hk).symm, List.map_append, List.map_cons, List.map_nil, maxI_snoc]
  · subst hs
    show (if ((I.length : Nat) : Int) < (I.length : Int) then _ else _ : Comp _).wp _
    rw [Comp.wp_ite, if_neg (by omega), List.take_length]
    rfl
theorem comp_fin : ∀ n : Fin 5, ∀ p : Fin 16, p.val < 2 ^ n.val → onesI ((2 ^ n.val - 1 - p.val : Nat) : Int) = (n.val : Int) - onesI (p.val : Int) ∧ ∀ i : Fin 8, 0 < primeM ((2 ^ n.val - 1 - p.val : Nat) : Int) i → primeM (p.val : Int) i = 0 := by decide +kernel
theorem apart_fin : ∀ n : Fin 5, ∀ p : Fin 16, p.val < 2 ^ n.val → ∀ s : Fin 16, s.val < 2 ^ n.val → (∀ i : Fin 8, primeM (p.val : Int) i = 0 ∨ primeM (s.val : Int) i = 0) → onesI (p.val : Int) + onesI (s.val : Int) ≤ (n.val : Int) := by decide +kernel
namespace Inp
variable {l : List M} {n : Nat} (h : Inp l n)
include h
theorem pbd2 {p : Int} (hp : p ∈ primesF l) : 0 ≤ p ∧ p < ((2 ^ n : Nat) : Int) := by
  obtain ⟨a, ha, rfl⟩ := primes_mem.1 hp
  have hv := irrF_ind (Q := fun i x => n ≤ i.val → x = 0) (fun _ _ => rfl) (fun g hg i hi => h.vars g hg i hi) a ha
  have hf := h.few
  have h1 := suppTo_lt a n
  have h2 : suppM a = suppTo a n := supp_zero (fun j hj => hv j hj) 8 (by omega)
  rw [h2, ← p2_nat]
  exact h1
/-- Beside a prime, the other variables are independent. -/
theorem ind_of_prime {p : Int} (hp : p ∈ primesF l) : (n : Int) - onesI p ∈ (indTo l (2 ^ n)).map onesI := by
  have hb := h.pbd2 hp
  have hb16 := h.pbd hp
  have hf := h.few
  obtain ⟨q, rfl⟩ := fin16 hb16
  obtain ⟨e1, e2⟩ := comp_fin ⟨n, by omega⟩ q (by show q.val < 2 ^ n; omega)
  dsimp only at e1 e2
  refine List.mem_map.2 ⟨((2 ^ n - 1 - q.val : Nat) : Int), indTo_mem.2 ⟨by omega, ?_⟩, e1⟩
  have h2 : (2 : Nat) ^ n ≤ 16 := Nat.le_trans (Nat.pow_le_pow_right (by decide) hf) (by decide)
  refine Bool.eq_false_iff.2 fun hany => ?_
  obtain ⟨g, hg, hin⟩ := List.any_eq_true.1 hany
  obtain ⟨a, ha, hq⟩ := primes_mem.1 hp
  have hin := (inside_iff (h.sm g hg) (by omega)).1 hin
  obtain ⟨i, i1, i2⟩ := (h.ok.mem g (h.nn g hg)).2 ⟨g, hg, dvd_refl g⟩ a ha
  have h3 := e2 i (hin i (by omega))
  have h4 := congrFun (prime_supp (h.irrSm a ha)) i
  rw [hq] at h4
  unfold indM at h4
  rw [if_pos i1] at h4
  omega
/-- Beside an independent set there is a prime. -/
theorem prime_of_ind {s : Int} (hs : s ∈ indTo l (2 ^ n)) : ∃ p ∈ primesF l, onesI p + onesI s ≤ (n : Int) := by
  obtain ⟨hb, hany⟩ := indTo_mem.1 hs
  have hf := h.few
  have h2 : (2 : Nat) ^ n ≤ 16 := Nat.le_trans (Nat.pow_le_pow_right (by decide) hf) (by decide)
  have ht : Nn (fun i => 3 * primeM s i) := fun i => by have := prime_one s i; show 0 ≤ 3 * primeM s i; omega
  have hno : ¬ ∃ g ∈ l, dvdM g (fun i => 3 * primeM s i) := by
    rintro ⟨g, hg, hd⟩
    have : (l.any fun q => insideC q s) = true := List.any_eq_true.2 ⟨g, hg, (inside_iff (h.sm g hg) (by omega)).2 fun i hi => by
      have h3 : g i ≤ 3 * primeM s i := hd i
      have := prime_one s i
      omega⟩
    rw [hany] at this
    cases this
  have hnot : ¬ ∀ a ∈ irrF l, irrIn a (fun i => 3 * primeM s i) := fun hall => hno ((h.ok.mem _ ht).1 hall)
  obtain ⟨a, hna⟩ := Classical.not_forall.1 hnot
  obtain ⟨ha, hni⟩ := Classical.not_imp.1 hna
  have hp : suppM a ∈ primesF l := primes_mem.2 ⟨a, ha, rfl⟩
  refine ⟨suppM a, hp, ?_⟩
  have hpb := h.pbd2 hp
  have hap : ∀ i : Fin 8, primeM (suppM a) i = 0 ∨ primeM s i = 0 := fun i => by
    rw [prime_supp (h.irrSm a ha)]
    unfold indM
    split
    · rename_i hi
      right
      have h3 := prime_one s i
      have h4 := (h.irrSm a ha i).2.1
      rcases Int.lt_or_le 0 (primeM s i) with h5 | h5
      · exact absurd ⟨i, hi, by show a i ≤ 3 * primeM s i; omega⟩ hni
      · omega
    · exact .inl rfl
  obtain ⟨q, hq⟩ := fin16 (p := suppM a) (by omega)
  obtain ⟨s', hs'⟩ := fin16 (p := s) (by omega)
  rw [← hq, ← hs'] at hap ⊢
  rw [← hq] at hpb
  rw [← hs'] at hb
  exact apart_fin ⟨n, by omega⟩ q (by show q.val < 2 ^ n; omega) s' (by show s'.val < 2 ^ n; omega) hap
theorem dim_eq : dimF l n = (n : Int) - minI ((n : Int) + 1) ((primesF l).map onesI) := by
  obtain ⟨a1, a2, a3⟩ := maxI_spec (-1) ((indTo l (2 ^ n)).map onesI)
  obtain ⟨b1, b2, b3⟩ := minI_spec ((n : Int) + 1) ((primesF l).map onesI)
  unfold dimF
  have u1 : (n : Int) - minI ((n : Int) + 1) ((primesF l).map onesI) ≤ maxI (-1) ((indTo l (2 ^ n)).map onesI) := by
    rcases b3 with b3 | b3
    · omega
    · obtain ⟨p, hp, e⟩ := List.mem_map.1 b3
      have := a2 _ (h.ind_of_prime hp)
      omega
  have u2 : maxI (-1) ((indTo l (2 ^ n)).map onesI) ≤ (n : Int) - minI ((n : Int) + 1) ((primesF l).map onesI) := by
    rcases a3 with a3 | a3
    · omega
    · obtain ⟨s, hs, e⟩ := List.mem_map.1 a3
      obtain ⟨p, hp, hle⟩ := h.prime_of_ind hs
      have := b2 _ (List.mem_map.2 ⟨p, hp, rfl⟩)
      omega
  omega
theorem okAllD : ∀ m ∈ l, okN (n : Int) m := by
  have hc := h.check
  have := h.few
  unfold checkF at hc
  rw [if_neg (by omega), if_neg (by omega)] at hc
  apply Classical.byContradiction
  intro hno
  rw [if_neg hno] at hc
  exact absurd hc (by decide)
theorem hcheck : (hilbert_check l (n : Int)).Ret 0 := by
  have hf := h.few
  have hl := h.len
  show (if (n : Int) < 0 then _ else _ : Comp _).wp _
  rw [Comp.wp_ite, if_neg (by omega), Comp.wp_ite, if_neg (by omega)]
  refine Comp.wp_next.2 (Comp.loop_idx l.length (fun k s => s = (k : Int)) (fun k s hk hs => ?_) (fun s hs => ?_) rfl)
  · subst hs
    show (if (k : Int) < (l.length : Int) then _ else _ : Comp _).wp _
    rw [Comp.wp_ite, if_pos (by omega)]
    obtain ⟨o1, o2⟩ := h.okAllD l[k] (List.getElem_mem hk)
    have hv := Valid_ret l[k]
    rw [decide_eq_true o1] at hv
    refine ⟨l[k], idxN hk, true, hv, _, Support_ret _, by omega, ?_⟩
    have hb := suppM_bd l[k]
    rw [wrap64 (x := suppM l[k]) (by omega), Comp.wp_ite]
    have o3 : Int.fdiv (suppM l[k]) (2 ^ (min (n : Int).toNat IntKind.i64.bits)) = 0 := o2
    rw [o3, if_neg (by simp)]
    exact wrapN (by omega)
  · subst hs
    show (if ((l.length : Nat) : Int) < (l.length : Int) then _ else _ : Comp _).wp _
    rw [Comp.wp_ite, if_neg (by omega)]
    show (if 12 < (l.length : Int) then _ else _ : Comp _).wp _
    rw [Comp.wp_ite, if_neg (by omega)]
    refine Comp.wp_next.2 (Comp.loop_idx l.length (fun k s => s = (k : Int)) (fun k s hk hs => ?_) (fun s hs => ?_) rfl)
    · subst hs
      show (if (k : Int) < (l.length : Int) then _ else _ : Comp _).wp _
      rw [Comp.wp_ite, if_pos (by omega)]
      obtain ⟨r, hr, hr64⟩ := Max_vec (m := l[k]) fun i => by have := h.sm l[k] (List.getElem_mem hk) i; unfold Qs at this; omega
      refine ⟨l[k], idxN hk, r, hr, ?_⟩
      rw [Comp.wp_ite, if_neg (by omega)]
      exact wrapN (by omega)
    · subst hs
      show (if ((l.length : Nat) : Int) < (l.length : Int) then _ else _ : Comp _).wp _
      rw [Comp.wp_ite, if_neg (by omega)]
      rfl
theorem hdim : (hilbert_Dimension l (n : Int)).Ret (dimF l n, 0) := by
  refine ⟨0, h.hcheck, ?_⟩
  rw [Comp.wp_ite, if_neg (by simp)]
  exact ⟨_, dim_ret h.few (by have := h.len; omega), rfl⟩
end Inp
theorem dim_law_ret {x : T_law21_Input} (hn : 0 ≤ x.n ∧ x.n ≤ 255) (hx : U8s x.l) : (law21_ComponentsDimensions x).Ret true := by
  have hv := (vars_eq hn).2
  have hi : Inp (madeF x.l (varsF x) 4 3) (varsF x) := inp_made hx hv (by omega)
  have made := made_ret hn hx
  have vars := vars_ret hn
  revert hi made vars
  generalize madeF x.l (varsF x) 4 3 = l
  generalize varsF x = n at *
  intro hi made vars
  have hpl := hi.plen
  refine ⟨true, sanity_ret, ?_⟩
  rw [Comp.wp_ite, if_neg (by simp)]
  refine ⟨_, made, _, vars, _, hi.primes, _, hi.hdim, ?_⟩
  rw [Comp.wp_ite, if_neg (by simp), Comp.wp_ite, if_neg (by simp)]
  have e1 : IntKind.i64.wrap ((n : Int) + 1) = (n : Int) + 1 := wrap64 (by omega)
  refine Comp.wp_next.2 (Comp.loop_idx (primesF l).length (fun k s => s = (minI ((n : Int) + 1) (((primesF l).take k).map onesI), (k : Int))) (fun k s hk hs => ?_) (fun s hs => ?_) (by rw [e1]; rfl))
  · subst hs
    show (if (k : Int) < ((primesF l).length : Int) then _ else _ : Comp _).wp _
    rw [Comp.wp_ite, if_pos (by omega)]
    refine ⟨(primesF l)[k], idxN hk, _, Ones_ret (hi.pbd (List.getElem_mem hk)), ?_⟩
    show _ = _
    rw [wrapN (by omega), (List.take_append_getElem hk).symm, List.map_append, List.map_cons, List.map_nil, minI_snoc]
  · subst hs
    show (if (((primesF l).length : Nat) : Int) < ((primesF l).length : Int) then _ else _ : Comp _).wp _
    rw [Comp.wp_ite, if_neg (by omega), List.take_length]
    have hd := hi.dim_eq
    obtain ⟨a1, _, a3⟩ := maxI_spec (-1) ((indTo l (2 ^ n)).map onesI)
    have hb : (n : Int) - minI ((n : Int) + 1) ((primesF l).map onesI) ≤ 1000000 ∧ -1 ≤ (n : Int) - minI ((n : Int) + 1) ((primesF l).map onesI) := by
      rw [← hd]
      refine ⟨?_, a1⟩
      unfold dimF
      rcases a3 with a3 | a3
      · omega
      · obtain ⟨s, _, e⟩ := List.mem_map.1 a3
        have h0 := prime_one s 0
        have h1 := prime_one s 1
        have h2 := prime_one s 2
        have h3 := prime_one s 3
        have e' : primeM s 0 + primeM s 1 + primeM s 2 + primeM s 3 = maxI (-1) ((indTo l (2 ^ n)).map onesI) := e
        omega
    show (if dimF l n = IntKind.i64.wrap ((n : Int) - minI ((n : Int) + 1) ((primesF l).map onesI)) then _ else _ : Comp _).wp _
    rw [wrap64 (x := (n : Int) - minI ((n : Int) + 1) ((primesF l).map onesI)) (by omega), Comp.wp_ite, if_pos hd]
    rfl
end Go.EL
