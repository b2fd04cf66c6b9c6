/- The law ComponentsErrors. The conditions stand in each statement. -/
import Derived.Test.YtbdknlblnfnkkaaPh
namespace Go.EL
open Go
theorem irrStep_len (S : List M) (g : M) : (irrStep S g).length ≤ S.length * 8 := by
  have h1 := flatMap_len (splitM · g) 8 S (fun e _ => splitM_length e g)
  have h2 := (putAll_spec [] (S.flatMap (splitM · g)) (by simp)).2.1
  have h3 := List.length_filter_le (fun a => !decide (redM (S.flatMap (splitM · g)) a)) ((putAll [] (S.flatMap (splitM · g))).map (·.1))
  simp only [List.length_map, List.length_nil] at h2 h3
  show (((putAll [] (S.flatMap (splitM · g))).map (·.1)).filter _).length ≤ _
  omega
theorem irrAcc_len (gs : List M) : (irrAcc gs).length ≤ 8 ^ gs.length := by
  refine snoc_ind (p := fun gs => (irrAcc gs).length ≤ 8 ^ gs.length) (by simp [irrAcc]) (fun gs g ih => ?_) gs
  have : irrAcc (gs ++ [g]) = irrStep (irrAcc gs) g := by rw [irrAcc, List.foldl_append]; rfl
  rw [this, List.length_append, List.length_singleton, Nat.pow_succ]
  exact Nat.le_trans (irrStep_len _ _) (Nat.mul_le_mul_right _ ih)
theorem irrF_len (l : List M) : (irrF l).length ≤ 8 ^ (minimalM l).length := by
  unfold irrF
  rw [sortBy_length]
  exact irrAcc_len _
theorem partsStep_inv (L : List M) : (L.foldl partsStep []).length ≤ L.length ∧ ∀ p ∈ L.foldl partsStep [], (∃ a ∈ L, p.1 = suppM a) ∧ p.2 ≠ [] ∧ p.2.length ≤ L.length ∧ ∀ g ∈ p.2, ∃ a ∈ L, g = gensM a ∧ suppM a = p.1 := by
  refine snoc_ind (p := fun L => (L.foldl partsStep []).length ≤ L.length ∧ ∀ p ∈ L.foldl partsStep [], (∃ a ∈ L, p.1 = suppM a) ∧ p.2 ≠ [] ∧ p.2.length ≤ L.length ∧ ∀ g ∈ p.2, ∃ a ∈ L, g = gensM a ∧ suppM a = p.1) (by simp) (fun L a ih => ?_) L
  obtain ⟨h1, h2⟩ := ih
  have e : (L ++ [a]).foldl partsStep [] = partsStep (L.foldl partsStep []) a := by rw [List.foldl_append]; rfl
  rw [e]
  generalize L.foldl partsStep [] = D at h1 h2
  refine ⟨by have := mput_length D (suppM a) ((mget D (suppM a)).getD [] ++ [gensM a]); simp only [List.length_append, List.length_singleton]; unfold partsStep; omega, ?_⟩
  have hget : ∀ (D : List (Int × List (List M))), (∀ p ∈ D, (∃ a ∈ L, p.1 = suppM a) ∧ p.2 ≠ [] ∧ p.2.length ≤ L.length ∧ ∀ g ∈ p.2, ∃ a ∈ L, g = gensM a ∧ suppM a = p.1) → ∀ s, ((mget D s).getD []).length ≤ L.length ∧ ∀ g ∈ (mget D s).getD [], ∃ b ∈ L, g = gensM b ∧ suppM b = s := by
    intro D
    induction D with
    | nil => intro _ s; simp [mget]
    | cons q D ih =>
      intro hD s
      simp only [mget]
      split
      · rename_i hq
        obtain ⟨_, _, q3, q4⟩ := hD q (by simp)
        exact ⟨q3, fun g hg => by rw [← hq]; exact q4 g hg⟩
      · exact ih (fun p hp => hD p (by simp [hp])) s
  obtain ⟨g1, g2⟩ := hget D h2 (suppM a)
  intro p hp
  have hput : ∀ (D : List (Int × List (List M))) (k : Int) (x : List (List M)) (p : Int × List (List M)), p ∈ mput D k x → p = (k, x) ∨ p ∈ D := by
    intro D k x p
    induction D with
    | nil => intro hp; simp only [mput, List.mem_singleton] at hp; exact .inl hp
    | cons q D ih =>
      intro hp
      simp only [mput] at hp
      split at hp
      · rcases List.mem_cons.1 hp with hp | hp
        · exact .inl hp
        · exact .inr (by simp [hp])
      · rcases List.mem_cons.1 hp with hp | hp
        · exact .inr (by simp [hp])
        · rcases ih hp with hp | hp
          · exact .inl hp
          · exact .inr (by simp [hp])
  rcases hput _ _ _ _ hp with rfl | hp
  · refine ⟨⟨a, by simp, rfl⟩, by simp, by simp; omega, fun g hg => ?_⟩
    rcases List.mem_append.1 hg with hg | hg
    · obtain ⟨b, hb, hb2⟩ := g2 g hg
      exact ⟨b, by simp [hb], hb2⟩
    · simp only [List.mem_singleton] at hg
      exact ⟨a, by simp, hg, rfl⟩
  · obtain ⟨⟨b, hb, hb2⟩, q2, q3, q4⟩ := h2 p hp
    refine ⟨⟨b, by simp [hb], hb2⟩, q2, by simp; omega, fun g hg => ?_⟩
    obtain ⟨c, hc, hc2⟩ := q4 g hg
    exact ⟨c, by simp [hc], hc2⟩
theorem mget_mem {K V : Type} [DecidableEq K] {D : List (K × V)} {k : K} (h : k ∈ D.map (·.1)) : ∃ x, mget D k = some x ∧ (k, x) ∈ D := by
  induction D with
  | nil => simp at h
  | cons p D ih =>
    simp only [mget]
    by_cases e : p.1 = k
    · rw [if_pos e]; exact ⟨p.2, rfl, by rw [← e]; simp⟩
    · rw [if_neg e]
      simp only [List.map_cons, List.mem_cons] at h
      rcases h with h | h
      · exact absurd h.symm e
      · obtain ⟨x, h1, h2⟩ := ih h
        exact ⟨x, h1, by simp [h2]⟩
theorem gensM_len (a : M) : (gensM a).length ≤ 8 := splitTo_length _ _ 8
/-- At most eight components. -/
theorem partsOk_few {l : List M} (h : (irrF l).length ≤ 8) : PartsOk l := by
  intro p hp
  have hp' : p ∈ (partsF l).map (·.1) := (sortI_perm _).mem_iff.1 hp
  obtain ⟨x, hx, hxm⟩ := mget_mem hp'
  obtain ⟨⟨a, ha, hpa⟩, hne, hlen, hg⟩ := (partsStep_inv (irrF l)).2 _ hxm
  refine ⟨by rw [show p = suppM a from hpa]; exact suppM_bd a, ?_⟩
  cases x with
  | nil => exact absurd rfl hne
  | cons x ms =>
    refine ⟨x, ms, by rw [hx]; rfl, ?_⟩
    have hgl : ∀ g ∈ x :: ms, g.length ≤ 8 := fun g hgm => by obtain ⟨b, _, hb, _⟩ := hg g hgm; rw [hb]; exact gensM_len b
    have hx8 := hgl x (by simp)
    simp only [List.length_cons] at hlen
    refine ⟨by unfold Lb; omega, by omega, fun k hk => ?_⟩
    have hk8 := hgl ms[k] (by simp [List.getElem_mem])
    refine ⟨by unfold Lb; omega, ?_⟩
    have hb : ∀ j, j ≤ ms.length → ((ms.take j).foldl meetStep (minimalM x)).length ≤ 8 ^ (j + 1) := by
      intro j
      induction j with
      | zero => intro _; have := minimalM_length x; simp; omega
      | succ j ih =>
        intro hj
        have hj1 : j < ms.length := by omega
        have := ih (by omega)
        have hj8 := hgl ms[j] (by simp [List.getElem_mem])
        rw [(List.take_append_getElem hj1).symm, List.foldl_append]
        have h1 := flatMap_len (fun a => ms[j].map (maxM a)) 8 ((ms.take j).foldl meetStep (minimalM x)) (fun e _ => by simpa using hj8)
        have h2 := minimalM_length (((ms.take j).foldl meetStep (minimalM x)).flatMap fun a => ms[j].map (maxM a))
        simp only [List.foldl_cons, List.foldl_nil, meetStep]
        rw [Nat.pow_succ]
        exact Nat.le_trans h2 (Nat.le_trans h1 (Nat.mul_le_mul_right _ this))
    have h1 := hb k (by omega)
    have h2 : 8 ^ (k + 1) ≤ 16777216 := pow8 (by omega)
    have h3 : ((ms.take k).foldl meetStep (minimalM x)).length * ms[k].length ≤ 16777216 * 8 := Nat.mul_le_mul (Nat.le_trans h1 h2) hk8
    omega
theorem i64wf {x : Int} (h : -9223372036854775808 ≤ x ∧ x ≤ 9223372036854775807) : (Lit.int IntKind.i64 x).wf = true := by
  simp [Lit.wf, IntKind.min, IntKind.max, IntKind.signed, IntKind.bits]
  omega
theorem Ok.wf {m : M} (h : Ok m) : Wf m := fun i => i64wf (by have := h i; omega)
/-- One monomial. -/
theorem fit_one {m : M} (h : Wf m) : Fit [m] := by
  have hm : (minimalM [m]).length ≤ 1 := minimalM_length [m]
  have h1 := irrF_len [m]
  have h2 : 8 ^ (minimalM [m]).length ≤ 8 ^ 1 := Nat.pow_le_pow_right (by decide) hm
  have h3 := (partsStep_inv (irrF [m])).1
  refine ⟨by simp, by omega, fun x hx => by simp only [List.mem_singleton] at hx; subst hx; exact h, by omega, ?_⟩
  show ((irrF [m]).foldl partsStep []).length ≤ 12
  omega
theorem pok_one (m : M) : PartsOk [m] := by
  have hm : (minimalM [m]).length ≤ 1 := minimalM_length [m]
  have h1 := irrF_len [m]
  have h2 : 8 ^ (minimalM [m]).length ≤ 8 ^ 1 := Nat.pow_le_pow_right (by decide) hm
  exact partsOk_few (by omega)
def mono1 (k : Nat) (e : Int) : M := setF (fun _ => 0) k e
theorem ok_mono1 {k : Nat} (hk : k < 8) {e : Int} : Ok (mono1 k e) ↔ 0 ≤ e ∧ e ≤ 65535 := by
  constructor
  · intro h
    have := h ⟨k, hk⟩
    simpa [mono1, setF] using this
  · intro h i
    simp only [mono1, setF]
    split
    · exact h
    · omega
theorem supp_mono1 {k : Nat} (hk : k < 8) {e : Int} : suppM (mono1 k e) = if 0 < e then p2 k else 0 := by
  have key : ∀ j, j ≤ 8 → suppTo (mono1 k e) j = if k < j ∧ 0 < e then p2 k else 0 := by
    intro j
    induction j with
    | zero => intro _; simp [suppTo]
    | succ j ih =>
      intro hj
      have hj8 : j < 8 := by omega
      by_cases hp : 0 < mono1 k e ⟨j, hj8⟩
      · have hjk : j = k := by
          simp only [mono1, setF] at hp
          split at hp
          · assumption
          · omega
        subst hjk
        have he : 0 < e := by simpa [mono1, setF] using hp
        rw [← suppTo_yes _ hj8 hp, ih (by omega), if_neg (by omega), if_pos ⟨by omega, he⟩]
        omega
      · rw [← suppTo_no _ hj8 hp, ih (by omega)]
        by_cases hjk : j = k
        · subst hjk
          have he : ¬ 0 < e := by simpa [mono1, setF] using hp
          rw [if_neg (by omega), if_neg (by omega)]
        · by_cases hc : k < j ∧ 0 < e
          · rw [if_pos hc, if_pos (by omega)]
          · rw [if_neg hc, if_neg (by omega)]
  have := key 8 (Nat.le_refl 8)
  unfold suppM
  rw [this]
  by_cases he : 0 < e
  · rw [if_pos ⟨hk, he⟩, if_pos he]
  · rw [if_neg (by omega), if_neg he]
theorem fdiv_p2 {k n : Nat} : Int.fdiv (p2 k) (2 ^ n) = 0 ↔ k < n := by
  rw [p2_nat]
  have e : ((2 : Int) ^ n) = ((2 ^ n : Nat) : Int) := by simp
  rw [e, Int.fdiv_eq_ediv_of_nonneg _ (Int.natCast_nonneg _)]
  have : (((2 ^ k : Nat) : Int) / ((2 ^ n : Nat) : Int)) = ((2 ^ k / 2 ^ n : Nat) : Int) := rfl
  rw [this]
  constructor
  · intro h
    have h' : 2 ^ k / 2 ^ n = 0 := by omega
    rcases Nat.lt_or_ge k n with h1 | h1
    · exact h1
    · have h2 : 2 ^ n ≤ 2 ^ k := Nat.pow_le_pow_right (by decide) h1
      have := Nat.div_pos h2 (Nat.pow_pos (by decide))
      omega
  · intro h
    have h2 : 2 ^ k < 2 ^ n := Nat.pow_lt_pow_right (by decide) h
    rw [Nat.div_eq_of_lt h2]; rfl
theorem check_mono1 {k : Nat} (hk : k < 8) {e n : Int} (hn : 0 ≤ n ∧ n ≤ 8) : checkF [mono1 k e] n = if (0 ≤ e ∧ e ≤ 65535) ∧ (0 < e → (k : Int) < n) then 0 else 1 := by
  unfold checkF
  rw [if_neg (by omega), if_neg (by omega)]
  have e1 : min n.toNat 64 = n.toNat := by omega
  have hok : (∀ m ∈ [mono1 k e], okN n m) ↔ ((0 ≤ e ∧ e ≤ 65535) ∧ (0 < e → (k : Int) < n)) := by
    simp only [List.mem_singleton, forall_eq, okN, ok_mono1 hk, supp_mono1 hk, e1]
    constructor
    · rintro ⟨h1, h2⟩
      refine ⟨h1, fun he => ?_⟩
      rw [if_pos he, fdiv_p2] at h2
      omega
    · rintro ⟨h1, h2⟩
      refine ⟨h1, ?_⟩
      by_cases he : 0 < e
      · rw [if_pos he, fdiv_p2]; have := h2 he; omega
      · rw [if_neg he]; simp
  by_cases hc : (0 ≤ e ∧ e ≤ 65535) ∧ (0 < e → (k : Int) < n)
  · rw [if_pos (hok.2 hc), if_pos hc]; simp
  · rw [if_neg (fun h => hc (hok.1 h)), if_neg hc]
theorem check_nines : checkF (List.replicate 9 zeroM) 0 = 2 := by decide +kernel
theorem errors_k2 {k : Nat} (hk : k < 8) {n i e : Int} (hik : (Int.tmod i 8).toNat = k) : (law21_ComponentsErrors_k2 n i e true (checkF [mono1 k e] n)).Ret true := by
  unfold law21_ComponentsErrors_k2
  rw [hik]
  have hlb : Lb [mono1 k e] := by unfold Lb; simp
  have hfit : checkF [mono1 k e] n = 0 → Fit [mono1 k e] := fun h => by
    refine fit_one (Ok.wf ?_)
    unfold checkF at h
    split at h
    · cases h
    · split at h
      · cases h
      · split at h
        · rename_i h3; exact (h3 _ (by simp)).1
        · cases h
  refine ⟨_, Irr_ret hlb hfit, _, Primes_ret hlb hfit, _, Embedded_ret hlb hfit, _, Primary_ret hlb (fun h => ⟨hfit h, pok_one _⟩), by omega, _, Primary_ret (l := List.replicate 9 zeroM) (n := 0) (by unfold Lb; simp) (fun h => by rw [check_nines] at h; cases h), ?_⟩
  rw [check_nines]
  by_cases h0 : checkF [mono1 k e] n = 0
  · have h0' : checkF [setF (fun _ => 0) k e] n = 0 := h0
    rw [h0]
    simp only [h0', if_true, if_neg (show ¬ (2 : Int) = 0 by decide)]
    unfold law21_ComponentsErrors_k1
    simp only [if_true]
    rfl
  · have h0' : ¬ checkF [setF (fun _ => 0) k e] n = 0 := h0
    have hv : checkF [mono1 k e] n = checkF [setF (fun _ => 0) k e] n := rfl
    rw [hv]
    generalize checkF [setF (fun _ => 0) k e] n = v at h0'
    simp only [if_neg h0', if_neg (show ¬ (2 : Int) = 0 by decide)]
    unfold law21_ComponentsErrors_k1
    simp only [if_true]
    have : decide (IntKind.i64.wrap (IntKind.i64.wrap (IntKind.i64.wrap ((([] : List M).length : Int) + (([] : List Int).length : Int)) + (([] : List Int).length : Int)) + (([] : List T_api_Part).length : Int)) = 0) = true := by decide
    rw [this]
    rfl
theorem errors_ret {n i e : Int} (hi : 0 ≤ i ∧ i < 256) : (law21_ComponentsErrors n i e).Ret true := by
  refine ⟨true, sanity_ret, ?_⟩
  show (if (!true) = true then _ else _ : Comp _).wp _
  rw [Comp.wp_ite, if_neg (by decide)]
  have ht : Int.tmod i 8 = i % 8 := Int.tmod_eq_emod_of_nonneg hi.1
  have hk : (Int.tmod i 8).toNat < 8 := by rw [ht]; omega
  have hki : ((Int.tmod i 8).toNat : Int) = Int.tmod i 8 := by rw [ht]; omega
  refine ⟨by rw [ht]; omega, ?_⟩
  have hw : IntKind.i64.wrap (Int.tmod i 8) = Int.tmod i 8 := wrap64 (by rw [ht]; omega)
  have fin : ∀ v, checkF [mono1 (Int.tmod i 8).toNat e] n = v → (law21_ComponentsErrors_k2 n i e true v).wp (fun a => a = true) := fun v hv => by
    rw [← hv]; exact errors_k2 hk rfl
  have out : (n < 0 ∨ 8 < n) → checkF [mono1 (Int.tmod i 8).toNat e] n = 1 := fun h => by
    unfold checkF
    rcases h with h | h
    · rw [if_pos h]
    · rw [if_neg (by omega), if_pos h]
  rw [Comp.wp_ite]
  split
  · rename_i h; exact fin 1 (out (.inl h))
  rename_i h1
  rw [Comp.wp_ite]
  split
  · rename_i h; exact fin 1 (out (.inr h))
  rename_i h2
  have hc := check_mono1 hk (e := e) (n := n) (by omega)
  rw [hki] at hc
  rw [Comp.wp_ite]
  split
  · rename_i h; exact fin 1 (by rw [hc, if_neg (by omega)])
  rename_i h3
  rw [Comp.wp_ite]
  split
  · rename_i h; exact fin 1 (by rw [hc, if_neg (by omega)])
  rename_i h4
  rw [Comp.wp_ite]
  split
  · rename_i h5
    rw [Comp.wp_ite, hw]
    split
    · rename_i h6; exact fin 1 (by rw [hc, if_neg (by omega)])
    · rename_i h6; exact fin 0 (by rw [hc, if_pos (by omega)])
  · rename_i h5; exact fin 0 (by rw [hc, if_pos (by omega)])
end Go.EL
