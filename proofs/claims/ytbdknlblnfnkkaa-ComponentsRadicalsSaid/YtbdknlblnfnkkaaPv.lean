/- Associated primes of the inputs; the law ComponentsRadicals on the models. The conditions stand in each statement. -/
import Derived.Test.YtbdknlblnfnkkaaPn
namespace Go.EL
open Go
theorem parts_keys : ∀ (A : List M) (D : List (Int × List (List M))) (p : Int), p ∈ (A.foldl partsStep D).map (·.1) ↔ (∃ a ∈ A, suppM a = p) ∨ p ∈ D.map (·.1)
  | [], D, p => by simp
  | a :: A, D, p => by
    rw [List.foldl_cons, parts_keys A, partsStep, mput_keys]
    constructor
    · rintro (⟨b, hb, e⟩ | e | h)
      · exact .inl ⟨b, by simp [hb], e⟩
      · exact .inl ⟨a, by simp, e.symm⟩
      · exact .inr h
    · rintro (⟨b, hb, e⟩ | h)
      · rcases List.mem_cons.1 hb with rfl | hb
        · exact .inr (.inl e.symm)
        · exact .inl ⟨b, hb, e⟩
      · exact .inr (.inr h)
theorem parts_get : ∀ (A : List M) (D : List (Int × List (List M))) (p : Int), (mget (A.foldl partsStep D) p).getD [] = (mget D p).getD [] ++ (A.filter fun a => decide (suppM a = p)).map gensM
  | [], D, p => by simp
  | a :: A, D, p => by
    rw [List.foldl_cons, parts_get A, partsStep, mget_mput, List.filter_cons]
    by_cases e : suppM a = p
    · subst e; simp
    · rw [if_neg e, if_neg (by simpa using e)]
theorem supp4 {a : M} (h : Sm a) : suppM a = (if 0 < a 0 then 1 else 0) + (if 0 < a 1 then 2 else 0) + (if 0 < a 2 then 4 else 0) + (if 0 < a 3 then 8 else 0) := by
  have h1 : suppM a = suppTo a 4 := supp_zero (n := 4) (fun j hj => (h j).2.2 hj) 8 (by omega)
  rw [h1]
  simp only [suppTo, p2, show (0 : Nat) < 8 by decide, show (1 : Nat) < 8 by decide, show (2 : Nat) < 8 by decide, show (3 : Nat) < 8 by decide, dif_pos]
  have e0 : a ⟨0, by decide⟩ = a 0 := rfl
  have e1 : a ⟨1, by decide⟩ = a 1 := rfl
  have e2 : a ⟨2, by decide⟩ = a 2 := rfl
  have e3 : a ⟨3, by decide⟩ = a 3 := rfl
  rw [e0, e1, e2, e3]
  omega
theorem supp_bd {a : M} (h : Sm a) : 0 ≤ suppM a ∧ suppM a < 16 := by
  rw [supp4 h]
  repeat' split
  all_goals omega
/-- The variables of a set, as exponents. -/
def primeM (p : Int) : M := fun i => p / (2 : Int) ^ i.val % 2
def indM (a : M) : M := fun i => if 0 < a i then 1 else 0
theorem prime_supp {a : M} (h : Sm a) : primeM (suppM a) = indM a := by
  funext i
  have hb := supp_bd h
  have h4 := (h i).2.2
  match i with
  | 0 => show suppM a / 1 % 2 = _; rw [supp4 h]; unfold indM; (repeat' split) <;> omega
  | 1 => show suppM a / 2 % 2 = _; rw [supp4 h]; unfold indM; (repeat' split) <;> omega
  | 2 => show suppM a / 4 % 2 = _; rw [supp4 h]; unfold indM; (repeat' split) <;> omega
  | 3 => show suppM a / 8 % 2 = _; rw [supp4 h]; unfold indM; (repeat' split) <;> omega
  | 4 => show suppM a / 16 % 2 = _; have := h4 (by decide); unfold indM; rw [if_neg (by omega)]; omega
  | 5 => show suppM a / 32 % 2 = _; have := h4 (by decide); unfold indM; rw [if_neg (by omega)]; omega
  | 6 => show suppM a / 64 % 2 = _; have := h4 (by decide); unfold indM; rw [if_neg (by omega)]; omega
  | 7 => show suppM a / 128 % 2 = _; have := h4 (by decide); unfold indM; rw [if_neg (by omega)]; omega
theorem prime_sm {p : Int} (h : 0 ≤ p ∧ p < 16) : Sm (primeM p) := fun i => by
  have h2 : 0 ≤ primeM p i ∧ primeM p i < 2 := ⟨Int.emod_nonneg _ (by omega), Int.emod_lt_of_pos _ (by omega)⟩
  refine ⟨h2.1, by omega, fun h4 => ?_⟩
  match i, h4 with
  | 4, _ => show p / 16 % 2 = 0; omega
  | 5, _ => show p / 32 % 2 = 0; omega
  | 6, _ => show p / 64 % 2 = 0; omega
  | 7, _ => show p / 128 % 2 = 0; omega
theorem prime_one (p : Int) (i : Fin 8) : 0 ≤ primeM p i ∧ primeM p i ≤ 1 := by
  have h2 : 0 ≤ primeM p i ∧ primeM p i < 2 := ⟨Int.emod_nonneg _ (by omega), Int.emod_lt_of_pos _ (by omega)⟩
  omega
theorem embC_fin : ∀ q p : Fin 16, embC (q.val : Int) (p.val : Int) = (decide ((q.val : Int) ≠ (p.val : Int)) && decide (∀ i : Fin 8, primeM (q.val : Int) i ≤ primeM (p.val : Int) i)) := by decide +kernel
theorem sub_fin : ∀ q p : Fin 16, (∀ i : Fin 8, primeM (q.val : Int) i ≤ primeM (p.val : Int) i) → q.val ≤ p.val := by decide +kernel
theorem fin16 {p : Int} (h : 0 ≤ p ∧ p < 16) : ∃ k : Fin 16, (k.val : Int) = p := ⟨⟨p.toNat, by omega⟩, by simp; omega⟩
theorem embC_iff {q p : Int} (hq : 0 ≤ q ∧ q < 16) (hp : 0 ≤ p ∧ p < 16) : embC q p = true ↔ q ≠ p ∧ ∀ i, primeM q i ≤ primeM p i := by
  obtain ⟨q, rfl⟩ := fin16 hq
  obtain ⟨p, rfl⟩ := fin16 hp
  rw [embC_fin, Bool.and_eq_true, decide_eq_true_eq, decide_eq_true_eq]
theorem sub_lt {q p : Int} (hq : 0 ≤ q ∧ q < 16) (hp : 0 ≤ p ∧ p < 16) (h : ∀ i, primeM q i ≤ primeM p i) (hne : q ≠ p) : q < p := by
  obtain ⟨q, rfl⟩ := fin16 hq
  obtain ⟨p, rfl⟩ := fin16 hp
  have := sub_fin q p h
  omega
theorem prime_mono {q p : Int} {t : M} (h : ∀ i, primeM q i ≤ primeM p i) (hq : irrIn (primeM q) t) : irrIn (primeM p) t := by
  obtain ⟨i, h1, h2⟩ := hq
  have h3 := h i
  have h4 := prime_one p i
  exact ⟨i, by omega, by omega⟩
theorem nodup_range {l : List Int} (lo : Int) (n : Nat) (hn : l.Nodup) (h : ∀ x ∈ l, lo ≤ x ∧ x < lo + n) : l.length ≤ n := by
  have h1 : (l.map fun x => (x - lo).toNat).Nodup := by
    rw [List.Nodup, List.pairwise_map]
    exact hn.imp_of_mem fun {a b} ha hb hab e => hab (by have := h a ha; have := h b hb; omega)
  have := nodup_lt n h1 (fun x hx => by obtain ⟨y, hy, rfl⟩ := List.mem_map.1 hx; have := h y hy; omega)
  simpa using this
theorem primes_mem {l : List M} {p : Int} : p ∈ primesF l ↔ ∃ a ∈ irrF l, suppM a = p := by
  rw [primesF, (sortI_perm _).mem_iff, partsF, parts_keys]
  simp
theorem primes_nodup (l : List M) : (primesF l).Nodup := (sortI_perm _).nodup_iff.2 (parts_nodup _ _ (by simp))
theorem supp_zero_iff {a : M} (h : Sm a) (h0 : suppM a = 0) : a = zeroM := by
  have h1 := prime_supp h
  rw [h0] at h1
  funext i
  have h2 := congrFun h1 i
  have h3 : primeM 0 i = 0 := by simp [primeM]
  rw [h3] at h2
  unfold indM at h2
  split at h2
  · omega
  · have := (h i).1
    show a i = 0
    omega
namespace Inp
variable {l : List M} {n : Nat} (h : Inp l n)
include h
theorem pbd {p : Int} (hp : p ∈ primesF l) : 0 ≤ p ∧ p < 16 := by
  obtain ⟨a, ha, rfl⟩ := primes_mem.1 hp
  exact supp_bd (h.irrSm a ha)
theorem keys15 : (partsF l).length ≤ 15 := by
  have hn := parts_nodup (irrF l) [] (by simp)
  have hk : ∀ p, p ∈ (partsF l).map (·.1) ↔ ∃ a ∈ irrF l, suppM a = p := fun p => by rw [partsF, parts_keys]; simp
  have hlen : (partsF l).length = ((partsF l).map (·.1)).length := by simp
  rw [hlen]
  by_cases h0 : (0 : Int) ∈ (partsF l).map (·.1)
  · obtain ⟨a, ha, hs⟩ := (hk 0).1 h0
    have hz := supp_zero_iff (h.irrSm a ha) hs
    subst hz
    have := nodup_range (l := (partsF l).map (·.1)) 0 1 hn (fun x hx => by
      obtain ⟨b, hb, rfl⟩ := (hk x).1 hx
      have e := h.ok.anti b hb zeroM ha (fun i hi => by simp [zeroM] at hi)
      rw [e, hs]; omega)
    omega
  · exact nodup_range 1 15 hn (fun x hx => by
      obtain ⟨b, hb, rfl⟩ := (hk x).1 hx
      have := supp_bd (h.irrSm b hb)
      have : suppM b ≠ 0 := fun e => h0 (e ▸ hx)
      omega)
theorem fit : Fit l := ⟨h.lb, by have := minimalM_length l; have := h.len; omega, h.wf, by have := h.irrLen; omega, h.keys15⟩
theorem plen : (primesF l).length ≤ 15 := by
  have := (sortI_perm ((partsF l).map (·.1))).length_eq
  have := h.keys15
  simp [primesF] at *; omega
theorem primes : (components_Primes l (n : Int)).Ret (primesF l, 0) := by
  have := Primes_ret h.lb (n := (n : Int)) (fun _ => h.fit)
  rwa [if_pos h.check] at this
theorem embedded : (components_Embedded l (n : Int)).Ret (embF (primesF l), 0) := by
  have := Embedded_ret h.lb (n := (n : Int)) (fun _ => h.fit)
  rwa [if_pos h.check] at this
/-- The radical is the intersection of the associated primes. -/
theorem rad_in {t : M} (ht : Nn t) : inM t (radF l) = true ↔ ∀ p ∈ primesF l, irrIn (primeM p) t := by
  have h1 : inM t (radF l) = inM t (l.map radM) := (inM_minimal _ _).symm
  let t' : M := fun i => if 0 < t i then 3 else 0
  have ht' : Nn t' := fun i => by show 0 ≤ (if 0 < t i then (3 : Int) else 0); split <;> omega
  have h2 : inM t (l.map radM) = true ↔ ∃ g ∈ l, dvdM g t' := by
    rw [inM_iff]
    have key : ∀ g ∈ l, dvdM (radM g) t ↔ dvdM g t' := fun g hg => forall_congr' fun i => by
      have h2 := h.sm g hg i
      have h3 := ht i
      unfold Qs at h2
      show (if 1 < g i then (1 : Int) else g i) ≤ t i ↔ g i ≤ (if 0 < t i then (3 : Int) else 0)
      split <;> split <;> omega
    constructor
    · rintro ⟨d, hd, hdt⟩
      obtain ⟨g, hg, rfl⟩ := List.mem_map.1 hd
      exact ⟨g, hg, (key g hg).1 hdt⟩
    · rintro ⟨g, hg, hd⟩
      exact ⟨_, List.mem_map.2 ⟨g, hg, rfl⟩, (key g hg).2 hd⟩
  rw [h1, h2, ← h.ok.mem t' ht']
  have h3 : ∀ a ∈ irrF l, irrIn a t' ↔ irrIn (primeM (suppM a)) t := fun a ha => by
    rw [prime_supp (h.irrSm a ha)]
    refine exists_congr fun i => ?_
    have h4 := h.irrSm a ha i
    have h5 := ht i
    unfold Qs at h4
    show 0 < a i ∧ a i ≤ (if 0 < t i then (3 : Int) else 0) ↔ 0 < (if 0 < a i then (1 : Int) else 0) ∧ (if 0 < a i then (1 : Int) else 0) ≤ t i
    split <;> split <;> omega
  constructor
  · intro hall p hp
    obtain ⟨a, ha, rfl⟩ := primes_mem.1 hp
    exact (h3 a ha).1 (hall a ha)
  · intro hall a ha
    exact (h3 a ha).2 (hall _ (primes_mem.2 ⟨a, ha, rfl⟩))
/-- Each associated prime contains one that is not embedded. -/
theorem least_prime : ∀ (k : Nat) {p : Int}, p ∈ primesF l → p.toNat ≤ k → ∃ q ∈ primesF l, ((primesF l).any fun r => embC r q) = false ∧ ∀ i, primeM q i ≤ primeM p i := by
  intro k
  induction k with
  | zero =>
    intro p hp hk
    refine ⟨p, hp, ?_, fun i => Int.le_refl _⟩
    rw [Bool.eq_false_iff]
    intro he
    obtain ⟨r, hr, hc⟩ := List.any_eq_true.1 he
    obtain ⟨h1, h2⟩ := (embC_iff (h.pbd hr) (h.pbd hp)).1 hc
    have := sub_lt (h.pbd hr) (h.pbd hp) h2 h1
    have := (h.pbd hr).1
    omega
  | succ k ih =>
    intro p hp hk
    cases he : (primesF l).any fun r => embC r p with
    | false => exact ⟨p, hp, he, fun i => Int.le_refl _⟩
    | true =>
      obtain ⟨r, hr, hc⟩ := List.any_eq_true.1 he
      obtain ⟨h1, h2⟩ := (embC_iff (h.pbd hr) (h.pbd hp)).1 hc
      have hlt := sub_lt (h.pbd hr) (h.pbd hp) h2 h1
      have := (h.pbd hr).1
      obtain ⟨q, hq, h3, h4⟩ := ih hr (by omega)
      exact ⟨q, hq, h3, fun i => Int.le_trans (h4 i) (h2 i)⟩
theorem rad_eq : meetAll (((primesF l).filter fun p => !(primesF l).any fun r => embC r p).map primeM) = radF l := by
  refine minimal_eq (meetAll_min _) (minimal_idem _) (fun x hx i => (meetAll_ind (Q := Qs) (fun i => ⟨by omega, by omega, fun _ => rfl⟩) _ (fun a ha => ?_) x hx i).1) (fun y hy i => ?_) fun t ht => ?_
  · obtain ⟨p, hp, rfl⟩ := List.mem_map.1 ha
    exact prime_sm (h.pbd (List.mem_filter.1 hp).1)
  · obtain ⟨g, hg, rfl⟩ := List.mem_map.1 (minimalM_mem.1 hy).1
    have := (h.sm g hg i).1
    unfold radM; split <;> omega
  · rw [Bool.eq_iff_iff, meetAll_in ht, h.rad_in ht]
    constructor
    · intro hall p hp
      obtain ⟨q, hq, h1, h2⟩ := h.least_prime _ hp (Nat.le_refl _)
      exact prime_mono h2 (hall _ (List.mem_map.2 ⟨q, List.mem_filter.2 ⟨hq, by rw [h1]; rfl⟩, rfl⟩))
    · intro hall a ha
      obtain ⟨p, hp, rfl⟩ := List.mem_map.1 ha
      exact hall p (List.mem_filter.1 hp).1
end Inp
theorem prime_ret {p : Int} (hp : 0 ≤ p ∧ p < 16) : (law21_prime p).Ret (gensM (primeM p)) := by
  refine Comp.loop_idx 8 (fun k s => s = ((k : Int), mixM k (primeM p) zeroM)) (fun k s hk hs => ?_) (fun s hs => ?_) (by rw [mix_zero]; rfl)
  · subst hs
    show (if (k : Int) < 8 then _ else _ : Comp _).wp _
    rw [Comp.wp_ite, if_pos (by omega)]
    refine ⟨by omega, by omega, ?_⟩
    show _ = _
    have e : Int.tmod (Int.fdiv (IntKind.i64.wrap p) (2 ^ (min (k : Int).toNat IntKind.i64.bits))) 2 = primeM p ⟨k, hk⟩ := by
      rw [wrap64 (by omega)]
      have h1 : min (k : Int).toNat IntKind.i64.bits = k := by
        have : IntKind.i64.bits = 64 := rfl
        omega
      rw [h1, Int.fdiv_eq_ediv_of_nonneg p (Int.pow_nonneg (by omega)), Int.tmod_eq_emod_of_nonneg (Int.ediv_nonneg hp.1 (Int.pow_nonneg (by omega)))]
      rfl
    rw [wrapN (by omega), e, ← mix_step _ _ hk]
    rfl
  · subst hs
    show (if ((8 : Nat) : Int) < 8 then _ else _ : Comp _).wp _
    rw [Comp.wp_ite, if_neg (by omega), mix_all _ _ (by omega)]
    exact ⟨_, R21_Gens_ret _, rfl⟩
theorem rad_L4 {ps : List Int} {e0 : Int} (hn : ps.Nodup) (hl : ps.length ≤ 1000) {i : Nat} (hi : i < ps.length) : (law21_ComponentsRadicals_L4 (ps, e0) (i : Int) (false, 0)).Ret (ps.any fun q => embC q ps[i]) := by
  refine Comp.loop_idx ps.length (fun k s => s = ((ps.take k).any (fun q => embC q ps[i]), (k : Int))) (fun k s hk hs => ?_) (fun s hs => ?_) rfl
  · subst hs
    have ht : (ps.take (k + 1)).any (fun q => embC q ps[i]) = ((ps.take k).any (fun q => embC q ps[i]) || embC ps[k] ps[i]) := by
      rw [← List.take_append_getElem hk, List.any_append]; simp
    show (if (k : Int) < (ps.length : Int) then _ else _ : Comp _).wp _
    rw [Comp.wp_ite, if_pos (by omega), Comp.wp_ite]
    split
    · rename_i hb
      show _ = _
      rw [ht, hb, wrapN (by omega)]; rfl
    · rename_i hb
      have hb : (ps.take k).any (fun q => embC q ps[i]) = false := by simpa using hb
      rw [Comp.wp_ite]
      split
      · rename_i hne
        have hki : k ≠ i := fun e => hne (by rw [e])
        have hpe : ps[k] ≠ ps[i] := nodup_at hn (List.getElem?_eq_getElem hk) (List.getElem?_eq_getElem hi) hki
        have he : embC ps[k] ps[i] = decide (IntKind.u8.wrap (BitVec.ofInt IntKind.u8.bits ps[k] &&& ~~~ BitVec.ofInt IntKind.u8.bits ps[i]).toNat = 0) := by unfold embC; rw [if_pos hpe]
        refine ⟨ps[k], idxN hk, ps[i], idxN hi, ?_⟩
        rw [Comp.wp_ite]
        split
        · rename_i hc
          show _ = _
          rw [ht, hb, he, decide_eq_true hc, wrapN (by omega)]; rfl
        · rename_i hc
          show _ = _
          rw [ht, hb, he, decide_eq_false hc, wrapN (by omega)]; rfl
      · rename_i hne
        have hki : k = i := by have : (k : Int) = (i : Int) := by simpa using hne
                               omega
        subst hki
        have he : embC ps[k] ps[k] = false := by unfold embC; simp
        show _ = _
        rw [ht, hb, he, wrapN (by omega)]; rfl
  · subst hs
    show (if ((ps.length : Nat) : Int) < (ps.length : Int) then _ else _ : Comp _).wp _
    rw [Comp.wp_ite, if_neg (by omega), List.take_length]
    rfl
theorem filter_at {α : Type} (f : α → Bool) (l : List α) {i : Nat} (hi : i < l.length) (hf : f l[i] = true) : (l.filter f)[((l.take i).filter f).length]? = some l[i] ∧ ((l.take i).filter f).length < (l.filter f).length := by
  have e : l.filter f = (l.take i).filter f ++ l[i] :: (l.drop (i + 1)).filter f := by
    conv => lhs; rw [← List.take_append_drop i l, List.drop_eq_getElem_cons hi]
    rw [List.filter_append, List.filter_cons, if_pos hf]
  rw [e]
  exact ⟨by simp, by simp⟩
theorem rad_law_ret {x : T_law21_Input} (hn : 0 ≤ x.n ∧ x.n ≤ 255) (hx : U8s x.l) : (law21_ComponentsRadicals x).Ret true := by
  have hv := (vars_eq hn).2
  have hi : Inp (madeF x.l (varsF x) 4 3) (varsF x) := inp_made hx hv (by omega)
  have made := made_ret hn hx
  revert hi made
  generalize madeF x.l (varsF x) 4 3 = l
  intro hi made
  have hpl := hi.plen
  refine ⟨true, sanity_ret, ?_⟩
  rw [Comp.wp_ite, if_neg (by simp)]
  refine ⟨_, made, _, vars_ret hn, _, hi.primes, _, vars_ret hn, _, hi.embedded, ?_⟩
  rw [Comp.wp_ite, if_neg (by simp), Comp.wp_ite, if_neg (by simp)]
  have hsm : ∀ k, ∀ a ∈ ((((primesF l).take k).filter fun p => !(primesF l).any fun r => embC r p).map primeM), Sm a := fun k a ha => by
    obtain ⟨p, hp, rfl⟩ := List.mem_map.1 ha
    exact prime_sm (hi.pbd (List.mem_of_mem_take (List.mem_filter.1 hp).1))
  refine Comp.wp_next.2 (Comp.loop_idx (primesF l).length (fun k s => s = (meetAll ((((primesF l).take k).filter fun p => !(primesF l).any fun r => embC r p).map primeM), ((((primesF l).take k).filter fun p => (primesF l).any fun r => embC r p).length : Int), (k : Int))) (fun k s hk hs => ?_) (fun s hs => ?_) rfl)
  · subst hs
    have htk : (primesF l).take (k + 1) = (primesF l).take k ++ [(primesF l)[k]] := (List.take_append_getElem hk).symm
    have hfl : ((((primesF l).take k).filter fun p => (primesF l).any fun r => embC r p).length) ≤ 15 := by
      have := List.length_filter_le (fun p => (primesF l).any fun r => embC r p) ((primesF l).take k)
      simp at this; omega
    show (if (k : Int) < ((primesF l).length : Int) then _ else _ : Comp _).wp _
    rw [Comp.wp_ite, if_pos (by omega)]
    refine Comp.wp_next.2 ((rad_L4 (primes_nodup l) (by omega) hk).then ?_)
    show (if ((primesF l).any fun q => embC q (primesF l)[k]) = true then _ else _ : Comp _).wp _
    rw [Comp.wp_ite]
    cases he : (primesF l).any fun q => embC q (primesF l)[k] with
    | true =>
      rw [if_pos rfl]
      obtain ⟨f1, f2⟩ := filter_at (fun p => (primesF l).any fun r => embC r p) (primesF l) hk he
      have hle : ¬ ((embF (primesF l)).length : Int) ≤ ((((primesF l).take k).filter fun p => (primesF l).any fun r => embC r p).length : Int) := by
        unfold embF; omega
      rw [Comp.wp_ite, if_neg hle]
      refine ⟨(primesF l)[k], ⟨by omega, f1⟩, (primesF l)[k], idxN hk, ?_⟩
      rw [Comp.wp_ite, if_neg (by simp)]
      show _ = _
      rw [wrapN (by omega), wrapN (by omega), htk, List.filter_append, List.filter_append, List.filter_cons, List.filter_cons, he]
      simp
    | false =>
      rw [if_neg (by simp)]
      have hb := hi.pbd (List.getElem_mem hk)
      have h1 := meetAll_few (hsm k)
      have h2 := splitTo_length zeroM (primeM (primesF l)[k]) 8
      have h3 := Nat.mul_le_mul h1 h2
      refine ⟨(primesF l)[k], idxN hk, _, prime_ret hb, _, R21_Meet_ret (by unfold gensM; omega) (by omega) (by unfold gensM; omega), ?_⟩
      show _ = _
      rw [wrapN (by omega), htk, List.filter_append, List.filter_append, List.filter_cons, List.filter_cons, he]
      simp only [Bool.not_false, if_true, List.filter_nil, Bool.false_eq_true, if_false, List.append_nil, List.map_append, List.map_cons, List.map_nil]
      rw [meetAll_snoc]
  · subst hs
    show (if (((primesF l).length : Nat) : Int) < ((primesF l).length : Int) then _ else _ : Comp _).wp _
    rw [Comp.wp_ite, if_neg (by omega), List.take_length, hi.rad_eq]
    show (if _ = _ then _ else _ : Comp _).wp _
    rw [Comp.wp_ite, if_pos (by rfl)]
    have lbr : Lb (radF l) := by have := minimalM_length (l.map radM); have := hi.len; unfold Lb radF; simp at *; omega
    refine ⟨_, Radical_ret hi.lb, true, Same_self lbr rfl, ?_⟩
    rfl
end Go.EL
