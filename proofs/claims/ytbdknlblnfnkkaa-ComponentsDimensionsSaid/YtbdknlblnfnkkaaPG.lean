/- Associated primes of the inputs; the law ComponentsRadicals on the models. The conditions stand in each statement. -/
import Derived.Test.YtbdknlblnfnkkaaPF
namespace Go.EL
open Go
theorem parts_keys : ∀ (A : List M) (D : List (Int × List (List M))) (p : Int), p ∈ (A.foldl partsStep D).map (·.1) ↔ (∃ a ∈ A, suppM a = p) ∨ p ∈ D.map (·.1)
  | [], D, p => by simp
  | a :: A, D, p => by
    rw [List.foldl_cons, parts_keys A, partsStep, mput_keys]
    constructor
    · rintro (⟨b, hb, e⟩ | e | h)
      · exact .inl ⟨b, by simp [hb], e⟩
      · exact .inl ⟨a, by simp, e.symm⟩
      · exact .inr h
    · rintro (⟨b, hb, e⟩ | h)
      · rcases List.mem_cons.1 hb with rfl | hb
        · exact .inr (.inl e.symm)
        · exact .inl ⟨b, hb, e⟩
      · exact .inr (.inr h)
theorem parts_get : ∀ (A : List M) (D : List (Int × List (List M))) (p : Int), (mget (A.foldl partsStep D) p).getD [] = (mget D p).getD [] ++ (A.filter fun a => decide (suppM a = p)).map gensM
  | [], D, p => by simp
  | a :: A, D, p => by
    rw [List.foldl_cons, parts_get A, partsStep, mget_mput, List.filter_cons]
    by_cases e : suppM a = p
    · subst e; simp
    · rw [if_neg e, if_neg (by simpa using e)]
theorem supp4 {a : M} (h : Sm a) : suppM a = (if 0 < a 0 then 1 else 0) + (if 0 < a 1 then 2 else 0) + (if 0 < a 2 then 4 else 0) + (if 0 < a 3 then 8 else 0) := by
  have h1 : suppM a = suppTo a 4 := supp_zero (n := 4) (fun j hj => (h j).2.2 hj) 8 (by omega)
  rw [h1]
  simp only [suppTo, p2, show (0 : Nat) < 8 by decide, show (1 : Nat) < 8 by decide, show (2 : Nat) < 8 by decide, show (3 : Nat) < 8 by decide, dif_pos]
  have e0 : a ⟨0, by decide⟩ = a 0 := rfl
  have e1 : a ⟨1, by decide⟩ = a 1 := rfl
  have e2 : a ⟨2, by decide⟩ = a 2 := rfl
  have e3 : a ⟨3, by decide⟩ = a 3 := rfl
  rw [e0, e1, e2, e3]
  omega
theorem supp_bd {a : M} (h : Sm a) : 0 ≤ suppM a ∧ suppM a < 16 := by
  rw [supp4 h]
  repeat' split
  all_goals omega
/-- The variables of a set, as exponents. -/
def primeM (p : Int) : M := fun i => p / (2 : Int) ^ i.val % 2
def indM (a : M) : M := fun i => if 0 < a i then 1 else 0
theorem prime_supp {a : M} (h : Sm a) : primeM (suppM a) = indM a := by
  funext i
  have hb := supp_bd h
  have h4 := (h i).2.2
  match i with
  | 0 => show suppM a / 1 % 2 = _; rw [supp4 h]; unfold indM; (repeat' split) <;> omega
  | 1 => show suppM a / 2 % 2 = _; rw [supp4 h]; unfold indM; (repeat' split) <;> omega
  | 2 => show suppM a / 4 % 2 = _; rw [supp4 h]; unfold indM; (repeat' split) <;> omega
  | 3 => show suppM a / 8 % 2 = _; rw [supp4 h]; unfold indM; (repeat' split) <;> omega
  | 4 => show suppM a / 16 % 2 = _; have := h4 (by decide); unfold indM; rw [if_neg (by omega)]; omega
  | 5 => show suppM a / 32 % 2 = _; have := h4 (by decide); unfold indM; rw [if_neg (by omega)]; omega
  | 6 => show suppM a / 64 % 2 = _; have := h4 (by decide); unfold indM; rw [if_neg (by omega)]; omega
  | 7 => show suppM a / 128 % 2 = _; have := h4 (by decide); unfold indM; rw [if_neg (by omega)]; omega
theorem prime_sm {p : Int} (h : 0 ≤ p ∧ p < 16) : Sm (primeM p) := fun i => by
  have h2 : 0 ≤ primeM p i ∧ primeM p i < 2 := ⟨Int.emod_nonneg _ (by omega), Int.emod_lt_of_pos _ (by omega)⟩
  refine ⟨h2.1, by omega, fun h4 => ?_⟩
  match i, h4 with
  | 4, _ => show p / 16 % 2 = 0; omega
  | 5, _ => show p / 32 % 2 = 0; omega
  | 6, _ => show p / 64 % 2 = 0; omega
  | 7, _ => show p / 128 % 2 = 0; omega
theorem prime_one (p : Int) (i : Fin 8) : 0 ≤ primeM p i ∧ primeM p i ≤ 1 := by
  have h2 : 0 ≤ primeM p i ∧ primeM p i < 2 := ⟨Int.emod_nonneg _ (by omega), Int.emod_lt_of_pos _ (by omega)⟩
  omega
theorem embC_fin : ∀ q p : Fin 16, embC (q.val : Int) (p.val : Int) = (decide ((q.val : Int) ≠ (p.val : Int)) && decide (∀ i : Fin 8, primeM (q.val : Int) i ≤ primeM (p.val : Int) i)) := by decide +kernel
theorem sub_fin : ∀ q p : Fin 16, (∀ i : Fin 8, primeM (q.val : Int) i ≤ primeM (p.val : Int) i) → q.val ≤ p.val := by decide +kernel
theorem fin16 {p : Int} (h : 0 ≤ p ∧ p < 16) : ∃ k : Fin 16, (k.val : Int) = p := ⟨⟨p.toNat, by omega⟩, by simp; omega⟩
theorem embC_iff {q p : Int} (hq : 0 ≤ q ∧ q < 16) (hp : 0 ≤ p ∧ p < 16) : embC q p = true ↔ q ≠ p ∧ ∀ i, primeM q i ≤ primeM p i := by
  obtain ⟨q, rfl⟩ := fin16 hq
  obtain ⟨p, rfl⟩ := fin16 hp
  rw [embC_fin, Bool.and_eq_true, decide_eq_true_eq, decide_eq_true_eq]
theorem sub_lt {q p : Int} (hq : 0 ≤ q ∧ q < 16) (hp : 0 ≤ p ∧ p < 16) (h : ∀ i, primeM q i ≤ primeM p i) (hne : q ≠ p) : q < p := by
  obtain ⟨q, rfl⟩ := fin16 hq
  obtain ⟨p, rfl⟩ := fin16 hp
  have := sub_fin q p h
  omega
theorem prime_mono {q p : Int} {t : M} (h : ∀ i, primeM q i ≤ primeM p i) (hq : irrIn (primeM q) t) : irrIn (primeM p) t := by
  obtain ⟨i, h1, h2⟩ := hq
  have h3 := h i
  have h4 := prime_one p i
  exact ⟨i, by omega, by omega⟩
theorem nodup_range {l : List Int} (lo : Int) (n : Nat) (hn : l.Nodup) (h : ∀ x ∈ l, lo ≤ x ∧ x < lo + n) : l.length ≤ n := by
  have h1 : (l.map fun x => (x - lo).toNat).Nodup := by
    rw [List.Nodup, List.pairwise_map]
    exact hn.imp_of_mem fun {a b} ha hb hab e => hab (by have := h a ha; have := h b hb; omega)
  have := nodup_lt n h1 (fun x hx => by obtain ⟨y, hy, rfl⟩ := List.mem_map.1 hx; have := h y hy; omega)
  simpa using this
theorem primes_mem {l : List M} {p : Int} : p ∈ primesF l ↔ ∃ a ∈ irrF l, suppM a = p := by
  rw [primesF, (sortI_perm _).mem_iff, partsF, parts_keys]
  simp
theorem primes_nodup (l : List M) : (primesF l).Nodup := (sortI_perm _).nodup_iff.2 (parts_nodup _ _ (by simp))
theorem supp_zero_iff {a : M} (h : Sm a) (h0 : suppM a = 0) : a = zeroM := by
  have h1 := prime_supp h
  rw [h0] at h1
  funext i
  have h2 := congrFun h1 i
  have h3 : primeM 0 i = 0 := by simp [primeM]
  rw [h3] at h2
  unfold indM at h2
  split at h2
  · omega
  · have := (h i).1
    show a i = 0
    omega
namespace Inp
variable {l : List M} {n : Nat} (h : Inp l n)
include h
theorem pbd {p : Int} (hp : p ∈ primesF l) : 0 ≤ p ∧ p < 16 := by
  obtain ⟨a, ha, rfl⟩ := primes_mem.1 hp
  exact supp_bd (h.irrSm a ha)
theorem keys15 : (partsF l).length ≤ 15 := by
  have hn := parts_nodup (irrF l) [] (by simp)
  have hk : ∀ p, p ∈ (partsF l).map (·.1) ↔ ∃ a ∈ irrF l, suppM a = p := fun p => by rw [partsF, parts_keys]; simp
  have hlen : (partsF l).length = ((partsF l).map (·.1)).length := by simp
  rw [hlen]
  by_cases h0 : (0 : Int) ∈ (partsF l).map (·.1)
  · obtain ⟨a, ha, hs⟩ := (hk 0).1 h0
    have hz := supp_zero_iff (h.irrSm a ha) hs
    subst hz
    have := nodup_range (l := (partsF l).map (·.1)) 0 1 hn (fun x hx => by
      obtain ⟨b, hb, rfl⟩ := (hk x).1 hx
      have e := h.ok.anti b hb zeroM ha (fun i hi => by simp [zeroM] at hi)
      rw [e, hs]; omega)
    omega
  · exact nodup_range 1 15 hn (fun x hx => by
      obtain ⟨b, hb, rfl⟩ := (hk x).1 hx
      have := supp_bd (h.irrSm b hb)
      have : suppM b ≠ 0 := fun e => h0 (e ▸ hx)
      omega)
theorem fit : Fit l := ⟨h.lb, by have := minimalM_length l; have := h.len; omega, h.wf, by have := h.irrLen; omega, h.keys15⟩
theorem plen : (primesF l).length ≤ 15 := by
  have := (sortI_perm ((partsF l).map (·.1))).length_eq
  have := h.keys15
  simp [primesF] at *; omega
theorem primes : (components_Primes l (n : Int)).Ret (primesF l, 0) := by
  have := Primes_ret h.lb (n := (n : Int)) (fun _ => h.fit)
  rwa [if_pos h.check] at this
theorem embedded : (components_Embedded l (n : Int)).Ret (embF (primesF l), 0) := by
  have := Embedded_ret h.lb (n := (n : Int)) (fun _ => h.fit)
  rwa [if_pos h.check] at this
/-- The radical is the intersection of the associated primes. -/
theorem rad_in {t : M} (ht : Nn t) : inM t (radF l) = true ↔ ∀ p ∈ primesF l, irrIn (primeM p) t := by
  have h1 : inM t (radF l) = inM t (l.map radM) := (inM_minimal _ _).symm
  let t' : M := fun i => if 0 < t i then 3 else 0
  have ht' : Nn t' := fun i => by show 0 ≤ (if 0 < t i then (3 : Int) else 0); split <;> omega
  have h2 : inM t (l.map radM) = true ↔ ∃ g ∈ l, dvdM g t' := by
    rw [inM_iff]
    have key : ∀ g ∈ l, dvdM (radM g) t ↔ dvdM g t' := fun g hg => forall_congr' fun i => by
      have h2 := h.sm g hg i
      have h3 := ht i
      unfold Qs at h2
      show (if 1 < g i then (1 : Int) else g i) ≤ t i ↔ g i ≤ (if 0 < t i then (3 : Int) else 0)
      split <;> split <;> omega
    constructor
    · rintro ⟨d, hd, hdt⟩
      obtain ⟨g, hg, rfl⟩ := List.mem_map.1 hd
      exact ⟨g, hg, (key g hg).1 hdt⟩
    · rintro ⟨g, hg, hd⟩
      exact ⟨_, List.mem_map.2 ⟨g, hg, rfl⟩, (key g hg).2 hd⟩
  rw [h1, h2, ← h.ok.mem t' ht']
  have h3 : ∀ a ∈ irrF l, irrIn a t' ↔ irrIn (primeM (suppM a)) t := fun a ha => by
    rw [prime_supp (h.irrSm a ha)]
    refine exists_congr fun i => ?_
    have h4 := h.irrSm a ha i
    have h5 := ht i
    unfold Qs at h4
    show 0 < a i ∧ a i ≤ (if 0 < t i then (3 : Int) else 0) ↔ 0 < (if 0 < a i then (1 : Int) else 0) ∧ (if 0 < a i then (1 : Int) else 0) ≤ t i
    split <;> split <;> omega
  constructor
  · intro hall p hp
    obtain ⟨a, ha, rfl⟩ := primes_mem.1 hp
    exact (h3 a ha).1 (hall a ha)
  · intro hall a ha
    exact (h3 a ha).2 (hall _ (primes_mem.2 ⟨a, ha, rfl⟩))
/-- Each associated prime contains one that is not embedded. -/
theorem least_prime : ∀ (k : Nat) {p : Int}, p ∈ primesF l → p.toNat ≤ k → ∃ q ∈ primesF l, ((primesF l).any fun r => embC r q) = false ∧ ∀ i, primeM q i ≤ primeM p i := by
  intro k
  induction k with
  | zero =>
    intro p hp hk
    refine ⟨p, hp, ?_, fun i => Int.le_refl _⟩
    rw [Bool.eq_false_iff]
    intro he
    obtain ⟨r, hr, hc⟩ := List.any_eq_true.1 he
    obtain ⟨h1, h2⟩ := (embC_iff (h.pbd hr) (h.pbd hp)).1 hc
    have := sub_lt (h.pbd hr) (h.pbd hp) h2 h1
    have := (h.pbd hr).1
    omega
  | succ k ih =>
    intro p hp hk
    cases he : (primesF l).any fun r => embC r p with
    | false => exact ⟨p, hp, he, fun i => Int.le_refl _⟩
    | true =>
      obtain ⟨r, hr, hc⟩ := List.any_eq_true.1 he
      obtain ⟨h1, h2⟩ := (embC_iff (h.pbd hr) (h.pbd hp)).1 hc
      have hlt := sub_lt (h.pbd hr) (h.pbd hp) h2 h1
      have := (h.pbd hr).1
      obtain ⟨q, hq, h3, h4⟩ := ih hr (by omega)
      exact ⟨q, hq, h3, fun i => Int.le_trans (h4 i) (h2 i)⟩
theorem rad_eq : meetAll (((primesF l).filter fun p => !(primesF l).any fun r => embC r p).map primeM) = radF l := by
  refine minimal_eq (meetAll_min _) (minimal_idem _) (fun x hx i => (meetAll_ind (Q := Qs) (fun i => ⟨by omega, by omega, fun _ => rfl⟩) _ (fun a ha => ?_) x hx i).1) (fun y hy i => ?_) fun t ht => ?_
  · obtain ⟨p, hp, rfl⟩ := List.mem_map.1 ha
    exact prime_sm (h.pbd (List.mem_filter.1 hp).1)
  · obtain ⟨g, hg, rfl⟩ := List.mem_map.1 (minimalM_mem.1 hy).1
    have := (h.sm g hg i).1
    unfold radM; split <;> omega
  · rw [Bool.eq_iff_iff, meetAll_in ht, h.rad_in ht]
    constructor
    · intro hall p hp
      obtain ⟨q, hq, h1, h2⟩ := h.least_prime _ hp (Nat.le_refl _)
      exact prime_mono h2 (hall _ (List.mem_map.2 ⟨q, List.mem_filter.2 ⟨hq, by rw [h1]; rfl⟩, rfl⟩))
    · intro hall a ha
      obtain ⟨p, hp, rfl⟩ := List.mem_map.1 ha
      exact hall p (List.mem_filter.1 hp).1
end Inp
theorem prime_ret {p : Int} (hp : 0 ≤ p ∧ p < 16) : (law21_prime p).Ret (gensM (primeM p)) := by
  refine Comp.loop_idx 8 (fun k s => s = ((k : Int), mixM k (primeM p) zeroM)) (fun k s hk hs => ?_) (fun s hs => ?_) (by rw [mix_zero]; rfl)
  · subst hs
    show (if (k : Int) < 8 then _ else _ : Comp _).wp _
    rw [Comp.wp_ite, if_pos (by omega)]
    refine ⟨by omega, by omega, ?_⟩
    show _ = _
    have e : Int.tmod (Int.fdiv (IntKind.i64.wrap p) (2 ^ (min (k : Int).toNat IntKind.i64.bits))) 2 = primeM p ⟨k, hk⟩ := by
      rw [wrap64 (by omega)]
      have h1 : min (k : Int).toNat IntKind.i64.bits = k := by
        have : IntKind.i64.bits = 64 := rfl
        omega
      rw [h1, Int.fdiv_eq_ediv_of_nonneg p (Int.pow_nonneg (by omega)), Int.tmod_eq_emod_of_nonneg (Int.ediv_nonneg hp.1 (Int.pow_nonneg (by omega)))]
      rfl
    rw [wrapN (by omega), e, ← mix_step _ _ hk]
    rfl
  · subst hs
    show (if ((8 : Nat) : Int) < 8 then _ else _ : Comp _).wp _
    rw [Comp.wp_ite, if_neg (by omega), mix_all _ _ (by omega)]
    exact ⟨_, R21_Gens_ret _, rfl⟩
theorem rad_L4 {ps : List Int} {e0 : Int} (hn : ps.Nodup) (hl : ps.length ≤ 1000) {i : Nat} (hi : i < ps.length) : (law21_ComponentsRadicals_L4 (ps, e0) (i : Int) (false, 0)).Ret (ps.any fun q => embC q ps[i]) := by
  refine Comp.loop_idx ps.length (fun k s => s = ((ps.take k).any (fun q => embC q ps[i]), (k : Int))) (fun k s hk hs => ?_) (fun s hs => ?_) rfl
  · subst hs
    have ht : (ps.take (k + 1)).any (fun q => embC q ps[i]) = ((ps.take k).any (fun q => embC q ps[i]) || embC ps[k] ps[i]) := by
      rw [← List.take_append_getElem hk, List.any_append]; simp
    show (if (k : Int) < (ps.length : Int) then _ else _ : Comp _).wp _
    rw [Comp.wp_ite, if_pos (by omega), Comp.wp_ite]
    split
    · rename_i hb
      show _ = _
      rw [ht, hb, wrapN (by omega)]; rfl
    · rename_i hb
      have hb : (ps.take k).any (fun q => embC q ps[i]) = false := by simpa using hb
      rw [Comp.wp_ite]
      split
      · rename_i hne
        have hki : k ≠ i := fun e => hne (by rw [e])
        have hpe : ps[k] ≠ ps[i] := nodup_at hn (List.getElem?_eq_getElem hk) (List.getElem?_eq_getElem hi) hki
        have he : embC ps[k] ps[i] = decide (IntKind.u8.wrap (BitVec.ofInt IntKind.u8.bits ps[k] &&& ~~~ BitVec.ofInt IntKind.u8.bits ps[i]).toNat = 0) := by unfold embC; rw [if_pos hpe]
        refine ⟨ps[k], idxN hk, ps[i], idxN hi, ?_⟩
        rw [Comp.wp_ite]
        split
        · rename_i hc
          show _ = _
          rw [ht, hb, he, decide_eq_true hc, wrapN (by omega)]; rfl
        · rename_i hc
          show _ = _
          rw [ht, hb, he, decide_eq_false hc, wrapN (by omega)]; rfl
      · rename_i hne
        have hki : k = i := by have : (k : Int) = (i : Int) := by simpa using hne
                               omega
        subst hki
        have he : embC ps[k] ps[k] = false := by unfold embC; simp
        show _ = _
        rw [ht, hb, he, wrapN (by omega)]; rfl
  · subst hs
    show (if ((ps.length : Nat) : Int) < (ps.length : Int) then _ else _ : Comp _).wp _
    rw [Comp.wp_ite, if_neg (by omega), List.take_length]
    rfl
theorem filter_at {α : Type} (f : α → Bool) (l : List α) {i : Nat} (hi : i < l.length) (hf : f l[i] = true) : (l.filter f)[((l.take i).filter f).length]? = some l[i] ∧ ((l.take i).filter f).length < (l.filter f).length := by
  have e : l.filter f = (l.take i).filter f ++ l[i] :: (l.drop (i + 1)).filter f := by
    conv => lhs; rw [← List.take_append_drop i l, List.drop_eq_getElem_cons hi]
    rw [List.filter_append, List.filter_cons, if_pos hf]
  rw [e]
  exact ⟨by simp, by simp⟩
theorem rad_law_ret {x : T_law21_Input} (hn : 0 ≤ x.n ∧ x.n ≤ 255) (hx : U8s x.l) : (law21_ComponentsRadicals x).Ret true := by
  have hv := (vars_eq hn).2
  have hi : Inp (madeF x.l (varsF x) 4 3) (varsF x) := inp_made hx hv (by omega)
  have made := made_ret hn hx
  revert hi made
  generalize madeF x.l (varsF x) 4 3 = l
  intro hi made
  have hpl := hi.plen
  refine ⟨true, sanity_ret, ?_⟩
  rw [Comp.wp_ite, if_neg (by simp)]
  refine ⟨_, made, _, vars_ret hn, _, hi.primes, _, vars_ret hn, _, hi.embedded, ?_⟩
  rw [Comp.wp_ite, if_neg (by simp), Comp.wp_ite, if_neg (by simp)]
  have hsm : ∀ k, ∀ a ∈ ((((primesF l).take k).filter fun p => !(primesF l).any fun r => embC r p).map primeM), Sm a := fun k a ha => by
    obtain ⟨p, hp, rfl⟩ := List.mem_map.1 ha
    exact prime_sm (hi.pbd (List.mem_of_mem_take (List.mem_filter.1 hp).1))
  refine Comp.wp_next.2 (Comp.loop_idx (primesF l).length (fun k s => s = (meetAll ((((primesF l).take k).filter fun p => !(primesF l).any fun r => embC r p).map primeM), ((((primesF l).take k).filter fun p => (primesF l).any fun r => embC r p).length : Int), (k : Int))) (fun k s hk hs => ?_) (fun s hs => ?_) rfl)
  · subst hs
    have htk : (primesF l).take (k + 1) = (primesF l).take k ++ [(primesF l)[k]] := (List.take_append_getElem hk).symm
    have hfl : ((((primesF l).take k).filter fun p => (primesF l).any fun r => embC r p).length) ≤ 15 := by
      have := List.length_filter_le (fun p => (primesF l).any fun r => embC r p) ((primesF l).take k)
      simp at this; omega
    show (if (k : Int) < ((primesF l).length : Int) then _ else _ : Comp _).wp _
    rw [Comp.wp_ite, if_pos (by omega)]
    refine Comp.wp_next.2 ((rad_L4 (primes_nodup l) (by omega) hk).then ?_)
    show (if ((primesF l).any fun q => embC q (primesF l)[k]) = true then _ else _ : Comp _).wp _
    rw [Comp.wp_ite]
    cases he : (primesF l).any fun q => embC q (primesF l)[k] with
    | true =>
      rw [if_pos rfl]
      obtain ⟨f1, f2⟩ := filter_at (fun p => (primesF l).any fun r => embC r p) (primesF l) hk he
      have hle : ¬ ((embF (primesF l)).length : Int) ≤ ((((primesF l).take k).filter fun p => (primesF l).any fun r => embC r p).length : Int) := by
        unfold embF; omega
      rw [Comp.wp_ite, if_neg hle]
      refine ⟨(primesF l)[k], ⟨by omega, f1⟩, (primesF l)[k], idxN hk, ?_⟩
      rw [Comp.wp_ite, if_neg (by simp)]
      show _ = _
      rw [wrapN (by omega), wrapN (by omega), htk, List.filter_append, List.filter_append, List.filter_cons, List.filter_cons, he]
      simp
    | false =>
      rw [if_neg (by simp)]
      have hb := hi.pbd (List.getElem_mem hk)
      have h1 := meetAll_few (hsm k)
      have h2 := splitTo_length zeroM (primeM (primesF l)[k]) 8
      have h3 := Nat.mul_le_mul h1 h2
      refine ⟨(primesF l)[k], idxN hk, _, prime_ret hb, _, R21_Meet_ret (by unfold gensM; omega) (by omega) (by unfold gensM; omega), ?_⟩
      show _ = _
      rw [wrapN (by omega), htk, List.filter_append, List.filter_append, List.filter_cons, List.filter_cons, he]
      simp only [Bool.not_false, if_true, List.filter_nil, Bool.false_eq_true, if_false, List.append_nil, List.map_append, List.map_cons, List.map_nil]
      rw [meetAll_snoc]
  · subst hs
    show (if (((primesF l).length : Nat) : Int) < ((primesF l).length : Int) then _ else _ : Comp _).wp _
    rw [Comp.wp_ite, if_neg (by omega), List.take_length, hi.rad_eq]
    show (if _ = _ then _ else _ : Comp _).wp _
    rw [Comp.wp_ite, if_pos (by rfl)]
    have lbr : Lb (radF l) := by have := minimalM_length (l.map radM); have := hi.len; unfold Lb radF; simp at *; omega
    refine ⟨_, Radical_ret hi.lb, true, Same_self lbr rfl, ?_⟩
    rfl
end Go.EL
/- The law ComponentsPrimes on the models. The conditions stand in each statement. -/
namespace Go.EL
open Go
theorem R04_Bit_ret {i : Nat} (hi : i < 8) : (R04_Bit (i : Int)).Ret (p2 i) := by
  refine Comp.loop_idx i (fun k s => s = (p2 k, (k : Int))) (fun k s hk hs => ?_) (fun s hs => ?_) rfl
  · subst hs
    show (if (k : Int) < (i : Int) then _ else _ : Comp _).wp _
    have := p2_lt (k := k) (by omega)
    rw [Comp.wp_ite, if_pos (by omega)]
    show _ = _
    rw [wrapN (by omega), wrap64 (by omega)]; rfl
  · subst hs
    show (if (i : Int) < (i : Int) then _ else _ : Comp _).wp _
    rw [Comp.wp_ite, if_neg (by omega)]
    exact p2_wrap hi
theorem R04_Support_ret (m : M) : (R04_Support m).Ret (suppM m) := by
  refine Comp.loop_idx 8 (fun k s => s = (suppTo m k, (k : Int))) (fun k s hk hs => ?_) (fun s hs => ?_) rfl
  · subst hs
    have h1 := suppTo_lt m k
    show (if (k : Int) < 8 then _ else _ : Comp _).wp _
    rw [Comp.wp_ite, if_pos (by omega)]
    refine ⟨by omega, ?_⟩
    rw [Comp.wp_ite, getFN hk]
    split
    · rename_i hp
      refine ⟨_, R04_Bit_ret hk, ?_⟩
      show _ = _
      rw [wrapN (by omega), add_p2 hk h1.1 h1.2, suppTo_yes m hk hp]
    · rename_i hp
      show _ = _
      rw [wrapN (by omega), suppTo_no m hk hp]
  · subst hs
    show (if ((8 : Nat) : Int) < 8 then _ else _ : Comp _).wp _
    rw [Comp.wp_ite, if_neg (by omega)]
    rfl
theorem R04_Gcd_ret (a b : M) : (R04_Gcd a b).Ret (minM a b) := by
  refine Comp.loop_idx 8 (fun k s => s = ((k : Int), mixM k (minM a b) a)) (fun k s hk hs => ?_) (fun s hs => ?_) (by rw [mix_zero]; rfl)
  · subst hs
    show (if (k : Int) < 8 then _ else _ : Comp _).wp _
    rw [Comp.wp_ite, if_pos (by omega)]
    refine ⟨by omega, by omega, by omega, ?_⟩
    show _ = _
    rw [wrapN (by omega), getFN hk, getFN hk, mix_at _ _ hk, ← mix_step _ _ hk]
    rfl
  · subst hs
    show (if ((8 : Nat) : Int) < 8 then _ else _ : Comp _).wp _
    rw [Comp.wp_ite, if_neg (by omega), mix_all _ _ (by omega)]
    rfl
def subM (a b : M) : M := fun i => a i - b i
theorem R04_Quo_ret {a b : M} (h : dvdM b a) (hb : ∀ i, -1000000 ≤ a i - b i ∧ a i - b i ≤ 1000000) : (R04_Quo a b).Ret (subM a b, true) := by
  refine ⟨_, R04_Divides_ret b a, ?_⟩
  rw [decide_eq_true h, Comp.wp_ite, if_neg (by simp)]
  refine Comp.wp_next.2 (Comp.loop_idx 8 (fun k s => s = ((k : Int), mixM k (subM a b) a)) (fun k s hk hs => ?_) (fun s hs => ?_) (by rw [mix_zero]; rfl))
  · subst hs
    show (if (k : Int) < 8 then _ else _ : Comp _).wp _
    rw [Comp.wp_ite, if_pos (by omega)]
    refine ⟨by omega, by omega, by omega, ?_⟩
    have := hb ⟨k, hk⟩
    show _ = _
    rw [wrapN (by omega), getFN hk, getFN hk, mix_at _ _ hk, wrap64 (by omega), ← mix_step _ _ hk]
    rfl
  · subst hs
    show (if ((8 : Nat) : Int) < 8 then _ else _ : Comp _).wp _
    rw [Comp.wp_ite, if_neg (by omega), mix_all _ _ (by omega)]
    rfl
/-- The degree in the first k variables. -/
def degTo (a : M) : Nat → Int
  | 0 => 0
  | k + 1 => degTo a k + (if h : k < 8 then a ⟨k, h⟩ else 0)
def degM (a : M) : Int := degTo a 8
theorem degTo_bd {a : M} (h : ∀ i, 0 ≤ a i ∧ a i ≤ 65535) : ∀ k : Nat, 0 ≤ degTo a k ∧ degTo a k ≤ 65535 * k
  | 0 => by simp [degTo]
  | k + 1 => by
    have ih := degTo_bd h k
    simp only [degTo]
    split
    · rename_i hk; have := h ⟨k, hk⟩; omega
    · omega
theorem R04_Degree_ret {m : M} (h : ∀ i, 0 ≤ m i ∧ m i ≤ 65535) : (R04_Degree m).Ret (degM m) := by
  refine Comp.loop_idx 8 (fun k s => s = (degTo m k, (k : Int))) (fun k s hk hs => ?_) (fun s hs => ?_) rfl
  · subst hs
    have h1 := degTo_bd h k
    have h2 := h ⟨k, hk⟩
    show (if (k : Int) < 8 then _ else _ : Comp _).wp _
    rw [Comp.wp_ite, if_pos (by omega)]
    refine ⟨by omega, ?_⟩
    show _ = _
    rw [wrapN (by omega), getFN hk, wrap64 (by omega), degTo, dif_pos hk]
  · subst hs
    show (if ((8 : Nat) : Int) < 8 then _ else _ : Comp _).wp _
    rw [Comp.wp_ite, if_neg (by omega)]
    rfl
/-- What is left of a generator. -/
def colM (t g : M) : M := subM g (minM g t)
def colonM (l : List M) (t : M) : List M := minimalM (l.map (colM t))
theorem colM_eq (t g : M) (i : Fin 8) : colM t g i = if t i < g i then g i - t i else 0 := by
  unfold colM subM minM; split <;> omega
theorem colM_sm {t g : M} (ht : Nn t) (hg : Sm g) : Sm (colM t g) := fun i => by
  have h1 := hg i
  have h2 := ht i
  unfold Qs at *
  rw [colM_eq]
  split
  · exact ⟨by omega, by omega, fun h => by have := h1.2.2 h; omega⟩
  · exact ⟨by omega, by omega, fun _ => rfl⟩
theorem Colon_ret {l : List M} {t : M} (hl : l.length ≤ 1000) (hs : ∀ g ∈ l, Sm g) (ht : ∀ i, 0 ≤ t i ∧ t i ≤ 65535) : (R18_Colon l t).Ret (colonM l t) := by
  refine Comp.loop_idx l.length (fun k s => s = ((l.take k).map (colM t), (k : Int))) (fun k s hk hs' => ?_) (fun s hs' => ?_) rfl
  · subst hs'
    show (if (k : Int) < (l.length : Int) then _ else _ : Comp _).wp _
    rw [Comp.wp_ite, if_pos (by omega)]
    have hg := hs l[k] (List.getElem_mem hk)
    refine ⟨l[k], idxN hk, l[k], idxN hk, _, R04_Gcd_ret _ _, _, R04_Quo_ret (fun i => ?_) (fun i => ?_), by simp [small]; omega, ?_⟩
    · unfold minM; split <;> omega
    · have h1 := hg i
      have h2 := ht i
      unfold Qs at h1
      unfold minM; split <;> omega
    · show _ = _
      rw [wrapN (by omega), (List.take_append_getElem hk).symm, List.map_append]
      rfl
  · subst hs'
    show (if ((l.length : Nat) : Int) < (l.length : Int) then _ else _ : Comp _).wp _
    rw [Comp.wp_ite, if_neg (by omega), List.take_length]
    exact ⟨_, R04_Minimal_ret (by unfold Lb; simp; omega), rfl⟩
def addM (u t : M) : M := fun i => u i + t i
theorem colon_in {l : List M} {t u : M} (hu : Nn u) : inM u (colonM l t) = true ↔ ∃ g ∈ l, dvdM g (addM u t) := by
  have h1 : inM u (colonM l t) = inM u (l.map (colM t)) := (inM_minimal _ _).symm
  have key : ∀ g : M, dvdM (colM t g) u ↔ dvdM g (addM u t) := fun g => forall_congr' fun i => by
    have := hu i
    rw [colM_eq]
    unfold addM
    split <;> omega
  rw [h1, inM_iff]
  constructor
  · rintro ⟨d, hd, hdu⟩
    obtain ⟨g, hg, rfl⟩ := List.mem_map.1 hd
    exact ⟨g, hg, (key g).1 hdu⟩
  · rintro ⟨g, hg, hd⟩
    exact ⟨_, List.mem_map.2 ⟨g, hg, rfl⟩, (key g).2 hd⟩
theorem or_fin : ∀ q p : Fin 16, (0 ≤ IntKind.u8.wrap (BitVec.ofInt IntKind.u8.bits (q.val : Int) ||| BitVec.ofInt IntKind.u8.bits (p.val : Int)).toNat ∧ IntKind.u8.wrap (BitVec.ofInt IntKind.u8.bits (q.val : Int) ||| BitVec.ofInt IntKind.u8.bits (p.val : Int)).toNat < 16) ∧ ∀ i : Fin 8, primeM (IntKind.u8.wrap (BitVec.ofInt IntKind.u8.bits (q.val : Int) ||| BitVec.ofInt IntKind.u8.bits (p.val : Int)).toNat) i = max (primeM (q.val : Int) i) (primeM (p.val : Int) i) := by decide +kernel
def orI (q p : Int) : Int := IntKind.u8.wrap (BitVec.ofInt IntKind.u8.bits q ||| BitVec.ofInt IntKind.u8.bits p).toNat
theorem or_spec {q p : Int} (hq : 0 ≤ q ∧ q < 16) (hp : 0 ≤ p ∧ p < 16) : (0 ≤ orI q p ∧ orI q p < 16) ∧ ∀ i, primeM (orI q p) i = max (primeM q i) (primeM p i) := by
  obtain ⟨q, rfl⟩ := fin16 hq
  obtain ⟨p, rfl⟩ := fin16 hp
  exact or_fin q p
def orF (C : List M) : Int := C.foldl (fun s c => orI s (suppM c)) 0
theorem orF_snoc (T : List M) (a : M) : orF (T ++ [a]) = orI (orF T) (suppM a) := by unfold orF; rw [List.foldl_append]; rfl
theorem orF_spec : ∀ C : List M, (∀ c ∈ C, Sm c) → (0 ≤ orF C ∧ orF C < 16) ∧ ∀ i, (0 < primeM (orF C) i ↔ ∃ c ∈ C, 0 < c i) := snoc_ind (fun _ => ⟨by decide, fun i => by simp [orF, primeM]⟩) fun T a ih h => by
  obtain ⟨h1, h2⟩ := ih fun c hc => h c (by simp [hc])
  have ha := h a (by simp)
  rw [orF_snoc]
  obtain ⟨h3, h4⟩ := or_spec h1 (supp_bd ha)
  refine ⟨h3, fun i => ?_⟩
  have h5 : 0 < primeM (suppM a) i ↔ 0 < a i := by rw [prime_supp ha]; unfold indM; split <;> omega
  have h6 := h2 i
  have h7 : 0 < max (primeM (orF T) i) (primeM (suppM a) i) ↔ 0 < primeM (orF T) i ∨ 0 < primeM (suppM a) i := by omega
  rw [h4, h7, h5, h6]
  constructor
  · rintro (⟨c, hc, h⟩ | h)
    · exact ⟨c, by simp [hc], h⟩
    · exact ⟨a, by simp, h⟩
  · rintro ⟨c, hc, h8⟩
    rcases List.mem_append.1 hc with hc | hc
    · exact .inl ⟨c, hc, h8⟩
    · simp at hc; subst hc; exact .inr h8
/-- Sets below 16 with the same variables are the same. -/
theorem prime_fin : ∀ q p : Fin 16, (∀ i : Fin 8, primeM (q.val : Int) i = primeM (p.val : Int) i) → q = p := by decide +kernel
theorem prime_inj {q p : Int} (hq : 0 ≤ q ∧ q < 16) (hp : 0 ≤ p ∧ p < 16) (h : ∀ i, (0 < primeM q i ↔ 0 < primeM p i)) : q = p := by
  obtain ⟨q, rfl⟩ := fin16 hq
  obtain ⟨p, rfl⟩ := fin16 hp
  rw [prime_fin q p fun i => ?_]
  have h1 := prime_one (q.val : Int) i
  have h2 := prime_one (p.val : Int) i
  have h3 := h i
  omega
theorem all_mem : ∀ {n : Nat} {m : M}, n ≤ 8 → (∀ j, 0 ≤ m j ∧ m j ≤ 4) → (∀ j : Fin 8, n ≤ j.val → m j = 0) → m ∈ allF n
  | 0, m, _, _, h => by
    have : m = zeroM := funext fun j => h j (Nat.zero_le _)
    subst this; simp [allF]
  | n + 1, m, hn, hb, h => by
    have hn' : n < 8 := by omega
    simp only [allF, stepF, List.mem_flatMap, List.mem_map, List.mem_range]
    have hbn := hb ⟨n, hn'⟩
    refine ⟨setF m n 0, all_mem (by omega) (fun j => ?_) (fun j hj => ?_), (m ⟨n, hn'⟩).toNat, by omega, ?_⟩
    · unfold setF; split
      · omega
      · exact hb j
    · unfold setF; split
      · rfl
      · exact h j (by omega)
    · funext j
      unfold setF
      by_cases e : j.val = n
      · rw [if_pos e]
        have : j = ⟨n, hn'⟩ := Fin.ext e
        subst this
        omega
      · rw [if_neg e, if_neg e]
theorem all_zero : ∀ {n : Nat} {m : M}, m ∈ allF n → ∀ j : Fin 8, n ≤ j.val → m j = 0
  | 0, m, h, j, _ => by simp [allF] at h; subst h; rfl
  | n + 1, m, h, j, hj => by
    simp only [allF, stepF, List.mem_flatMap, List.mem_map, List.mem_range] at h
    obtain ⟨a, ha, e, he, rfl⟩ := h
    unfold setF
    rw [if_neg (by omega)]
    exact all_zero ha j (by omega)
theorem deg_one {c : M} (h : Nn c) (hd : degM c = 1) : ∃ i, c i = 1 ∧ ∀ j, j ≠ i → c j = 0 := by
  have h0 := h 0; have h1 := h 1; have h2 := h 2; have h3 := h 3; have h4 := h 4; have h5 := h 5; have h6 := h 6; have h7 := h 7
  have e : degM c = c 0 + c 1 + c 2 + c 3 + c 4 + c 5 + c 6 + c 7 := by
    show 0 + c 0 + c 1 + c 2 + c 3 + c 4 + c 5 + c 6 + c 7 = _
    omega
  rw [e] at hd
  have hx : ∃ i, 0 < c i := by
    apply Classical.byContradiction
    intro hn
    have g : ∀ i, ¬ 0 < c i := fun i hi => hn ⟨i, hi⟩
    have := g 0; have := g 1; have := g 2; have := g 3; have := g 4; have := g 5; have := g 6; have := g 7
    omega
  obtain ⟨i, hi⟩ := hx
  refine ⟨i, ?_, fun j hj => ?_⟩
  · match i, hi with
    | 0, _ => omega
    | 1, _ => omega
    | 2, _ => omega
    | 3, _ => omega
    | 4, _ => omega
    | 5, _ => omega
    | 6, _ => omega
    | 7, _ => omega
  · have hsum : ∀ i j : Fin 8, i ≠ j → c i + c j ≤ c 0 + c 1 + c 2 + c 3 + c 4 + c 5 + c 6 + c 7 := by
      intro i j hij
      match i, j, hij with
      | 0, 0, h | 1, 1, h | 2, 2, h | 3, 3, h | 4, 4, h | 5, 5, h | 6, 6, h | 7, 7, h => exact absurd rfl h
      | 0, 1, _ | 0, 2, _ | 0, 3, _ | 0, 4, _ | 0, 5, _ | 0, 6, _ | 0, 7, _ => omega
      | 1, 0, _ | 1, 2, _ | 1, 3, _ | 1, 4, _ | 1, 5, _ | 1, 6, _ | 1, 7, _ => omega
      | 2, 0, _ | 2, 1, _ | 2, 3, _ | 2, 4, _ | 2, 5, _ | 2, 6, _ | 2, 7, _ => omega
      | 3, 0, _ | 3, 1, _ | 3, 2, _ | 3, 4, _ | 3, 5, _ | 3, 6, _ | 3, 7, _ => omega
      | 4, 0, _ | 4, 1, _ | 4, 2, _ | 4, 3, _ | 4, 5, _ | 4, 6, _ | 4, 7, _ => omega
      | 5, 0, _ | 5, 1, _ | 5, 2, _ | 5, 3, _ | 5, 4, _ | 5, 6, _ | 5, 7, _ => omega
      | 6, 0, _ | 6, 1, _ | 6, 2, _ | 6, 3, _ | 6, 4, _ | 6, 5, _ | 6, 7, _ => omega
      | 7, 0, _ | 7, 1, _ | 7, 2, _ | 7, 3, _ | 7, 4, _ | 7, 5, _ | 7, 6, _ => omega
    have := hsum i j (fun e => hj e.symm)
    have := h j
    omega
theorem deg_unit : ∀ i : Fin 8, degM (setF zeroM i.val 1) = 1 := by decide +kernel
def isF (C : List M) : Bool := C.all fun c => decide (degM c = 1)
namespace Inp
variable {l : List M} {n : Nat} (h : Inp l n)
include h
theorem colon_sm {t : M} (ht : Nn t) : ∀ c ∈ colonM l t, Sm c := fun c hc => by
  obtain ⟨g, hg, rfl⟩ := List.mem_map.1 (minimalM_mem.1 hc).1
  exact colM_sm ht (h.sm g hg)
/-- A prime quotient belongs to a component. -/
theorem colon_prime {t : M} (ht : Nn t) (hC : isF (colonM l t) = true) : orF (colonM l t) ∈ primesF l := by
  have hsm := h.colon_sm ht
  obtain ⟨hb, hor⟩ := orF_spec _ hsm
  have hdeg : ∀ c ∈ colonM l t, ∃ i, c i = 1 ∧ ∀ j, j ≠ i → c j = 0 := fun c hc =>
    deg_one (fun i => (hsm c hc i).1) (of_decide_eq_true (List.all_eq_true.1 hC c hc))
  -- the quotient in terms of the set
  have hin : ∀ u, Nn u → (inM u (colonM l t) = true ↔ ∃ i, 0 < primeM (orF (colonM l t)) i ∧ 0 < u i) := fun u hu => by
    rw [inM_iff]
    constructor
    · rintro ⟨c, hc, hd⟩
      obtain ⟨i, h1, h2⟩ := hdeg c hc
      exact ⟨i, (hor i).2 ⟨c, hc, by omega⟩, by have := hd i; omega⟩
    · rintro ⟨i, h1, h2⟩
      obtain ⟨c, hc, h3⟩ := (hor i).1 h1
      obtain ⟨k, h4, h5⟩ := hdeg c hc
      have hk : i = k := Classical.byContradiction fun e => by have := h5 i e; omega
      subst hk
      refine ⟨c, hc, fun j => ?_⟩
      by_cases e : j = i
      · subst e; omega
      · rw [h5 j e]; exact hu j
  have hmem : ∀ u, Nn u → (inM u (colonM l t) = true ↔ ∀ a ∈ irrF l, irrIn a (addM u t)) := fun u hu => by
    rw [colon_in hu, h.ok.mem (addM u t) (fun i => by have := hu i; have := ht i; unfold addM; omega)]
  -- a component within the set
  have hex : ∃ a ∈ irrF l, ¬ irrIn a t ∧ ∀ i, 0 < a i → 0 < primeM (orF (colonM l t)) i := by
    apply Classical.byContradiction
    intro hno
    let u : M := fun i => if 0 < primeM (orF (colonM l t)) i then 0 else 3
    have hu : Nn u := fun i => by show 0 ≤ (if 0 < primeM (orF (colonM l t)) i then (0 : Int) else 3); split <;> omega
    have h1 : inM u (colonM l t) = true := (hmem u hu).2 fun a ha => by
      by_cases hat : irrIn a t
      · obtain ⟨i, h1, h2⟩ := hat
        exact ⟨i, h1, by have := hu i; unfold addM; omega⟩
      · have : ∃ i, 0 < a i ∧ ¬ 0 < primeM (orF (colonM l t)) i := Classical.byContradiction fun hn => hno ⟨a, ha, hat, fun i hi => Classical.byContradiction fun hp => hn ⟨i, hi, hp⟩⟩
        obtain ⟨i, h1, h2⟩ := this
        refine ⟨i, h1, ?_⟩
        have h3 := (h.irrSm a ha i).2.1
        have h4 := ht i
        show a i ≤ (if 0 < primeM (orF (colonM l t)) i then (0 : Int) else 3) + t i
        rw [if_neg h2]; omega
    obtain ⟨i, h2, h3⟩ := (hin u hu).1 h1
    have h4 : u i = 0 := by show (if 0 < primeM (orF (colonM l t)) i then (0 : Int) else 3) = 0; rw [if_pos h2]
    omega
  obtain ⟨a, ha, hat, hsub⟩ := hex
  refine primes_mem.2 ⟨a, ha, prime_inj (supp_bd (h.irrSm a ha)) hb fun i => ?_⟩
  have h5 : 0 < primeM (suppM a) i ↔ 0 < a i := by rw [prime_supp (h.irrSm a ha)]; unfold indM; split <;> omega
  rw [h5]
  refine ⟨hsub i, fun hi => ?_⟩
  -- x_i lies in the quotient
  have hu : Nn (setF zeroM i.val 1) := fun j => by unfold setF zeroM; split <;> omega
  have h6 := (hmem _ hu).1 ((hin _ hu).2 ⟨i, hi, by rw [setF_at]; omega⟩) a ha
  obtain ⟨j, h7, h8⟩ := h6
  by_cases e : j = i
  · subst e; exact h7
  · exfalso
    apply hat
    refine ⟨j, h7, ?_⟩
    unfold addM at h8
    rw [setF_ne e] at h8
    have : zeroM j = 0 := rfl
    omega
/-- Each component has a prime quotient. -/
theorem prime_colon {p : Int} (hp : p ∈ primesF l) : ∃ t ∈ allF n, isF (colonM l t) = true ∧ orF (colonM l t) = p := by
  obtain ⟨a, ha, rfl⟩ := primes_mem.1 hp
  have hsm := h.irrSm a ha
  have hz : ∀ b ∈ irrF l, ∀ j : Fin 8, n ≤ j.val → b j = 0 := fun b hb j hj => irrF_ind (Q := fun i x => n ≤ i.val → x = 0) (fun _ _ => rfl) (fun g hg i hi => h.vars g hg i hi) b hb j hj
  let t : M := fun i => if i.val < n then (if a i = 0 then 3 else a i - 1) else 0
  have ht : ∀ i, 0 ≤ t i ∧ t i ≤ 4 := fun i => by
    have := hsm i; unfold Qs at this
    show 0 ≤ (if i.val < n then (if a i = 0 then (3 : Int) else a i - 1) else 0) ∧ (if i.val < n then (if a i = 0 then (3 : Int) else a i - 1) else 0) ≤ 4
    split
    · split <;> omega
    · omega
  have htn : ∀ j : Fin 8, n ≤ j.val → t j = 0 := fun j hj => by
    show (if j.val < n then (if a j = 0 then (3 : Int) else a j - 1) else 0) = 0
    rw [if_neg (by omega)]
  have hNn : Nn t := fun i => (ht i).1
  have hlt : ∀ i : Fin 8, ∀ b ∈ irrF l, 0 < b i → i.val < n := fun i b hb hi => Nat.lt_of_not_le fun hc => by have := hz b hb i hc; omega
  have hin : ∀ u, Nn u → (inM u (colonM l t) = true ↔ ∃ i, 0 < a i ∧ 0 < u i) := fun u hu => by
    rw [colon_in hu, ← h.ok.mem (addM u t) (fun i => by have := hu i; have := hNn i; unfold addM; omega)]
    constructor
    · intro hall
      obtain ⟨i, h1, h2⟩ := hall a ha
      refine ⟨i, h1, ?_⟩
      have h3 := hlt i a ha h1
      have h4 : t i = a i - 1 := by
        show (if i.val < n then (if a i = 0 then (3 : Int) else a i - 1) else 0) = a i - 1
        rw [if_pos h3, if_neg (by omega)]
      unfold addM at h2
      omega
    · rintro ⟨i, h1, h2⟩ b hb
      by_cases hc : contM a b
      · have e := h.ok.anti a ha b hb hc
        subst e
        have h3 := hlt i a ha h1
        have h4 : t i = a i - 1 := by
          show (if i.val < n then (if a i = 0 then (3 : Int) else a i - 1) else 0) = a i - 1
          rw [if_pos h3, if_neg (by omega)]
        exact ⟨i, h1, by unfold addM; omega⟩
      · have : ∃ i, 0 < b i ∧ ¬ (¬ a i = 0 ∧ a i ≤ b i) := Classical.byContradiction fun hn => hc fun i hi => Classical.byContradiction fun h' => hn ⟨i, hi, h'⟩
        obtain ⟨j, h5, h6⟩ := this
        refine ⟨j, h5, ?_⟩
        have h7 := hlt j b hb h5
        have h8 := (h.irrSm b hb j).2.1
        have h9 := hsm j
        unfold Qs at h9
        have h10 := hu j
        show b j ≤ u j + (if j.val < n then (if a j = 0 then (3 : Int) else a j - 1) else 0)
        rw [if_pos h7]
        split
        · omega
        · rename_i e
          have : ¬ a j ≤ b j := fun q => h6 ⟨e, q⟩
          omega
  -- the generators are variables
  have hunit : ∀ i, 0 < a i → setF zeroM i.val 1 ∈ colonM l t := fun i hi => by
    have hu : Nn (setF zeroM i.val 1) := fun j => by unfold setF zeroM; split <;> omega
    obtain ⟨c, hc, hd⟩ := inM_iff.1 ((hin _ hu).2 ⟨i, hi, by rw [setF_at]; omega⟩)
    have hcn : Nn c := fun j => (h.colon_sm hNn c hc j).1
    obtain ⟨j, h1, h2⟩ := (hin c hcn).1 (inM_iff.2 ⟨c, hc, dvd_refl c⟩)
    have hji : j = i := Classical.byContradiction fun e => by
      have := hd j
      rw [setF_ne e] at this
      have : zeroM j = 0 := rfl
      omega
    subst hji
    have : c = setF zeroM j.val 1 := funext fun k => by
      have h3 := hd k
      have h4 := hcn k
      by_cases e : k = j
      · subst e; rw [setF_at] at h3 ⊢; omega
      · rw [setF_ne e] at h3 ⊢
        have : zeroM k = 0 := rfl
        omega
    rw [← this]; exact hc
  have hall : ∀ c ∈ colonM l t, ∃ i, 0 < a i ∧ c = setF zeroM i.val 1 := fun c hc => by
    have hcn : Nn c := fun j => (h.colon_sm hNn c hc j).1
    obtain ⟨i, h1, h2⟩ := (hin c hcn).1 (inM_iff.2 ⟨c, hc, dvd_refl c⟩)
    refine ⟨i, h1, ?_⟩
    have h3 := minimalM_mem.1 hc
    refine ((minimalM_mem.1 (show c ∈ minimalM (colonM l t) by rw [colonM, minimal_idem]; exact hc)).2 _ (hunit i h1) fun j => ?_).symm
    by_cases e : j = i
    · subst e; rw [setF_at]; omega
    · rw [setF_ne e]; exact hcn j
  refine ⟨t, all_mem (by have := h.few; omega) ht htn, List.all_eq_true.2 fun c hc => ?_, ?_⟩
  · obtain ⟨i, _, rfl⟩ := hall c hc
    exact decide_eq_true (deg_unit i)
  · obtain ⟨hb, hor⟩ := orF_spec _ (h.colon_sm hNn)
    refine prime_inj hb (supp_bd hsm) fun i => ?_
    have h5 : 0 < primeM (suppM a) i ↔ 0 < a i := by rw [prime_supp hsm]; unfold indM; split <;> omega
    rw [h5, hor]
    constructor
    · rintro ⟨c, hc, h1⟩
      obtain ⟨k, h2, rfl⟩ := hall c hc
      by_cases e : i = k
      · subst e; exact h2
      · rw [setF_ne e] at h1
        have : zeroM i = 0 := rfl
        omega
    · intro hi
      exact ⟨_, hunit i hi, by rw [setF_at]; omega⟩
end Inp
theorem isF_snoc (T : List M) (a : M) : isF (T ++ [a]) = (isF T && decide (degM a = 1)) := by unfold isF; rw [List.all_append]; simp
theorem prim_L6 {C : List M} (hC : ∀ c ∈ C, Sm c) (hl : C.length ≤ 1000) : (law21_ComponentsPrimes_L6 C (0, true, 0)).Ret (orF C, isF C) := by
  refine Comp.loop_idx C.length (fun k s => s = (orF (C.take k), isF (C.take k), (k : Int))) (fun k s hk hs => ?_) (fun s hs => ?_) rfl
  · subst hs
    have ht : C.take (k + 1) = C.take k ++ [C[k]] := (List.take_append_getElem hk).symm
    have hd := R04_Degree_ret (m := C[k]) (fun i => by have := hC _ (List.getElem_mem hk) i; unfold Qs at this; omega)
    show (if (k : Int) < (C.length : Int) then _ else _ : Comp _).wp _
    rw [Comp.wp_ite, if_pos (by omega), Comp.wp_ite]
    split
    · rename_i hb
      refine ⟨C[k], idxN hk, _, hd, ?_⟩
      rw [Comp.wp_ite]
      split
      · rename_i h1
        refine ⟨C[k], idxN hk, _, R04_Support_ret _, ?_⟩
        show _ = _
        rw [ht, orF_snoc, isF_snoc, hb, decide_eq_true h1, wrapN (by omega)]; rfl
      · rename_i h1
        refine ⟨C[k], idxN hk, _, R04_Support_ret _, ?_⟩
        show _ = _
        rw [ht, orF_snoc, isF_snoc, decide_eq_false h1, wrapN (by omega), Bool.and_false]; rfl
    · rename_i hb
      refine ⟨C[k], idxN hk, _, R04_Support_ret _, ?_⟩
      have hb : isF (C.take k) = false := by simpa using hb
      show _ = _
      rw [ht, orF_snoc, isF_snoc, hb, wrapN (by omega)]; rfl
  · subst hs
    show (if ((C.length : Nat) : Int) < (C.length : Int) then _ else _ : Comp _).wp _
    rw [Comp.wp_ite, if_neg (by omega), List.take_length]
    rfl
theorem colon_len (l : List M) (t : M) : (colonM l t).length ≤ l.length := by
  have := minimalM_length (l.map (colM t))
  unfold colonM; simp at this; exact this
/-- The sets that are found. -/
def foundF (l : List M) (T : List M) : Fin 256 → Bool := fun j => T.any fun t => isF (colonM l t) && decide (orF (colonM l t) = (j.val : Int))
theorem Inp.prim_L4 {l : List M} {n : Nat} (h : Inp l n) {T : List M} (hT : ∀ t ∈ T, ∀ i, 0 ≤ t i ∧ t i ≤ 4) (hl : T.length ≤ 1000) : (law21_ComponentsPrimes_L4 l T (0, fun _ => false)).Ret (foundF l T) := by
  refine Comp.loop_idx T.length (fun k s => s = ((k : Int), foundF l (T.take k))) (fun k s hk hs => ?_) (fun s hs => ?_) rfl
  · subst hs
    have htk : T.take (k + 1) = T.take k ++ [T[k]] := (List.take_append_getElem hk).symm
    have hb := hT _ (List.getElem_mem hk)
    have hNn : Nn T[k] := fun i => (hb i).1
    have hsm := h.colon_sm hNn
    have hlen := colon_len l T[k]
    have hll := h.len
    show (if (k : Int) < (T.length : Int) then _ else _ : Comp _).wp _
    rw [Comp.wp_ite, if_pos (by omega)]
    refine ⟨T[k], idxN hk, _, Colon_ret (by omega) h.sm (fun i => by have := hb i; omega), ?_⟩
    refine Comp.wp_next.2 ((prim_L6 hsm (by omega)).then ?_)
    show (if isF (colonM l T[k]) = true then _ else _ : Comp _).wp _
    obtain ⟨ob, _⟩ := orF_spec _ hsm
    have hstep : ∀ j : Fin 256, foundF l (T.take (k + 1)) j = (foundF l (T.take k) j || (isF (colonM l T[k]) && decide (orF (colonM l T[k]) = (j.val : Int)))) := fun j => by
      unfold foundF; rw [htk, List.any_append]; simp
    rw [Comp.wp_ite]
    split
    · rename_i hi
      refine ⟨by omega, ?_⟩
      show _ = _
      rw [wrapN (by omega)]
      congr 1
      funext j
      rw [hstep j, hi]
      unfold setF
      by_cases e : j.val = (orF (colonM l T[k])).toNat
      · rw [if_pos e, decide_eq_true (by omega)]; simp
      · rw [if_neg e, decide_eq_false (by omega)]; simp
    · rename_i hi
      show _ = _
      rw [wrapN (by omega)]
      congr 1
      funext j
      rw [hstep j]
      have hi : isF (colonM l T[k]) = false := by simpa using hi
      rw [hi]; simp
  · subst hs
    show (if ((T.length : Nat) : Int) < (T.length : Int) then _ else _ : Comp _).wp _
    rw [Comp.wp_ite, if_neg (by omega), List.take_length]
    rfl
theorem sorted_sets {ps : List Int} (hs : Sd ps) (hn : ps.Nodup) (hb : ∀ p ∈ ps, 0 ≤ p ∧ p < 256) : ps = ((List.range 256).filter fun s : Nat => decide ((s : Int) ∈ ps)).map fun s : Nat => (s : Int) := by
  refine List.Perm.eq_of_pairwise (le := fun a b : Int => a ≤ b) (fun a b _ _ h1 h2 => Int.le_antisymm h1 h2) hs ?_ ?_
  · rw [List.pairwise_map]
    refine List.Pairwise.filter _ ?_
    exact List.pairwise_lt_range.imp fun h => by omega
  · refine (List.perm_ext_iff_of_nodup hn ?_).2 fun p => ?_
    · rw [List.Nodup, List.pairwise_map]
      refine List.Pairwise.filter _ ?_
      exact List.nodup_range.imp fun h e => h (by omega)
    · simp only [List.mem_map, List.mem_filter, List.mem_range, decide_eq_true_eq]
      constructor
      · intro hp
        have := hb p hp
        exact ⟨p.toNat, ⟨by omega, by rw [show ((p.toNat : Nat) : Int) = p by omega]; exact hp⟩, by omega⟩
      · rintro ⟨s, ⟨_, h1⟩, rfl⟩; exact h1
def cntF (ps : List Int) (k : Nat) : Nat := (((List.range 256).take k).filter fun s : Nat => decide ((s : Int) ∈ ps)).length
theorem cnt_step {ps : List Int} {k : Nat} (hk : k < 256) : cntF ps (k + 1) = cntF ps k + (if (k : Int) ∈ ps then 1 else 0) := by
  have hkr : k < (List.range 256).length := by rw [List.length_range]; exact hk
  have htk : (List.range 256).take (k + 1) = (List.range 256).take k ++ [k] := by
    rw [← List.take_append_getElem hkr, List.getElem_range]
  unfold cntF
  rw [htk, List.filter_append, List.filter_cons, List.length_append]
  by_cases hm : (k : Int) ∈ ps
  · rw [if_pos (decide_eq_true hm), if_pos hm]; rfl
  · rw [if_neg (by rw [decide_eq_true_eq]; exact hm), if_neg hm]; rfl
theorem cnt_at {ps : List Int} (hs : Sd ps) (hn : ps.Nodup) (hb : ∀ p ∈ ps, 0 ≤ p ∧ p < 256) : cntF ps 0 = 0 ∧ cntF ps 256 = ps.length ∧ ∀ k : Nat, k < 256 → (k : Int) ∈ ps → ps[cntF ps k]? = some (k : Int) ∧ cntF ps k < ps.length := by
  have he := sorted_sets hs hn hb
  have hlen : ps.length = ((List.range 256).filter fun s : Nat => decide ((s : Int) ∈ ps)).length := by
    have := congrArg List.length he
    rwa [List.length_map] at this
  refine ⟨rfl, ?_, fun k hk hm => ?_⟩
  · unfold cntF; rw [List.take_of_length_le (by rw [List.length_range]; exact Nat.le_refl _)]; exact hlen.symm
  · have hkr : k < (List.range 256).length := by rw [List.length_range]; exact hk
    obtain ⟨f1, f2⟩ := filter_at (fun s : Nat => decide ((s : Int) ∈ ps)) (List.range 256) hkr (by rw [List.getElem_range]; exact decide_eq_true hm)
    rw [List.getElem_range] at f1
    refine ⟨?_, by rw [hlen]; exact f2⟩
    conv => lhs; arg 1; rw [he]
    rw [List.getElem?_map]
    unfold cntF
    rw [f1]; rfl
theorem prim_L2 {ps : List Int} {e0 : Int} {f : Fin 256 → Bool} (hs : Sd ps) (hn : ps.Nodup) (hb : ∀ p ∈ ps, 0 ≤ p ∧ p < 256) (hf : ∀ j : Fin 256, f j = decide ((j.val : Int) ∈ ps)) (hl : ps.length ≤ 1000) : (law21_ComponentsPrimes_L2 (ps, e0) f (0, 0)).Ret (.inr (ps.length : Int)) := by
  obtain ⟨c0, c1, c2⟩ := cnt_at hs hn hb
  have c3 : ∀ k, k < 256 → cntF ps (k + 1) = cntF ps k + (if (k : Int) ∈ ps then 1 else 0) := fun k hk => cnt_step hk
  revert c0 c1 c2 c3
  generalize cntF ps = c
  intro c0 c1 c2 c3
  refine Comp.loop_idx 256 (fun k s => s = ((c k : Int), (k : Int)) ∧ c k ≤ k) (fun k s hk hs' => ?_) (fun s hs' => ?_) ⟨by rw [c0]; rfl, by omega⟩
  · obtain ⟨rfl, hck⟩ := hs'
    have hst := c3 k hk
    dsimp only
    rw [Comp.wp_ite, if_pos (by omega)]
    refine ⟨by omega, ?_⟩
    have hg : getF f (k : Int) = decide ((k : Int) ∈ ps) := by rw [getF_eq f (by simpa using hk)]; exact hf ⟨k, hk⟩
    rw [hg, Comp.wp_ite]
    by_cases hm : (k : Int) ∈ ps
    · rw [if_pos (decide_eq_true hm)]
      rw [if_pos hm] at hst
      obtain ⟨f1, f2⟩ := c2 k hk hm
      rw [Comp.wp_ite, if_neg (by show ¬ (ps.length : Int) ≤ (c k : Int); omega)]
      refine ⟨(k : Int), ⟨by omega, f1⟩, ?_⟩
      dsimp only
      rw [wrap64 (x := (k : Int)) (by omega), Comp.wp_ite, if_neg (by simp)]
      refine ⟨?_, by omega⟩
      rw [wrapN (by omega), wrapN (by omega), hst]
    · rw [if_neg (by simpa using hm)]
      rw [if_neg hm] at hst
      refine ⟨?_, by omega⟩
      rw [wrapN (by omega), hst]; rfl
  · obtain ⟨rfl, hck⟩ := hs'
    dsimp only
    rw [Comp.wp_ite, if_neg (by omega), c1]
    rfl
theorem prim_law_ret {x : T_law21_Input} (hn : 0 ≤ x.n ∧ x.n ≤ 255) (hx : U8s x.l) : (law21_ComponentsPrimes x).Ret true := by
  have hv := (vars_eq hn).2
  have hi : Inp (madeF x.l (varsF x) 4 3) (varsF x) := inp_made hx hv (by omega)
  have made := made_ret hn hx
  revert hi made
  generalize madeF x.l (varsF x) 4 3 = l
  intro hi made
  have hpl := hi.plen
  have hfew := all_few hv
  refine ⟨true, sanity_ret, ?_⟩
  rw [Comp.wp_ite, if_neg (by simp)]
  refine ⟨_, made, _, vars_ret hn, _, hi.primes, ?_⟩
  rw [Comp.wp_ite, if_neg (by simp)]
  refine ⟨_, vars_ret hn, _, all_ret hv, ?_⟩
  refine Comp.wp_next.2 ((hi.prim_L4 (fun t ht => all_bd ht) (by omega)).then ?_)
  have hf : ∀ j : Fin 256, foundF l (allF (varsF x)) j = decide ((j.val : Int) ∈ primesF l) := fun j => by
    rw [Bool.eq_iff_iff, decide_eq_true_eq]
    unfold foundF
    rw [List.any_eq_true]
    constructor
    · rintro ⟨t, ht, h1⟩
      rw [Bool.and_eq_true, decide_eq_true_eq] at h1
      rw [← h1.2]
      exact hi.colon_prime (fun i => (all_bd ht i).1) h1.1
    · intro hp
      obtain ⟨t, ht, h1, h2⟩ := hi.prime_colon hp
      exact ⟨t, ht, by rw [h1, decide_eq_true h2]; rfl⟩
  refine Comp.wp_next.2 ((prim_L2 (ps := primesF l) (sortI_sd _) (primes_nodup l) (fun p hp => by have := hi.pbd hp; omega) hf (by omega)).then ?_)
  show (if _ = _ then _ else _ : Comp _).wp _
  rw [Comp.wp_ite, if_pos (by rfl)]
  rfl
end Go.EL
/- The law ComponentsPrimary on the models. The conditions stand in each statement. -/
namespace Go.EL
open Go
theorem max_zero {g : M} (h : Nn g) : maxM zeroM g = g := by
  funext i
  have := h i
  unfold maxM zeroM
  split <;> omega
theorem meet_first {m : List M} (h : ∀ g ∈ m, Nn g) : meetStep [zeroM] m = minimalM m := by
  unfold meetStep
  congr 1
  rw [List.flatMap_cons, List.flatMap_nil, List.append_nil]
  conv => rhs; rw [← List.map_id m]
  exact List.map_congr_left fun g hg => max_zero (h g hg)
theorem gens_nn {a : M} (h : Nn a) : ∀ g ∈ gensM a, Nn g := fun g hg i => gens_ind (Q := fun _ x => 0 ≤ x) (fun _ => Int.le_refl _) h g hg i
theorem meet_fold {a : M} (h : Nn a) (A : List M) : (A.map gensM).foldl meetStep (minimalM (gensM a)) = meetAll (a :: A) := by
  rw [List.foldl_map]
  show _ = A.foldl (fun o a => meetStep o (gensM a)) (meetStep [zeroM] (gensM a))
  rw [meet_first (gens_nn h)]
/-- The components of a prime. -/
def ofP (l : List M) (p : Int) : List M := (irrF l).filter fun a => decide (suppM a = p)
def partG (l : List M) (p : Int) : List M := meetAll (ofP l p)
theorem ofP_get (l : List M) (p : Int) : (mget (partsF l) p).getD [] = (ofP l p).map gensM := by
  rw [partsF, parts_get]; rfl
theorem ofP_cons {l : List M} {p : Int} (hp : p ∈ primesF l) : ∃ a A, ofP l p = a :: A := by
  obtain ⟨a, ha, hs⟩ := primes_mem.1 hp
  have : a ∈ ofP l p := List.mem_filter.2 ⟨ha, decide_eq_true hs⟩
  cases e : ofP l p with
  | nil => rw [e] at this; simp at this
  | cons b A => exact ⟨b, A, rfl⟩
theorem ofP_mem {l : List M} {p : Int} {a : M} (ha : a ∈ ofP l p) : a ∈ irrF l ∧ suppM a = p := ⟨(List.mem_filter.1 ha).1, of_decide_eq_true (List.mem_filter.1 ha).2⟩
namespace Inp
variable {l : List M} {n : Nat} (h : Inp l n)
include h
theorem ofP_sm {p : Int} : ∀ a ∈ ofP l p, Sm a := fun a ha => h.irrSm a (ofP_mem ha).1
theorem part_eq {p : Int} (hp : p ∈ primesF l) : partOf l p = ⟨p, partG l p⟩ := by
  obtain ⟨a, A, e⟩ := ofP_cons hp
  have ha : a ∈ ofP l p := by rw [e]; simp
  unfold partOf partG
  rw [ofP_get, e]
  congr 1
  exact meet_fold (fun i => (h.ofP_sm a ha i).1) A
theorem partsOk : PartsOk l := fun p hp => by
  have hb := h.pbd hp
  refine ⟨by omega, ?_⟩
  obtain ⟨a, A, e⟩ := ofP_cons hp
  have hsm := h.ofP_sm (p := p)
  rw [e] at hsm
  have hlen : A.length ≤ 64 := by
    have h1 := h.irrLen
    have h2 := List.length_filter_le (fun a => decide (suppM a = p)) (irrF l)
    have h3 : (ofP l p).length = A.length + 1 := by rw [e]; rfl
    unfold ofP at h3; omega
  refine ⟨gensM a, A.map gensM, by rw [ofP_get, e]; rfl, ?_, by simp; omega, fun k hk => ?_⟩
  · have := splitTo_length zeroM a 8; unfold Lb gensM; omega
  · have hk' : k < A.length := by simpa using hk
    rw [List.getElem_map]
    have h8 := splitTo_length zeroM A[k] 8
    have h9 : (gensM A[k]).length ≤ 8 := h8
    refine ⟨by unfold Lb; omega, ?_⟩
    rw [← List.map_take, meet_fold (fun i => (hsm a (by simp) i).1)]
    have h10 := meetAll_few (A := a :: A.take k) (fun b hb => by
      rcases List.mem_cons.1 hb with rfl | hb
      · exact hsm b (by simp)
      · exact hsm b (by simp [List.mem_of_mem_take hb]))
    exact Nat.le_trans (Nat.mul_le_mul h10 h9) (by decide)
theorem primary : (components_Primary l (n : Int)).Ret ((primesF l).map (partOf l), 0) := by
  have := Primary_ret h.lb (n := (n : Int)) (fun _ => ⟨h.fit, h.partsOk⟩)
  rwa [if_pos h.check] at this
theorem partG_sm {p : Int} : ∀ g ∈ partG l p, Sm g := fun g hg i => meetAll_ind (Q := Qs) (fun i => ⟨by omega, by omega, fun _ => rfl⟩) _ h.ofP_sm g hg i
theorem partG_len {p : Int} : (partG l p).length ≤ 256 := meetAll_few h.ofP_sm
/-- The generators only use the variables of the prime. -/
theorem partG_vars {p : Int} {g : M} (hg : g ∈ partG l p) (i : Fin 8) (hi : 0 < g i) : 0 < primeM p i := by
  have := meetAll_ind (Q := fun i x => ¬ 0 < primeM p i → x = 0) (fun _ _ => rfl) (ofP l p) (fun a ha i hn => by
    have h1 := ofP_mem ha
    have h2 := prime_supp (h.irrSm a h1.1)
    rw [h1.2] at h2
    rw [h2] at hn
    unfold indM at hn
    have h3 := (h.irrSm a h1.1 i).1
    split at hn <;> omega) g hg i
  exact Classical.byContradiction fun hn => by have := this hn; omega
/-- A power of each variable of the prime is among the generators. -/
theorem partG_power {p : Int} (hp : p ∈ primesF l) {i : Fin 8} (hi : 0 < primeM p i) : ∃ g ∈ partG l p, 0 < g i ∧ ∀ j, j ≠ i → g j = 0 := by
  have ht : Nn (setF zeroM i.val 3) := fun j => by unfold setF zeroM; split <;> omega
  have h1 : inM (setF zeroM i.val 3) (partG l p) = true := (meetAll_in ht _).2 fun a ha => by
    have h1 := ofP_mem ha
    have h2 := prime_supp (h.irrSm a h1.1)
    rw [h1.2] at h2
    rw [h2] at hi
    unfold indM at hi
    have h3 := h.irrSm a h1.1 i
    unfold Qs at h3
    refine ⟨i, by split at hi <;> omega, by rw [setF_at]; omega⟩
  obtain ⟨g, hg, hd⟩ := inM_iff.1 h1
  have hsm := h.partG_sm g hg
  have hz : ∀ j, j ≠ i → g j = 0 := fun j hj => by
    have h2 := hd j
    rw [setF_ne hj] at h2
    have h3 := (hsm j).1
    have : zeroM j = 0 := rfl
    omega
  refine ⟨g, hg, ?_, hz⟩
  apply Classical.byContradiction
  intro hn
  have hg0 : g = zeroM := funext fun j => by
    by_cases e : j = i
    · subst e; have := (hsm j).1; show g j = 0; omega
    · exact hz j e
  obtain ⟨a, A, e⟩ := ofP_cons hp
  have hin : inM zeroM (partG l p) = true := inM_iff.2 ⟨g, hg, by rw [hg0]; exact dvd_refl _⟩
  obtain ⟨k, h2, h3⟩ := (meetAll_in (fun _ => Int.le_refl _) _).1 hin a (by rw [e]; simp)
  have h3' : a k ≤ 0 := h3
  omega
end Inp
theorem andn_fin : ∀ q p : Fin 16, (∀ i : Fin 8, primeM (q.val : Int) i ≤ primeM (p.val : Int) i) → IntKind.u8.wrap (BitVec.ofInt IntKind.u8.bits (q.val : Int) &&& ~~~ BitVec.ofInt IntKind.u8.bits (p.val : Int)).toNat = 0 := by decide +kernel
theorem andn_zero {q p : Int} (hq : 0 ≤ q ∧ q < 16) (hp : 0 ≤ p ∧ p < 16) (h : ∀ i, 0 < primeM q i → 0 < primeM p i) : IntKind.u8.wrap (BitVec.ofInt IntKind.u8.bits q &&& ~~~ BitVec.ofInt IntKind.u8.bits p).toNat = 0 := by
  obtain ⟨q, rfl⟩ := fin16 hq
  obtain ⟨p, rfl⟩ := fin16 hp
  refine andn_fin q p fun i => ?_
  have h1 := prime_one (q.val : Int) i
  have h2 := prime_one (p.val : Int) i
  have h3 := h i
  omega
def onesI (s : Int) : Int := primeM s 0 + primeM s 1 + primeM s 2 + primeM s 3
theorem ones_fin : ∀ s : Fin 16, ((R18_Ones (s.val : Int)).ev 20) = some (onesI (s.val : Int)) := by decide +kernel
theorem Ones_ret {s : Int} (hs : 0 ≤ s ∧ s < 16) : (R18_Ones s).Ret (onesI s) := by
  obtain ⟨s, rfl⟩ := fin16 hs
  exact Comp.Ret.of_ev 20 (ones_fin s)
theorem one_fin : ∀ s : Fin 16, (onesI (s.val : Int) = 1 ↔ ∃ i : Fin 8, 0 < primeM (s.val : Int) i ∧ ∀ j, j ≠ i → primeM (s.val : Int) j = 0) := by decide +kernel
/-- Pure powers. -/
def powF (C : List M) : List M := C.filter fun c => decide (onesI (suppM c) = 1)
theorem pow_L4 {G : List M} {p : Int} {P : List T_api_Part} {e0 : Int} {i : Nat} (hi : i < P.length) (hP : P[i] = ⟨p, G⟩) (hp : 0 ≤ p ∧ p < 16) (hG : ∀ g ∈ G, Sm g) (hv : ∀ g ∈ G, ∀ i, 0 < g i → 0 < primeM p i) (hl : G.length ≤ 1000) :
    (law21_ComponentsPrimary_L4 (P, e0) (i : Int) ⟨p, G⟩ (0, 0)).Ret (.inr (orF (powF G))) := by
  refine Comp.loop_idx G.length (fun k s => s = (orF (powF (G.take k)), (k : Int))) (fun k s hk hs => ?_) (fun s hs => ?_) rfl
  · subst hs
    have ht : G.take (k + 1) = G.take k ++ [G[k]] := (List.take_append_getElem hk).symm
    have hsm := hG _ (List.getElem_mem hk)
    have hb := supp_bd hsm
    dsimp only
    rw [Comp.wp_ite, if_pos (by show (k : Int) < (G.length : Int); omega)]
    refine ⟨G[k], idxN hk, _, R04_Support_ret _, P[i], idxN hi, ?_⟩
    rw [hP]
    dsimp only
    rw [Comp.wp_ite, if_neg (by rw [andn_zero hb hp (fun j hj => hv _ (List.getElem_mem hk) j (by rw [prime_supp hsm] at hj; unfold indM at hj; split at hj <;> omega))]; simp)]
    refine ⟨G[k], idxN hk, _, R04_Support_ret _, _, Ones_ret hb, ?_⟩
    rw [Comp.wp_ite]
    split
    · rename_i h1
      refine ⟨G[k], idxN hk, _, R04_Support_ret _, ?_⟩
      show _ = _
      have e : powF (G.take (k + 1)) = powF (G.take k) ++ [G[k]] := by
        unfold powF; rw [ht, List.filter_append, List.filter_cons, if_pos (decide_eq_true h1)]; rfl
      rw [e, orF_snoc, wrapN (by omega)]; rfl
    · rename_i h1
      show _ = _
      have e : powF (G.take (k + 1)) = powF (G.take k) := by
        unfold powF; rw [ht, List.filter_append, List.filter_cons, if_neg (by simpa using h1)]; simp
      rw [e, wrapN (by omega)]
  · subst hs
    dsimp only
    rw [Comp.wp_ite, if_neg (by show ¬ ((G.length : Nat) : Int) < (G.length : Int); omega), List.take_length]
    rfl
theorem Inp.pow_eq {l : List M} {n : Nat} (h : Inp l n) {p : Int} (hp : p ∈ primesF l) : orF (powF (partG l p)) = p := by
  have hsm : ∀ c ∈ powF (partG l p), Sm c := fun c hc => h.partG_sm c (List.mem_filter.1 hc).1
  obtain ⟨hb, hor⟩ := orF_spec _ hsm
  refine prime_inj hb (h.pbd hp) fun i => ?_
  rw [hor]
  constructor
  · rintro ⟨c, hc, h1⟩
    exact h.partG_vars (List.mem_filter.1 hc).1 i h1
  · intro hi
    obtain ⟨g, hg, h1, h2⟩ := h.partG_power hp hi
    refine ⟨g, List.mem_filter.2 ⟨hg, decide_eq_true ?_⟩, h1⟩
    have hs := h.partG_sm g hg
    obtain ⟨k, hk⟩ := fin16 (supp_bd hs)
    rw [← hk, one_fin, hk, prime_supp hs]
    refine ⟨i, by unfold indM; rw [if_pos h1]; omega, fun j hj => by unfold indM; rw [if_neg (by rw [h2 j hj]; omega)]⟩
/-- The intersection of the parts. -/
def meetParts (l : List M) (ps : List Int) : List M := ps.foldl (fun o p => meetStep o (partG l p)) [zeroM]
theorem meetParts_snoc (l : List M) (T : List Int) (a : Int) : meetParts l (T ++ [a]) = meetStep (meetParts l T) (partG l a) := by unfold meetParts; rw [List.foldl_append]; rfl
theorem meetParts_min (l : List M) : ∀ ps : List Int, minimalM (meetParts l ps) = meetParts l ps := snoc_ind minimal_one fun T a _ => by rw [meetParts_snoc]; exact minimal_idem _
theorem meetParts_in {l : List M} {t : M} (ht : Nn t) : ∀ ps : List Int, (inM t (meetParts l ps) = true ↔ ∀ p ∈ ps, ∀ a ∈ ofP l p, irrIn a t) := snoc_ind (by
    simp only [List.not_mem_nil, false_implies, implies_true, iff_true]
    exact inM_iff.2 ⟨zeroM, by simp [meetParts], ht⟩) fun T a ih => by
  rw [meetParts_snoc, step_in, Bool.and_eq_true, ih, partG, meetAll_in ht]
  constructor
  · rintro ⟨h1, h2⟩ b hb
    rcases List.mem_append.1 hb with hb | hb
    · exact h1 b hb
    · simp at hb; subst hb; exact h2
  · intro h; exact ⟨fun b hb => h b (by simp [hb]), h a (by simp)⟩
namespace Inp
variable {l : List M} {n : Nat} (h : Inp l n)
include h
theorem meetParts_sm : ∀ ps : List Int, ∀ x ∈ meetParts l ps, Sm x := snoc_ind (fun x hx => by
    simp [meetParts] at hx; subst hx; exact fun i => ⟨Int.le_refl _, by show (0 : Int) ≤ 3; omega, fun _ => rfl⟩) fun T a ih x hx i => by
  rw [meetParts_snoc] at hx
  exact step_ind (Q := Qs) ih h.partG_sm x hx i
theorem meetParts_len (ps : List Int) : (meetParts l ps).length ≤ 256 := by
  refine sm_few (h.meetParts_sm ps) ?_
  rw [← meetParts_min]; exact minimal_nodup _
theorem meetParts_eq : meetParts l (primesF l) = minimalM l := by
  refine minimal_eq (meetParts_min _ _) (minimal_idem l) (fun x hx i => (h.meetParts_sm _ x hx i).1) (fun y hy => h.nn y (minimalM_mem.1 hy).1) fun t ht => ?_
  rw [Bool.eq_iff_iff, meetParts_in ht, ← inM_minimal, inM_iff, ← h.ok.mem t ht]
  constructor
  · intro hall a ha
    exact hall (suppM a) (primes_mem.2 ⟨a, ha, rfl⟩) a (List.mem_filter.2 ⟨ha, decide_eq_true rfl⟩)
  · intro hall p _ a ha
    exact hall a (ofP_mem ha).1
end Inp
theorem pri_law_ret {x : T_law21_Input} (hn : 0 ≤ x.n ∧ x.n ≤ 255) (hx : U8s x.l) : (law21_ComponentsPrimary x).Ret true := by
  have hv := (vars_eq hn).2
  have hi : Inp (madeF x.l (varsF x) 4 3) (varsF x) := inp_made hx hv (by omega)
  have made := made_ret hn hx
  revert hi made
  generalize madeF x.l (varsF x) 4 3 = l
  intro hi made
  have hpl := hi.plen
  refine ⟨true, sanity_ret, ?_⟩
  rw [Comp.wp_ite, if_neg (by simp)]
  refine ⟨_, made, _, vars_ret hn, _, hi.primary, _, vars_ret hn, _, hi.primes, ?_⟩
  rw [Comp.wp_ite, if_neg (by simp), Comp.wp_ite, if_neg (by simp), Comp.wp_ite, if_neg (by simp)]
  refine Comp.wp_next.2 (Comp.loop_idx (primesF l).length (fun k s => s = (meetParts l ((primesF l).take k), (k : Int))) (fun k s hk hs => ?_) (fun s hs => ?_) rfl)
  · subst hs
    have htk : (primesF l).take (k + 1) = (primesF l).take k ++ [(primesF l)[k]] := (List.take_append_getElem hk).symm
    have hm := List.getElem_mem hk
    have hk2 : k < ((primesF l).map (partOf l)).length := by simpa using hk
    have hP : ((primesF l).map (partOf l))[k] = ⟨(primesF l)[k], partG l (primesF l)[k]⟩ := by rw [List.getElem_map]; exact hi.part_eq hm
    have hlen := hi.partG_len (p := (primesF l)[k])
    have hlb : Lb (partG l (primesF l)[k]) := by unfold Lb; omega
    dsimp only
    rw [Comp.wp_ite, if_pos (by show (k : Int) < (((primesF l).map (partOf l)).length : Int); omega)]
    refine ⟨((primesF l).map (partOf l))[k], idxN hk2, ?_⟩
    rw [hP]
    refine Comp.wp_next.2 ((pow_L4 hk2 hP (hi.pbd hm) hi.partG_sm (fun g hg i h => hi.partG_vars hg i h) (by omega)).then ?_)
    rw [hi.pow_eq hm]
    refine ⟨((primesF l).map (partOf l))[k], idxN hk2, (primesF l)[k], idxN hk, ?_⟩
    rw [hP]
    dsimp only
    rw [Comp.wp_ite, if_neg (by simp)]
    refine ⟨(primesF l)[k], idxN hk, ?_⟩
    rw [Comp.wp_ite, if_neg (by simp)]
    refine ⟨_, R04_Minimal_ret hlb, true, Same_self hlb (meetAll_min _).symm, ?_⟩
    rw [Comp.wp_ite, if_neg (by simp)]
    have h1 := hi.meetParts_len ((primesF l).take k)
    have h3 := Nat.mul_le_mul h1 hlen
    refine ⟨_, R21_Meet_ret (by omega) (by omega) (by omega), ?_⟩
    show _ = _
    rw [wrapN (by omega), htk, meetParts_snoc]
  · subst hs
    dsimp only
    rw [Comp.wp_ite, if_neg (by simp), List.take_length, hi.meetParts_eq]
    have lbl : Lb (minimalM l) := by have := minimalM_length l; have := hi.len; unfold Lb; omega
    exact ⟨_, R04_Minimal_ret hi.lb, true, Same_self lbl rfl, rfl⟩
end Go.EL
