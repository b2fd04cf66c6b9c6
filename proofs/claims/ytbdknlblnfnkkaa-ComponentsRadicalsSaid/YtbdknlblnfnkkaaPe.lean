/- Irreducible components: what the function returns. The conditions stand in each statement. -/
import Derived.Test.YtbdknlblnfnkkaaPd
namespace Go.EL
open Go
/-- All entries are numbers of the machine. -/
def Wf (m : M) : Prop := ∀ i, (Lit.int IntKind.i64 (m i)).wf = true
theorem Wf_zero : Wf zeroM := fun _ => show (Lit.int IntKind.i64 0).wf = true by decide
theorem Wf_set {a g : M} (ha : Wf a) (hg : Wf g) {k : Nat} (h : k < 8) : Wf (setF a k (g ⟨k, h⟩)) := fun i => by
  unfold setF
  split
  · exact hg ⟨k, h⟩
  · exact ha i
/-- The splitting of an irreducible ideal by a monomial. -/
def splitTo (a g : M) : Nat → List M
  | 0 => []
  | k + 1 => splitTo a g k ++ (if h : k < 8 then (if 0 < g ⟨k, h⟩ then [setF a k (g ⟨k, h⟩)] else []) else [])
def splitM (a g : M) : List M := if ∃ i, 0 < a i ∧ a i ≤ g i then [a] else splitTo a g 8
theorem splitTo_length (a g : M) : ∀ k, (splitTo a g k).length ≤ k
  | 0 => by simp [splitTo]
  | k + 1 => by
    have := splitTo_length a g k
    simp only [splitTo, List.length_append]
    split
    · split <;> simp <;> omega
    · simp; omega
theorem splitTo_mem {a g x : M} : ∀ {k}, k ≤ 8 → (x ∈ splitTo a g k ↔ ∃ i : Fin 8, i.val < k ∧ 0 < g i ∧ x = setF a i.val (g i))
  | 0, _ => by simp [splitTo]
  | k + 1, hk => by
    have h : k < 8 := by omega
    simp only [splitTo, List.mem_append, splitTo_mem (by omega : k ≤ 8), dif_pos h]
    constructor
    · rintro (⟨i, h1, h2, h3⟩ | h1)
      · exact ⟨i, by omega, h2, h3⟩
      · split at h1
        · rename_i hp; simp only [List.mem_singleton] at h1; exact ⟨⟨k, h⟩, by simp, hp, h1⟩
        · simp at h1
    · rintro ⟨i, h1, h2, h3⟩
      by_cases e : i.val = k
      · right
        have : i = ⟨k, h⟩ := Fin.ext e
        subst this
        rw [if_pos h2, h3]; simp
      · exact .inl ⟨i, by omega, h2, h3⟩
theorem splitM_length (a g : M) : (splitM a g).length ≤ 8 := by
  unfold splitM
  split
  · simp
  · exact splitTo_length a g 8
theorem splitM_Wf {a g x : M} (ha : Wf a) (hg : Wf g) (h : x ∈ splitM a g) : Wf x := by
  unfold splitM at h
  split at h
  · simp only [List.mem_singleton] at h; subst h; exact ha
  · obtain ⟨i, _, _, rfl⟩ := (splitTo_mem (Nat.le_refl 8)).1 h
    exact Wf_set ha hg i.isLt
theorem split_ret (a g : M) : (components_split a g).Ret (splitM a g) := by
  show (Comp.loop _ _).wp _
  refine Comp.loop_idx 8 (fun k s => s = (splitTo a g k, (k : Int)) ∧ ∀ i : Fin 8, i.val < k → ¬ (0 < a i ∧ a i ≤ g i)) (fun k s hk hs => ?_) (fun s hs => ?_) ⟨rfl, fun i hi => by omega⟩
  · obtain ⟨rfl, hi⟩ := hs
    have hlen := splitTo_length a g k
    show (if (k : Int) < 8 then _ else _ : Comp _).wp _
    rw [Comp.wp_ite, if_pos (by omega)]
    refine ⟨by omega, by omega, ?_⟩
    have more : ¬ (0 < a ⟨k, hk⟩ ∧ a ⟨k, hk⟩ ≤ g ⟨k, hk⟩) → ∀ {Φ : _ → Prop}, (if 0 < getF g (k : Int) then (Comp.chk (0 ≤ (k : Int) ∧ (k : Int) < 8) (Comp.chk ((splitTo a g k ++ [setF a (k : Int).toNat (getF g (k : Int))]).length ≤ small) (Comp.ret (.inl ((splitTo a g k ++ [setF a (k : Int).toNat (getF g (k : Int))]), IntKind.i64.wrap ((k : Int) + 1)))))) else (Comp.ret (.inl (splitTo a g k, IntKind.i64.wrap ((k : Int) + 1)))) : Comp ((List M × Int) ⊕ (List M ⊕ List M))).wp
        (Out (fun s' => s' = (splitTo a g (k + 1), ((k + 1 : Nat) : Int)) ∧ ∀ i : Fin 8, i.val < k + 1 → ¬ (0 < a i ∧ a i ≤ g i)) Φ) := by
      intro hno Φ
      have hi' := all_step hi hk hno
      rw [Comp.wp_ite, getFN hk, wrapN (by omega)]
      split
      · rename_i hp
        refine ⟨by omega, by simp [small]; omega, ?_, hi'⟩
        simp [splitTo, hk, hp]
      · rename_i hp
        refine ⟨?_, hi'⟩
        simp [splitTo, hk, hp]
    rw [Comp.wp_ite, getFN hk]
    split
    · rename_i h1
      refine ⟨by omega, ?_⟩
      rw [Comp.wp_ite, getFN hk]
      split
      · rename_i h2
        show [a] = splitM a g
        rw [splitM, if_pos ⟨⟨k, hk⟩, h1, h2⟩]
      · rename_i h2
        have h3 := fun Φ => more (fun h => h2 h.2) (Φ := Φ)
        simp only [getFN hk] at h3
        exact h3 _
    · rename_i h1
      exact more (fun h => h1 h.1)
  · obtain ⟨rfl, hi⟩ := hs
    show (if ((8 : Nat) : Int) < 8 then _ else _ : Comp _).wp _
    rw [Comp.wp_ite, if_neg (by omega)]
    show splitTo a g 8 = splitM a g
    rw [splitM, if_neg]
    rintro ⟨i, h⟩
    exact hi i i.isLt h
/-- The irreducible ideal of a contains that of b. -/
def contM (a b : M) : Prop := ∀ i, 0 < b i → ¬ a i = 0 ∧ a i ≤ b i
instance decCont (a b : M) : Decidable (contM a b) := inferInstanceAs (Decidable (∀ i, 0 < b i → ¬ a i = 0 ∧ a i ≤ b i))
theorem contains_ret (a b : M) : (components_contains a b).Ret (decide (contM a b)) := by
  show (Comp.loop _ _).wp _
  refine Comp.loop_idx 8 (fun k s => s = (k : Int) ∧ ∀ i : Fin 8, i.val < k → 0 < b i → ¬ a i = 0 ∧ a i ≤ b i) (fun k s hk hs => ?_) (fun s hs => ?_) ⟨rfl, fun i hi => by omega⟩
  · obtain ⟨rfl, hi⟩ := hs
    show (if (k : Int) < 8 then _ else _ : Comp _).wp _
    rw [Comp.wp_ite, if_pos (by omega)]
    refine ⟨by omega, ?_⟩
    rw [Comp.wp_ite, getFN hk]
    split
    · rename_i h1
      refine ⟨by omega, ?_⟩
      rw [Comp.wp_ite, getFN hk]
      split
      · rename_i h2
        show _ = _
        exact (decide_eq_false (fun h => (h ⟨k, hk⟩ h1).1 h2)).symm
      · rename_i h2
        refine ⟨by omega, ?_⟩
        rw [Comp.wp_ite]
        split
        · rename_i h3
          show _ = _
          exact (decide_eq_false (fun h => by have := (h ⟨k, hk⟩ h1).2; omega)).symm
        · rename_i h3
          exact ⟨wrapN (by omega), all_step hi hk (fun _ => ⟨h2, by omega⟩)⟩
    · rename_i h1
      exact ⟨wrapN (by omega), all_step hi hk (fun h => absurd h h1)⟩
  · obtain ⟨rfl, hi⟩ := hs
    show (if ((8 : Nat) : Int) < 8 then _ else _ : Comp _).wp _
    rw [Comp.wp_ite, if_neg (by omega)]
    show _ = _
    exact (decide_eq_true (fun i => hi i i.isLt)).symm
/-- The keys of a list that is put into a map. -/
def putAll (D : List (M × Bool)) (l : List M) : List (M × Bool) := l.foldl (fun D b => mput D b true) D
theorem mput_length {K V : Type} [DecidableEq K] (D : List (K × V)) (k : K) (x : V) : (mput D k x).length ≤ D.length + 1 := by
  induction D with
  | nil => simp [mput]
  | cons p D ih => simp only [mput]; split <;> simp <;> omega
theorem mput_keys {K V : Type} [DecidableEq K] (D : List (K × V)) (k : K) (x : V) (y : K) : y ∈ (mput D k x).map (·.1) ↔ y = k ∨ y ∈ D.map (·.1) := by
  induction D with
  | nil => simp [mput]
  | cons p D ih =>
    simp only [mput]
    split
    · rename_i h
      simp only [List.map_cons, List.mem_cons, h]
      constructor
      · rintro (h | h); exact .inl h; exact .inr (.inr h)
      · rintro (h | h | h); exact .inl h; exact .inl h; exact .inr h
    · simp only [List.map_cons, List.mem_cons, ih]
      constructor
      · rintro (h | h | h); exact .inr (.inl h); exact .inl h; exact .inr (.inr h)
      · rintro (h | h | h); exact .inr (.inl h); exact .inl h; exact .inr (.inr h)
theorem mput_nodup {K V : Type} [DecidableEq K] (D : List (K × V)) (k : K) (x : V) (h : (D.map (·.1)).Nodup) : ((mput D k x).map (·.1)).Nodup := by
  induction D with
  | nil => simp [mput]
  | cons p D ih =>
    simp only [List.map_cons, List.nodup_cons] at h
    simp only [mput]
    split
    · rename_i e
      simp only [List.map_cons, List.nodup_cons]
      rw [← e]; exact h
    · rename_i e
      simp only [List.map_cons, List.nodup_cons]
      exact ⟨fun hm => ((mput_keys D k x p.1).1 hm).elim e h.1, ih h.2⟩
theorem putAll_spec (D : List (M × Bool)) (l : List M) (h : (D.map (·.1)).Nodup) : ((putAll D l).map (·.1)).Nodup ∧ (putAll D l).length ≤ D.length + l.length ∧ ∀ y, y ∈ (putAll D l).map (·.1) ↔ y ∈ l ∨ y ∈ D.map (·.1) := by
  induction l generalizing D with
  | nil => exact ⟨h, by simp [putAll], by simp [putAll]⟩
  | cons b l ih =>
    obtain ⟨h1, h2, h3⟩ := ih (mput D b true) (mput_nodup D b true h)
    have := mput_length D b true
    refine ⟨h1, by simp only [putAll, List.foldl_cons, List.length_cons] at *; omega, fun y => ?_⟩
    show y ∈ (putAll (mput D b true) l).map (·.1) ↔ _
    rw [h3, mput_keys, List.mem_cons]
    constructor
    · rintro (h | h | h); exact .inl (.inr h); exact .inl (.inl h); exact .inr h
    · rintro ((h | h) | h); exact .inr (.inl h); exact .inl h; exact .inr (.inr h)
def redM (F : List M) (a : M) : Prop := ∃ b ∈ F, a ≠ b ∧ contM a b
instance decRed (F : List M) (a : M) : Decidable (redM F a) := inferInstanceAs (Decidable (∃ b ∈ F, a ≠ b ∧ contM a b))
def irrStep (S : List M) (g : M) : List M := ((putAll [] (S.flatMap (splitM · g))).map (·.1)).filter fun a => !decide (redM (S.flatMap (splitM · g)) a)
def irrAcc (gens : List M) : List M := gens.foldl irrStep [zeroM]
/-- The irreducible components. -/
def irrF (l : List M) : List M := sortBy (fun a b => cmpM b a) (irrAcc (minimalM l))
theorem irrStep_mem {S : List M} {g x : M} : x ∈ irrStep S g ↔ x ∈ S.flatMap (splitM · g) ∧ ¬ redM (S.flatMap (splitM · g)) x := by
  have := (putAll_spec [] (S.flatMap (splitM · g)) (by simp)).2.2 x
  simp only [List.map_nil, List.not_mem_nil, or_false] at this
  simp only [irrStep, List.mem_filter, this, Bool.not_eq_true', decide_eq_false_iff_not]
theorem irrStep_nodup (S : List M) (g : M) : (irrStep S g).Nodup := (putAll_spec [] (S.flatMap (splitM · g)) (by simp)).1.filter _
theorem flatMap_len {α β : Type} (f : α → List β) (B : Nat) : ∀ (l : List α), (∀ e ∈ l, (f e).length ≤ B) → (l.flatMap f).length ≤ l.length * B
  | [], _ => by simp
  | x :: l, h => by
    have h1 := h x (by simp)
    have h2 := flatMap_len f B l (fun e he => h e (by simp [he]))
    simp only [List.flatMap_cons, List.length_append, List.length_cons, Nat.add_mul]; omega
theorem redM_congr {F F' : List M} (h : ∀ x, x ∈ F ↔ x ∈ F') (a : M) : redM F a ↔ redM F' a := ⟨fun ⟨b, h1, h2⟩ => ⟨b, (h b).1 h1, h2⟩, fun ⟨b, h1, h2⟩ => ⟨b, (h b).2 h1, h2⟩⟩
theorem L7_ret {ks v : List M} (hl : Lb ks) (x : M) {Φ : _ → Prop} (h1 : redM ks x → Φ (.inl v)) (h2 : ¬ redM ks x → Φ (.inr ())) : (components_irreducible_L7 ks v x 0).wp Φ := by
  unfold Lb at hl
  refine Comp.loop_idx ks.length (fun k s => s = (k : Int) ∧ ∀ i (h : i < ks.length), i < k → ¬ (x ≠ ks[i] ∧ contM x ks[i])) (fun k s hk hs => ?_) (fun s hs => ?_) ⟨rfl, fun i _ hi => by omega⟩
  · obtain ⟨rfl, hi⟩ := hs
    show (if (k : Int) < (ks.length : Int) then _ else _ : Comp _).wp _
    rw [Comp.wp_ite, if_pos (by omega)]
    have more : ¬ (x ≠ ks[k] ∧ contM x ks[k]) → IntKind.i64.wrap ((k : Int) + 1) = ((k + 1 : Nat) : Int) ∧ ∀ i (h : i < ks.length), i < k + 1 → ¬ (x ≠ ks[i] ∧ contM x ks[i]) := fun hno => ⟨wrapN (by omega), fun i h1 h2 => by
      by_cases e : i = k
      · subst e; exact hno
      · exact hi i h1 (by omega)⟩
    refine ⟨ks[k], idxN hk, ?_⟩
    rw [Comp.wp_ite]
    split
    · rename_i hne
      refine ⟨_, contains_ret _ _, ?_⟩
      rw [Comp.wp_ite]
      split
      · rename_i hc
        exact h1 ⟨ks[k], List.getElem_mem hk, hne, of_decide_eq_true hc⟩
      · rename_i hc
        exact more (fun h => hc (decide_eq_true h.2))
    · rename_i hne
      exact more (fun h => hne h.1)
  · obtain ⟨rfl, hi⟩ := hs
    show (if ((ks.length : Nat) : Int) < (ks.length : Int) then _ else _ : Comp _).wp _
    rw [Comp.wp_ite, if_neg (by omega)]
    refine h2 ?_
    rintro ⟨b, hb, hb2⟩
    obtain ⟨i, hi1, rfl⟩ := List.mem_iff_getElem.1 hb
    exact hi i hi1 hi1 hb2
theorem L4_ret {ks : List M} (hl : Lb ks) : (components_irreducible_L4 ks ([], 0)).Ret (ks.filter fun a => !decide (redM ks a)) := by
  have hl' := hl
  unfold Lb at hl
  refine Comp.loop_idx ks.length (fun k s => s = ((ks.take k).filter (fun a => !decide (redM ks a)), (k : Int))) (fun k s hk hs => ?_) (fun s hs => ?_) rfl
  · subst hs
    show (if (k : Int) < (ks.length : Int) then _ else _ : Comp _).wp _
    rw [Comp.wp_ite, if_pos (by omega)]
    refine ⟨ks[k], idxN hk, ?_⟩
    have ht : ks.take (k + 1) = ks.take k ++ [ks[k]] := (List.take_append_getElem hk).symm
    have hlen : ((ks.take k).filter (fun a => !decide (redM ks a))).length ≤ k := by
      have := List.length_filter_le (fun a => !decide (redM ks a)) (ks.take k)
      simp at this ⊢; omega
    refine L7_ret hl' _ (fun h => ?_) (fun h => ?_)
    · show _ = _
      rw [wrapN (by omega), ht, List.filter_append]
      simp [h]
    · refine ⟨by simp only [List.length_append, List.length_cons, List.length_nil, small]; omega, ?_⟩
      show _ = _
      rw [wrapN (by omega), ht, List.filter_append]
      simp [h]
  · subst hs
    show (if ((ks.length : Nat) : Int) < (ks.length : Int) then _ else _ : Comp _).wp _
    rw [Comp.wp_ite, if_neg (by omega), List.take_length]
    rfl
theorem L11_ret {ys : List M} {D : List (M × Bool)} (hw : ∀ y ∈ ys, Wf y) (hl : D.length + ys.length ≤ 1000000000) : (components_irreducible_L11 ys (0, D)).Ret (putAll D ys) := by
  have hb : ∀ (l : List M) (D : List (M × Bool)), (putAll D l).length ≤ D.length + l.length := by
    intro l
    induction l with
    | nil => intro D; simp [putAll]
    | cons b l ih => intro D; have := ih (mput D b true); have := mput_length D b true; simp only [putAll, List.foldl_cons, List.length_cons] at *; omega
  refine Comp.loop_idx ys.length (fun k s => s = ((k : Int), putAll D (ys.take k))) (fun k s hk hs => ?_) (fun s hs => ?_) rfl
  · subst hs
    show (if (k : Int) < (ys.length : Int) then _ else _ : Comp _).wp _
    rw [Comp.wp_ite, if_pos (by omega)]
    have ht : putAll D (ys.take (k + 1)) = mput (putAll D (ys.take k)) ys[k] true := by
      rw [(List.take_append_getElem hk).symm, putAll, List.foldl_append]; rfl
    refine ⟨ys[k], idxN hk, ⟨hw _ (List.getElem_mem hk), ?_⟩, ?_⟩
    · have h1 := hb (ys.take k) D
      have h2 := mput_length (putAll D (ys.take k)) ys[k] true
      simp at h1
      show _ ≤ small
      simp only [small]
      omega
    · show _ = _
      rw [wrapN (by omega), ht]
  · subst hs
    show (if ((ys.length : Nat) : Int) < (ys.length : Int) then _ else _ : Comp _).wp _
    rw [Comp.wp_ite, if_neg (by omega), List.take_length]
    rfl
theorem L9_ret {R : List M} {g : M} (hw : ∀ y ∈ R, Wf y) (hg : Wf g) (hl : R.length * 8 ≤ 1000000000) : (components_irreducible_L9 R g (0, [])).Ret (putAll [] (R.flatMap (splitM · g))) := by
  refine Comp.loop_idx R.length (fun k s => s = ((k : Int), putAll [] ((R.take k).flatMap (splitM · g)))) (fun k s hk hs => ?_) (fun s hs => ?_) rfl
  · subst hs
    show (if (k : Int) < (R.length : Int) then _ else _ : Comp _).wp _
    rw [Comp.wp_ite, if_pos (by omega)]
    have ht : putAll [] ((R.take (k + 1)).flatMap (splitM · g)) = putAll (putAll [] ((R.take k).flatMap (splitM · g))) (splitM R[k] g) := by
      rw [(List.take_append_getElem hk).symm, List.flatMap_append]
      simp [putAll, List.foldl_append]
    refine ⟨R[k], idxN hk, _, split_ret _ _, ?_⟩
    have h1 := flatMap_len (splitM · g) 8 (R.take k) (fun e _ => splitM_length e g)
    have h2 := (putAll_spec [] ((R.take k).flatMap (splitM · g)) (by simp)).2.1
    have h3 := splitM_length R[k] g
    simp only [List.length_take, List.length_nil] at h1 h2
    have h4 : min k R.length * 8 ≤ (R.length - 1) * 8 := Nat.mul_le_mul_right _ (by omega)
    refine Comp.wp_next.2 ((L11_ret (fun y hy => splitM_Wf (hw _ (List.getElem_mem hk)) hg hy) (by omega)).then ?_)
    show _ = _
    rw [wrapN (by omega), ht]
  · subst hs
    show (if ((R.length : Nat) : Int) < (R.length : Int) then _ else _ : Comp _).wp _
    rw [Comp.wp_ite, if_neg (by omega), List.take_length]
    rfl
theorem sortR_eq {l l' : List M} (h : l.Perm l') : sortBy (fun a b => cmpM b a) l = sortBy (fun a b => cmpM b a) l' := by
  have tr : ∀ a b c : M, (!(Go.Proofs.ltOf fun a b => cmpM b a) b a) = true → (!(Go.Proofs.ltOf fun a b => cmpM b a) c b) = true → (!(Go.Proofs.ltOf fun a b => cmpM b a) c a) = true := fun a b c h1 h2 => by
    simp only [Bool.not_eq_true'] at *
    exact swoR.ntrans _ _ _ h2 h1
  have to : ∀ a b : M, ((!(Go.Proofs.ltOf fun a b => cmpM b a) b a) || (!(Go.Proofs.ltOf fun a b => cmpM b a) a b)) = true := fun a b => by
    simp only [Go.Proofs.ltOf, Bool.or_eq_true, Bool.not_eq_true', decide_eq_false_iff_not]
    have := cmpM_neg a b
    omega
  refine List.Perm.eq_of_pairwise (le := fun a b => (!(Go.Proofs.ltOf fun a b => cmpM b a) b a) = true) (fun a b _ _ h1 h2 => ?_) (List.pairwise_mergeSort tr to l) (List.pairwise_mergeSort tr to l') (((List.mergeSort_perm l _).trans h).trans (List.mergeSort_perm l' _).symm)
  simp only [Bool.not_eq_true'] at h1 h2
  exact totR a b h2 h1
theorem pow8 : ∀ {k : Nat}, k ≤ 8 → 8 ^ k ≤ 16777216 := fun h => Nat.le_trans (Nat.pow_le_pow_right (by decide) h) (by decide)
theorem irreducible_ret {l : List M} (hl : Lb l) (h8 : (minimalM l).length ≤ 8) (hw : ∀ m ∈ l, Wf m) : (components_irreducible l).Ret (irrF l) := by
  refine ⟨_, monomial_Minimal_ret hl, ?_⟩
  have hwg : ∀ m ∈ minimalM l, Wf m := fun m hm => hw m (minimalM_mem.1 hm).1
  show (Comp.loop _ _).wp _
  refine Comp.loop_idx (minimalM l).length (fun k s => ∃ R : List M, s = (R, (k : Int)) ∧ R.Nodup ∧ (∀ x, x ∈ R ↔ x ∈ irrAcc ((minimalM l).take k)) ∧ (∀ x ∈ R, Wf x) ∧ R.length ≤ 8 ^ k) (fun k s hk hs => ?_) (fun s hs => ?_)
    ⟨[zeroM], rfl, by simp, fun x => by simp [irrAcc], fun x hx => by simp only [List.mem_singleton] at hx; subst hx; exact Wf_zero, by simp⟩
  · obtain ⟨R, rfl, hnd, hmem, hwf, hlen⟩ := hs
    show (if (k : Int) < ((minimalM l).length : Int) then _ else _ : Comp _).wp _
    rw [Comp.wp_ite, if_pos (by omega)]
    have hp := pow8 (k := k) (by omega)
    have hp1 : 8 ^ (k + 1) = 8 ^ k * 8 := rfl
    refine ⟨(minimalM l)[k], idxN hk, Comp.wp_next.2 ((L9_ret hwf (hwg _ (List.getElem_mem hk)) (by omega)).then ?_)⟩
    obtain ⟨s1, s2, s3⟩ := putAll_spec [] (R.flatMap (splitM · (minimalM l)[k])) (by simp)
    have hfl := flatMap_len (splitM · (minimalM l)[k]) 8 R (fun e _ => splitM_length e _)
    intro ks hks
    have hkl : ks.length ≤ R.length * 8 := by
      have := hks.length_eq
      simp only [List.length_map] at this
      simp only [List.length_nil] at s2
      omega
    have hkm : ∀ x, x ∈ ks ↔ x ∈ R.flatMap (splitM · (minimalM l)[k]) := fun x => by rw [hks.mem_iff, s3]; simp
    refine Comp.wp_next.2 ((L4_ret (ks := ks) (by unfold Lb; omega)).then ?_)
    refine ⟨_, by rw [wrapN (by omega)], (hks.nodup_iff.2 s1).filter _, fun x => ?_, fun x hx => ?_, ?_⟩
    · have ht : irrAcc ((minimalM l).take (k + 1)) = irrStep (irrAcc ((minimalM l).take k)) (minimalM l)[k] := by
        rw [(List.take_append_getElem hk).symm, irrAcc, List.foldl_append]; rfl
      have hF : ∀ y, y ∈ R.flatMap (splitM · (minimalM l)[k]) ↔ y ∈ (irrAcc ((minimalM l).take k)).flatMap (splitM · (minimalM l)[k]) := fun y => by
        simp only [List.mem_flatMap, hmem]
      rw [ht, irrStep_mem, List.mem_filter, hkm, hF]
      simp only [Bool.not_eq_true', decide_eq_false_iff_not]
      rw [redM_congr (fun y => (hkm y).trans (hF y))]
    · obtain ⟨y, hy, hxy⟩ := List.mem_flatMap.1 ((hkm x).1 (List.mem_filter.1 hx).1)
      exact splitM_Wf (hwf y hy) (hwg _ (List.getElem_mem hk)) hxy
    · refine Nat.le_trans (List.length_filter_le _ ks) ?_
      rw [hp1]
      exact Nat.le_trans hkl (Nat.mul_le_mul_right _ hlen)
  · obtain ⟨R, rfl, hnd, hmem, hwf, hlen⟩ := hs
    show (if (((minimalM l).length : Nat) : Int) < ((minimalM l).length : Int) then _ else _ : Comp _).wp _
    rw [Comp.wp_ite, if_neg (by omega)]
    rw [List.take_length] at hmem
    have hp := pow8 h8
    refine ⟨_, ⟨by simp only [small]; omega, rfl⟩, ?_⟩
    show _ = irrF l
    refine sortR_eq ((List.perm_ext_iff_of_nodup hnd ?_).2 hmem)
    clear hmem hwg h8 hlen hp
    generalize minimalM l = gs
    rcases List.eq_nil_or_concat gs with rfl | ⟨gs', g, rfl⟩
    · simp [irrAcc]
    · rw [irrAcc, List.concat_eq_append, List.foldl_append]; exact irrStep_nodup _ _
end Go.EL
