/- The decomposition of monomial ideals into irreducible ones, in plain mathematics. The conditions stand in each statement. -/
import Derived.Test.YtbdknlblnfnkkaaPl
namespace Go.EL
open Go
/-- No negative exponents. -/
def Nn (a : M) : Prop := ∀ i, 0 ≤ a i
/-- t lies in the irreducible ideal of a. -/
def irrIn (a t : M) : Prop := ∃ i, 0 < a i ∧ a i ≤ t i
theorem setF_at {a : M} {i : Fin 8} {x : Int} : setF a i.val x i = x := by simp [setF]
theorem setF_ne {a : M} {i j : Fin 8} {x : Int} (h : j ≠ i) : setF a i.val x j = a j := by
  unfold setF; rw [if_neg (fun e => h (Fin.ext e))]
theorem split_in {a g t : M} (ht : Nn t) : (∀ b ∈ splitM a g, irrIn b t) ↔ irrIn a t ∨ dvdM g t := by
  unfold splitM
  by_cases h : ∃ i, 0 < a i ∧ a i ≤ g i
  · rw [if_pos h]
    obtain ⟨i, h1, h2⟩ := h
    constructor
    · intro hb; exact .inl (hb a (by simp))
    · rintro (hb | hb) b hm
      · simp at hm; subst hm; exact hb
      · simp at hm; subst hm; exact ⟨i, h1, Int.le_trans h2 (hb i)⟩
  · rw [if_neg h]
    simp only [splitTo_mem (Nat.le_refl 8)]
    constructor
    · intro hb
      by_cases ha : irrIn a t
      · exact .inl ha
      · refine .inr fun i => ?_
        by_cases hg : 0 < g i
        · obtain ⟨k, h1, h2⟩ := hb _ ⟨i, i.isLt, hg, rfl⟩
          by_cases e : k = i
          · subst e; rw [setF_at] at h2; exact h2
          · rw [setF_ne e] at h1 h2; exact absurd ⟨k, h1, h2⟩ ha
        · have := ht i; omega
    · rintro (⟨k, h1, h2⟩ | hd) b ⟨i, _, hg, rfl⟩
      · by_cases e : k = i
        · subst e
          refine ⟨k, by rw [setF_at]; exact hg, ?_⟩
          rw [setF_at]
          have : ¬ a k ≤ g k := fun h' => h ⟨k, h1, h'⟩
          omega
        · exact ⟨k, by rw [setF_ne e]; exact h1, by rw [setF_ne e]; exact h2⟩
      · exact ⟨i, by rw [setF_at]; exact hg, by rw [setF_at]; exact hd i⟩
theorem split_ind {Q : Fin 8 → Int → Prop} {a g b : M} (ha : ∀ i, Q i (a i)) (hg : ∀ i, Q i (g i)) (hb : b ∈ splitM a g) : ∀ i, Q i (b i) := by
  unfold splitM at hb
  split at hb
  · simp at hb; subst hb; exact ha
  · obtain ⟨k, _, _, rfl⟩ := (splitTo_mem (Nat.le_refl 8)).1 hb
    intro i
    by_cases e : i = k
    · subst e; rw [setF_at]; exact hg i
    · rw [setF_ne e]; exact ha i
theorem cont_in {a b t : M} (ha : Nn a) (h : contM a b) (hb : irrIn b t) : irrIn a t := by
  obtain ⟨i, h1, h2⟩ := hb
  obtain ⟨h3, h4⟩ := h i h1
  exact ⟨i, by have := ha i; omega, by omega⟩
theorem cont_refl (a : M) : contM a a := fun i h => ⟨by omega, by omega⟩
theorem cont_trans {a b c : M} (hb : Nn b) (h1 : contM a b) (h2 : contM b c) : contM a c := fun i h => by
  have h3 := h2 i h
  have h4 := h1 i (by have := hb i; omega)
  exact ⟨h4.1, by omega⟩
theorem cont_anti {a b : M} (ha : Nn a) (hb : Nn b) (h1 : contM a b) (h2 : contM b a) : a = b := by
  funext i
  have h3 := ha i
  have h4 := hb i
  have h5 := h1 i
  have h6 := h2 i
  by_cases e : 0 < b i
  · have := h5 e
    have := h6 (by omega)
    omega
  · by_cases e' : 0 < a i
    · have := h6 e'; omega
    · omega
theorem filter_lt {α : Type} {p q : α → Bool} (hpq : ∀ x, p x = true → q x = true) {y : α} (h1 : p y = false) (h2 : q y = true) : ∀ {l : List α}, y ∈ l → (l.filter p).length < (l.filter q).length
  | x :: l, h => by
    have hle : ∀ l : List α, (l.filter p).length ≤ (l.filter q).length := fun l => by
      induction l with
      | nil => simp
      | cons z l ih =>
        simp only [List.filter_cons]
        split
        · rename_i hz; rw [if_pos (hpq z hz)]; simp; omega
        · split
          · simp; omega
          · exact ih
    rcases List.mem_cons.1 h with rfl | h
    · simp only [List.filter_cons, h1, h2, if_true]
      have := hle l
      simp; omega
    · have ih := filter_lt hpq h1 h2 h
      simp only [List.filter_cons]
      split
      · rename_i hz; rw [if_pos (hpq x hz)]; simp; omega
      · split
        · simp; omega
        · exact ih
/-- Every component contains one that is not redundant. -/
theorem least_below {F : List M} (hF : ∀ x ∈ F, Nn x) : ∀ (n : Nat) {x : M}, x ∈ F → (F.filter fun z => decide (contM x z)).length ≤ n → ∃ y ∈ F, ¬ redM F y ∧ contM x y := by
  intro n
  induction n with
  | zero =>
    intro x hx hn
    exfalso
    have : x ∈ F.filter fun z => decide (contM x z) := List.mem_filter.2 ⟨hx, decide_eq_true (cont_refl x)⟩
    have := List.length_pos_of_mem this
    omega
  | succ n ih =>
    intro x hx hn
    by_cases hr : redM F x
    · obtain ⟨b, hb, hne, hc⟩ := hr
      have hlt := filter_lt (p := fun z => decide (contM b z)) (q := fun z => decide (contM x z)) (fun z hz => decide_eq_true (cont_trans (hF b hb) hc (of_decide_eq_true hz))) (y := x) (decide_eq_false fun h => hne (cont_anti (hF x hx) (hF b hb) hc h)) (decide_eq_true (cont_refl x)) hx
      obtain ⟨y, hy, h1, h2⟩ := ih hb (by omega)
      exact ⟨y, hy, h1, cont_trans (hF b hb) hc h2⟩
    · exact ⟨x, hx, hr, cont_refl x⟩
/-- What is shown of the components of a list of generators. -/
structure IrrOk (G S : List M) : Prop where
  nn : ∀ a ∈ S, Nn a
  mem : ∀ t, Nn t → ((∀ a ∈ S, irrIn a t) ↔ ∃ g ∈ G, dvdM g t)
  anti : ∀ a ∈ S, ∀ b ∈ S, contM a b → a = b
  nodup : S.Nodup
theorem irr_step {G S : List M} {g : M} (h : IrrOk G S) (hg : Nn g) : IrrOk (G ++ [g]) (irrStep S g) := by
  have hF : ∀ x ∈ S.flatMap (splitM · g), Nn x := fun x hx => by
    obtain ⟨a, ha, hx⟩ := List.mem_flatMap.1 hx
    exact split_ind (Q := fun _ z => 0 ≤ z) (h.nn a ha) hg hx
  refine ⟨fun a ha => hF a (irrStep_mem.1 ha).1, fun t ht => ?_, fun a ha b hb hc => ?_, irrStep_nodup S g⟩
  · constructor
    · intro hs
      have hall : ∀ b ∈ S.flatMap (splitM · g), irrIn b t := fun b hb => by
        obtain ⟨y, hy, h1, h2⟩ := least_below hF _ hb (Nat.le_refl _)
        exact cont_in (hF b hb) h2 (hs y (irrStep_mem.2 ⟨hy, h1⟩))
      by_cases hd : dvdM g t
      · exact ⟨g, by simp, hd⟩
      · obtain ⟨g', hg', hd'⟩ := (h.mem t ht).1 fun a ha => ((split_in ht).1 fun b hb => hall b (List.mem_flatMap.2 ⟨a, ha, hb⟩)).resolve_right hd
        exact ⟨g', by simp [hg'], hd'⟩
    · rintro ⟨g', hg', hd⟩ a ha
      obtain ⟨s, hs, ha⟩ := List.mem_flatMap.1 (irrStep_mem.1 ha).1
      refine (split_in ht).2 ?_ a ha
      rcases List.mem_append.1 hg' with hg' | hg'
      · exact .inl ((h.mem t ht).2 ⟨g', hg', hd⟩ s hs)
      · simp at hg'; subst hg'; exact .inr hd
  · apply Classical.byContradiction
    intro hne
    exact (irrStep_mem.1 ha).2 ⟨b, (irrStep_mem.1 hb).1, hne, hc⟩
theorem irrAcc_snoc (T : List M) (a : M) : irrAcc (T ++ [a]) = irrStep (irrAcc T) a := by unfold irrAcc; rw [List.foldl_append]; rfl
theorem irr_ok : ∀ G : List M, (∀ g ∈ G, Nn g) → IrrOk G (irrAcc G) := snoc_ind (fun _ => ⟨fun a ha => by simp [irrAcc] at ha; subst ha; exact fun _ => Int.le_refl _, fun t _ => ⟨fun h => by
      obtain ⟨i, h1, _⟩ := h zeroM (by simp [irrAcc])
      simp [zeroM] at h1, fun ⟨g, hg, _⟩ => by simp at hg⟩, fun a ha b hb _ => by simp [irrAcc] at ha hb; rw [ha, hb], by simp [irrAcc]⟩) fun T a ih h => by
  rw [irrAcc_snoc]
  exact irr_step (ih fun g hg => h g (by simp [hg])) (h a (by simp))
theorem irr_ind {Q : Fin 8 → Int → Prop} (h0 : ∀ i, Q i 0) : ∀ G : List M, (∀ g ∈ G, ∀ i, Q i (g i)) → ∀ a ∈ irrAcc G, ∀ i, Q i (a i) := snoc_ind (fun _ a ha => by simp [irrAcc] at ha; subst ha; exact h0) fun T a ih h b hb => by
  rw [irrAcc_snoc] at hb
  obtain ⟨s, hs, hb⟩ := List.mem_flatMap.1 (irrStep_mem.1 hb).1
  exact split_ind (ih (fun g hg => h g (by simp [hg])) s hs) (h a (by simp)) hb
theorem irrF_perm (l : List M) : (irrF l).Perm (irrAcc (minimalM l)) := sortBy_perm _ _
theorem irrF_ok {l : List M} (h : ∀ g ∈ l, Nn g) : IrrOk l (irrF l) := by
  have h1 := irr_ok (minimalM l) fun g hg => h g (minimalM_mem.1 hg).1
  have hm := fun x => (irrF_perm l).mem_iff (a := x)
  refine ⟨fun a ha => h1.nn a ((hm a).1 ha), fun t ht => ?_, fun a ha b hb => h1.anti a ((hm a).1 ha) b ((hm b).1 hb), (irrF_perm l).nodup_iff.2 h1.nodup⟩
  have h2 := h1.mem t ht
  simp only [hm]
  rw [h2, ← inM_iff, ← inM_iff, ← inM_minimal]
theorem irrF_ind {Q : Fin 8 → Int → Prop} (h0 : ∀ i, Q i 0) {l : List M} (h : ∀ g ∈ l, ∀ i, Q i (g i)) : ∀ a ∈ irrF l, ∀ i, Q i (a i) := fun a ha =>
  irr_ind h0 (minimalM l) (fun g hg => h g (minimalM_mem.1 hg).1) a ((irrF_perm l).mem_iff.1 ha)
theorem irrF_dec {l : List M} (h : ∀ g ∈ l, Nn g) : Dec (irrF l) := by
  have tr : ∀ a b c : M, (!(Go.Proofs.ltOf fun a b => cmpM b a) b a) = true → (!(Go.Proofs.ltOf fun a b => cmpM b a) c b) = true → (!(Go.Proofs.ltOf fun a b => cmpM b a) c a) = true := fun a b c h1 h2 => by
    simp only [Bool.not_eq_true'] at *
    exact swoR.ntrans _ _ _ h2 h1
  have to : ∀ a b : M, ((!(Go.Proofs.ltOf fun a b => cmpM b a) b a) || (!(Go.Proofs.ltOf fun a b => cmpM b a) a b)) = true := fun a b => by
    simp only [Go.Proofs.ltOf, Bool.or_eq_true, Bool.not_eq_true', decide_eq_false_iff_not]
    have := cmpM_neg a b
    omega
  have hs : (irrF l).Pairwise fun a b => (!(Go.Proofs.ltOf fun a b => cmpM b a) b a) = true := List.pairwise_mergeSort tr to _
  refine (hs.and (irrF_ok h).nodup).imp fun {a b} hab => ?_
  have h1 := hab.1
  simp only [Go.Proofs.ltOf, Bool.not_eq_true', decide_eq_false_iff_not] at h1
  have h2 : cmpM b a ≠ 0 := fun e => hab.2 (cmpM_zero e).symm
  have := cmpM_neg a b
  omega
/-- A monomial in all components but one. -/
def outside (a : M) (B : Int) : M := fun i => if a i = 0 then B else a i - 1
theorem outside_spec {a : M} {B : Int} (ha : Nn a) (hB : 0 ≤ B) : Nn (outside a B) ∧ ¬ irrIn a (outside a B) ∧ ∀ b : M, (∀ i, b i ≤ B) → ¬ contM a b → irrIn b (outside a B) := by
  refine ⟨fun i => ?_, fun ⟨i, h1, h2⟩ => ?_, fun b hb hc => ?_⟩
  · have := ha i; unfold outside; split <;> omega
  · unfold outside at h2; split at h2 <;> omega
  · have : ∃ i, 0 < b i ∧ ¬ (¬ a i = 0 ∧ a i ≤ b i) := by
      apply Classical.byContradiction
      intro h
      exact hc fun i hi => Classical.byContradiction fun h' => h ⟨i, hi, h'⟩
    obtain ⟨i, h1, h2⟩ := this
    refine ⟨i, h1, ?_⟩
    have h3 := hb i
    have h4 := ha i
    unfold outside
    split
    · exact h3
    · rename_i e
      have : ¬ a i ≤ b i := fun h' => h2 ⟨e, h'⟩
      omega
/-- Lists of generators without superfluous ones are the same, if the ideals are. -/
theorem minimal_eq {X Y : List M} (hX : minimalM X = X) (hY : minimalM Y = Y) (nX : ∀ x ∈ X, Nn x) (nY : ∀ y ∈ Y, Nn y) (h : ∀ t, Nn t → inM t X = inM t Y) : X = Y := by
  have half : ∀ {X Y : List M}, minimalM X = X → (∀ x ∈ X, Nn x) → (∀ y ∈ Y, Nn y) → (∀ t, Nn t → inM t X = inM t Y) → ∀ x ∈ X, x ∈ Y := by
    intro X Y hX nX nY h x hx
    have h1 : inM x Y = true := by rw [← h x (nX x hx)]; exact inM_iff.2 ⟨x, hx, dvd_refl x⟩
    obtain ⟨y, hy, hyx⟩ := inM_iff.1 h1
    have h2 : inM y X = true := by rw [h y (nY y hy)]; exact inM_iff.2 ⟨y, hy, dvd_refl y⟩
    obtain ⟨x', hx', hxy⟩ := inM_iff.1 h2
    have h3 := (minimalM_mem.1 (by rw [hX]; exact hx : x ∈ minimalM X)).2 x' hx' (dvd_trans hxy hyx)
    subst h3
    rw [dvd_antisymm hxy hyx]; exact hy
  have d1 : Dec X := by rw [← hX]; exact minimalM_strict X
  have d2 : Dec Y := by rw [← hY]; exact minimalM_strict Y
  exact dec_ext d1 d2 fun m => ⟨half hX nX nY h m, half hY nY nX (fun t ht => (h t ht).symm) m⟩
/-- The intersection of irreducible ideals. -/
def meetAll (A : List M) : List M := A.foldl (fun o a => meetStep o (gensM a)) [zeroM]
theorem gens_in {a t : M} (ht : Nn t) : inM t (gensM a) = true ↔ irrIn a t := by
  rw [inM_iff]
  unfold gensM irrIn
  constructor
  · rintro ⟨d, hd, hdt⟩
    obtain ⟨i, _, h1, rfl⟩ := (splitTo_mem (Nat.le_refl 8)).1 hd
    have := hdt i
    rw [setF_at] at this
    exact ⟨i, h1, this⟩
  · rintro ⟨i, h1, h2⟩
    refine ⟨_, (splitTo_mem (Nat.le_refl 8)).2 ⟨i, i.isLt, h1, rfl⟩, fun j => ?_⟩
    by_cases e : j = i
    · subst e; rw [setF_at]; exact h2
    · rw [setF_ne e]; exact ht j
theorem step_in (t : M) (R m : List M) : inM t (meetStep R m) = (inM t R && inM t m) := by
  have h1 : inM t (meetStep R m) = inM t (R.flatMap fun a => m.map (maxM a)) := (inM_minimal _ _).symm
  rw [h1, Bool.eq_iff_iff, Bool.and_eq_true, inM_iff, inM_iff, inM_iff]
  constructor
  · rintro ⟨d, hd, hdt⟩
    obtain ⟨a, ha, hd⟩ := List.mem_flatMap.1 hd
    obtain ⟨b, hb, rfl⟩ := List.mem_map.1 hd
    exact ⟨⟨a, ha, (max_dvd_iff.1 hdt).1⟩, ⟨b, hb, (max_dvd_iff.1 hdt).2⟩⟩
  · rintro ⟨⟨a, ha, h1⟩, ⟨b, hb, h2⟩⟩
    exact ⟨maxM a b, List.mem_flatMap.2 ⟨a, ha, List.mem_map.2 ⟨b, hb, rfl⟩⟩, max_dvd_iff.2 ⟨h1, h2⟩⟩
theorem meetAll_snoc (T : List M) (a : M) : meetAll (T ++ [a]) = meetStep (meetAll T) (gensM a) := by unfold meetAll; rw [List.foldl_append]; rfl
theorem minimal_one : minimalM [zeroM] = [zeroM] := by rw [minimal_run]; decide +kernel
theorem meetAll_min : ∀ A : List M, minimalM (meetAll A) = meetAll A := snoc_ind minimal_one fun T a _ => by rw [meetAll_snoc]; exact minimal_idem _
theorem meetAll_in {t : M} (ht : Nn t) : ∀ A : List M, (inM t (meetAll A) = true ↔ ∀ a ∈ A, irrIn a t) := snoc_ind (by
    simp only [List.not_mem_nil, false_implies, implies_true, iff_true]
    exact inM_iff.2 ⟨zeroM, by simp [meetAll], ht⟩) fun T a ih => by
  rw [meetAll_snoc, step_in, Bool.and_eq_true, ih, gens_in ht]
  constructor
  · rintro ⟨h1, h2⟩ b hb
    rcases List.mem_append.1 hb with hb | hb
    · exact h1 b hb
    · simp at hb; subst hb; exact h2
  · intro h; exact ⟨fun b hb => h b (by simp [hb]), h a (by simp)⟩
theorem step_ind {Q : Fin 8 → Int → Prop} {R m : List M} (hR : ∀ g ∈ R, ∀ i, Q i (g i)) (hm : ∀ g ∈ m, ∀ i, Q i (g i)) : ∀ x ∈ meetStep R m, ∀ i, Q i (x i) := fun x hx i => by
  obtain ⟨a, ha, hx⟩ := List.mem_flatMap.1 (minimalM_mem.1 hx).1
  obtain ⟨b, hb, rfl⟩ := List.mem_map.1 hx
  unfold maxM
  split
  · exact hm b hb i
  · exact hR a ha i
theorem gens_ind {Q : Fin 8 → Int → Prop} (h0 : ∀ i, Q i 0) {a : M} (ha : ∀ i, Q i (a i)) : ∀ x ∈ gensM a, ∀ i, Q i (x i) := fun x hx i => by
  obtain ⟨k, _, _, rfl⟩ := (splitTo_mem (Nat.le_refl 8)).1 hx
  by_cases e : i = k
  · subst e; rw [setF_at]; exact ha i
  · rw [setF_ne e]; exact h0 i
theorem meetAll_ind {Q : Fin 8 → Int → Prop} (h0 : ∀ i, Q i 0) : ∀ A : List M, (∀ a ∈ A, ∀ i, Q i (a i)) → ∀ x ∈ meetAll A, ∀ i, Q i (x i) := snoc_ind (fun _ x hx => by simp [meetAll] at hx; subst hx; exact h0) fun T a ih h x hx => by
  rw [meetAll_snoc] at hx
  exact step_ind (ih fun b hb => h b (by simp [hb])) (gens_ind h0 (h a (by simp))) x hx
theorem nodup_lt : ∀ (n : Nat) {l : List Nat}, l.Nodup → (∀ x ∈ l, x < n) → l.length ≤ n
  | 0, l, _, h => by
    cases l with
    | nil => simp
    | cons x l => exact absurd (h x (by simp)) (by omega)
  | n + 1, l, hn, h => by
    by_cases hm : n ∈ l
    · have h1 := nodup_lt n (l := l.erase n) (hn.erase n) (fun x hx => by
        have h2 := (hn.mem_erase_iff).1 hx
        have := h x h2.2
        have := h2.1
        omega)
      rw [List.length_erase_of_mem hm] at h1
      omega
    · have := nodup_lt n hn (fun x hx => by
        have := h x hx
        have : x ≠ n := fun e => hm (e ▸ hx)
        omega)
      omega
theorem code_len {l : List M} (c : M → Nat) (n : Nat) (hn : l.Nodup) (hc : ∀ x ∈ l, c x < n) (hi : ∀ x ∈ l, ∀ y ∈ l, c x = c y → x = y) : l.length ≤ n := by
  have h1 : (l.map c).Nodup := by
    rw [List.Nodup, List.pairwise_map]
    exact hn.imp_of_mem fun {a b} ha hb hab e => hab (hi a ha b hb e)
  have := nodup_lt n h1 (fun x hx => by obtain ⟨y, hy, rfl⟩ := List.mem_map.1 hx; exact hc y hy)
  simpa using this
/-- Small exponents, in four variables. -/
def Qs (i : Fin 8) (x : Int) : Prop := 0 ≤ x ∧ x ≤ 3 ∧ (4 ≤ i.val → x = 0)
def Sm (m : M) : Prop := ∀ i, Qs i (m i)
theorem sm_few {l : List M} (h : ∀ m ∈ l, Sm m) (hn : l.Nodup) : l.length ≤ 256 := by
  refine code_len (fun m => (m 0 + 4 * m 1 + 16 * m 2 + 64 * m 3).toNat) 256 hn (fun x hx => ?_) (fun x hx y hy e => ?_)
  · have h0 := h x hx 0; have h1 := h x hx 1; have h2 := h x hx 2; have h3 := h x hx 3
    unfold Qs at h0 h1 h2 h3
    show Int.toNat _ < 256
    omega
  · have h0 := h x hx 0; have h1 := h x hx 1; have h2 := h x hx 2; have h3 := h x hx 3
    have g0 := h y hy 0; have g1 := h y hy 1; have g2 := h y hy 2; have g3 := h y hy 3
    unfold Qs at h0 h1 h2 h3 g0 g1 g2 g3
    replace e : Int.toNat _ = Int.toNat _ := e
    funext i
    match i with
    | 0 => omega
    | 1 => omega
    | 2 => omega
    | 3 => omega
    | 4 => have := (h x hx 4).2.2 (by decide); have := (h y hy 4).2.2 (by decide); omega
    | 5 => have := (h x hx 5).2.2 (by decide); have := (h y hy 5).2.2 (by decide); omega
    | 6 => have := (h x hx 6).2.2 (by decide); have := (h y hy 6).2.2 (by decide); omega
    | 7 => have := (h x hx 7).2.2 (by decide); have := (h y hy 7).2.2 (by decide); omega
theorem irr_few {G S : List M} (h : IrrOk G S) (hs : ∀ m ∈ S, Sm m) : S.length ≤ 64 := by
  refine code_len (fun m => (m 0 + 4 * m 1 + 16 * m 2).toNat) 64 h.nodup (fun x hx => ?_) (fun x hx y hy e => ?_)
  · have h0 := hs x hx 0; have h1 := hs x hx 1; have h2 := hs x hx 2
    unfold Qs at h0 h1 h2
    show Int.toNat _ < 64
    omega
  · have h0 := hs x hx 0; have h1 := hs x hx 1; have h2 := hs x hx 2; have h3 := hs x hx 3
    have g0 := hs y hy 0; have g1 := hs y hy 1; have g2 := hs y hy 2; have g3 := hs y hy 3
    unfold Qs at h0 h1 h2 h3 g0 g1 g2 g3
    replace e : Int.toNat _ = Int.toNat _ := e
    have e0 : x 0 = y 0 := by omega
    have e1 : x 1 = y 1 := by omega
    have e2 : x 2 = y 2 := by omega
    have key : ∀ a b : M, (∀ i, Qs i (a i)) → (∀ i, Qs i (b i)) → a 0 = b 0 → a 1 = b 1 → a 2 = b 2 → (b 3 = 0 ∨ (a 3 ≠ 0 ∧ a 3 ≤ b 3)) → contM a b := by
      intro a b ha hb h0 h1 h2 h3 i hi
      match i with
      | 0 => exact ⟨by omega, by omega⟩
      | 1 => exact ⟨by omega, by omega⟩
      | 2 => exact ⟨by omega, by omega⟩
      | 3 => rcases h3 with h3 | h3
             · omega
             · exact h3
      | 4 => have := (hb 4).2.2 (by decide); omega
      | 5 => have := (hb 5).2.2 (by decide); omega
      | 6 => have := (hb 6).2.2 (by decide); omega
      | 7 => have := (hb 7).2.2 (by decide); omega
    by_cases c : y 3 = 0 ∨ (x 3 ≠ 0 ∧ x 3 ≤ y 3)
    · exact h.anti x hx y hy (key x y (hs x hx) (hs y hy) e0 e1 e2 c)
    · exact (h.anti y hy x hx (key y x (hs y hy) (hs x hx) e0.symm e1.symm e2.symm (by omega))).symm
end Go.EL
