/- The law ComponentsMatchReference on the models. The conditions stand in each statement. -/
import Derived.Test.YtbdknlblnfnkkaaPG
namespace Go.EL
open Go
/-- Each component of one decomposition contains one of the other. -/
theorem irr_cover {G S S' : List M} (h : IrrOk G S) (h' : IrrOk G S') (hs' : ∀ m ∈ S', Sm m) {a : M} (ha : a ∈ S) : ∃ b ∈ S', contM a b := by
  obtain ⟨h1, h2, h3⟩ := outside_spec (B := 3) (h.nn a ha) (by omega)
  apply Classical.byContradiction
  intro hno
  have hall : ∀ b ∈ S', irrIn b (outside a 3) := fun b hb => h3 b (fun i => (hs' b hb i).2.1) fun hc => hno ⟨b, hb, hc⟩
  exact h2 ((h.mem _ h1).2 ((h'.mem _ h1).1 hall) a ha)
/-- Components are determined by the ideal. -/
theorem irr_same {G S S' : List M} (h : IrrOk G S) (h' : IrrOk G S') (hs : ∀ m ∈ S, Sm m) (hs' : ∀ m ∈ S', Sm m) {a : M} (ha : a ∈ S) : a ∈ S' := by
  obtain ⟨b, hb, hab⟩ := irr_cover h h' hs' ha
  obtain ⟨c, hc, hbc⟩ := irr_cover h' h hs hb
  have e := h.anti a ha c hc (cont_trans (h'.nn b hb) hab hbc)
  subst e
  have e := cont_anti (h.nn a ha) (h'.nn b hb) hab hbc
  subst e
  exact hb
def splR (a g : M) (i : Fin 8) : M := if a i = 0 ∨ g i < a i then setF a i.val (g i) else a
def splitRTo (a g : M) : Nat → List M
  | 0 => []
  | k + 1 => splitRTo a g k ++ (if h : k < 8 then (if 0 < g ⟨k, h⟩ then [splR a g ⟨k, h⟩] else []) else [])
theorem splitRTo_length (a g : M) : ∀ k, (splitRTo a g k).length ≤ k
  | 0 => by simp [splitRTo]
  | k + 1 => by
    have := splitRTo_length a g k
    simp only [splitRTo, List.length_append]
    split
    · split <;> simp <;> omega
    · simp; omega
theorem splitRTo_mem {a g x : M} : ∀ {k}, k ≤ 8 → (x ∈ splitRTo a g k ↔ ∃ i : Fin 8, i.val < k ∧ 0 < g i ∧ x = splR a g i)
  | 0, _ => by simp [splitRTo]
  | k + 1, hk => by
    have h : k < 8 := by omega
    simp only [splitRTo, List.mem_append, splitRTo_mem (by omega : k ≤ 8), dif_pos h]
    constructor
    · rintro (⟨i, h1, h2, h3⟩ | h1)
      · exact ⟨i, by omega, h2, h3⟩
      · split at h1
        · rename_i hp; simp only [List.mem_singleton] at h1; exact ⟨⟨k, h⟩, by simp, hp, h1⟩
        · simp at h1
    · rintro ⟨i, h1, h2, h3⟩
      by_cases e : i.val = k
      · right
        have : i = ⟨k, h⟩ := Fin.ext e
        subst this
        rw [if_pos h2, h3]; simp
      · exact .inl ⟨i, by omega, h2, h3⟩
def splitR (a g : M) : List M := splitRTo a g 8
theorem splitR_mem {a g x : M} : x ∈ splitR a g ↔ ∃ i : Fin 8, 0 < g i ∧ x = splR a g i := by
  unfold splitR
  rw [splitRTo_mem (Nat.le_refl 8)]
  exact ⟨fun ⟨i, _, h⟩ => ⟨i, h⟩, fun ⟨i, h⟩ => ⟨i, i.isLt, h⟩⟩
theorem splitR_ind {Q : Fin 8 → Int → Prop} {a g b : M} (ha : ∀ i, Q i (a i)) (hg : ∀ i, Q i (g i)) (hb : b ∈ splitR a g) : ∀ i, Q i (b i) := by
  obtain ⟨k, _, rfl⟩ := splitR_mem.1 hb
  intro i
  unfold splR
  split
  · by_cases e : i = k
    · subst e; rw [setF_at]; exact hg i
    · rw [setF_ne e]; exact ha i
  · exact ha i
theorem splitR_in {a g t : M} (ht : Nn t) (ha : Nn a) : (∀ b ∈ splitR a g, irrIn b t) ↔ irrIn a t ∨ dvdM g t := by
  constructor
  · intro h
    by_cases hd : dvdM g t
    · exact .inr hd
    · left
      obtain ⟨i, hi⟩ := Classical.not_forall.1 hd
      have h0 := ht i
      obtain ⟨j, h1, h2⟩ := h _ (splitR_mem.2 ⟨i, by omega, rfl⟩)
      unfold splR at h1 h2
      split at h1
      · rename_i hc
        rw [if_pos hc] at h2
        by_cases e : j = i
        · subst e; rw [setF_at] at h1 h2; omega
        · rw [setF_ne e] at h1 h2; exact ⟨j, h1, h2⟩
      · rename_i hc
        rw [if_neg hc] at h2
        exact ⟨j, h1, h2⟩
  · intro h b hb
    obtain ⟨i, hi, rfl⟩ := splitR_mem.1 hb
    have hai := ha i
    unfold splR
    split
    · rename_i hc
      rcases h with ⟨j, h1, h2⟩ | h
      · by_cases e : j = i
        · subst e; exact ⟨j, by rw [setF_at]; exact hi, by rw [setF_at]; omega⟩
        · exact ⟨j, by rw [setF_ne e]; exact h1, by rw [setF_ne e]; exact h2⟩
      · exact ⟨i, by rw [setF_at]; exact hi, by rw [setF_at]; exact h i⟩
    · rename_i hc
      rcases h with h | h
      · exact h
      · have := h i
        exact ⟨i, by omega, by omega⟩
/-- One step of the reference. -/
structure Least (F S : List M) : Prop where
  mem : ∀ x, x ∈ S ↔ x ∈ F ∧ ¬ redM F x
  nodup : S.Nodup
theorem irr_stepR {G S S' : List M} {g : M} (h : IrrOk G S) (hg : Nn g) (hl : Least (S.flatMap (splitR · g)) S') : IrrOk (G ++ [g]) S' := by
  have hF : ∀ x ∈ S.flatMap (splitR · g), Nn x := fun x hx => by
    obtain ⟨a, ha, hx⟩ := List.mem_flatMap.1 hx
    exact splitR_ind (Q := fun _ z => 0 ≤ z) (h.nn a ha) hg hx
  refine ⟨fun a ha => hF a ((hl.mem a).1 ha).1, fun t ht => ?_, fun a ha b hb hc => ?_, hl.nodup⟩
  · constructor
    · intro hs
      have hall : ∀ b ∈ S.flatMap (splitR · g), irrIn b t := fun b hb => by
        obtain ⟨y, hy, h1, h2⟩ := least_below hF _ hb (Nat.le_refl _)
        exact cont_in (hF b hb) h2 (hs y ((hl.mem y).2 ⟨hy, h1⟩))
      by_cases hd : dvdM g t
      · exact ⟨g, by simp, hd⟩
      · obtain ⟨g', hg', hd'⟩ := (h.mem t ht).1 fun a ha => ((splitR_in ht (h.nn a ha)).1 fun b hb => hall b (List.mem_flatMap.2 ⟨a, ha, hb⟩)).resolve_right hd
        exact ⟨g', by simp [hg'], hd'⟩
    · rintro ⟨g', hg', hd⟩ a ha
      obtain ⟨s, hs, ha⟩ := List.mem_flatMap.1 ((hl.mem a).1 ha).1
      refine (splitR_in ht (h.nn s hs)).2 ?_ a ha
      rcases List.mem_append.1 hg' with hg' | hg'
      · exact .inl ((h.mem t ht).2 ⟨g', hg', hd⟩ s hs)
      · simp at hg'; subst hg'; exact .inr hd
  · apply Classical.byContradiction
    intro hne
    exact ((hl.mem a).1 ha).2 ⟨b, ((hl.mem b).1 hb).1, hne, hc⟩
theorem irr_zero : IrrOk [] [zeroM] := irr_ok [] fun g hg => by simp at hg
theorem R21_split_ret (a g : M) : (R21_split a g).Ret (splitR a g) := by
  refine Comp.loop_idx 8 (fun k s => s = (splitRTo a g k, (k : Int))) (fun k s hk hs => ?_) (fun s hs => ?_) rfl
  · subst hs
    have hlen := splitRTo_length a g k
    show (if (k : Int) < 8 then _ else _ : Comp _).wp _
    rw [Comp.wp_ite, if_pos (by omega)]
    refine ⟨by omega, ?_⟩
    simp only [getFN hk]
    rw [Comp.wp_ite]
    split
    · rename_i hp
      refine ⟨by omega, ?_⟩
      rw [Comp.wp_ite]
      split
      · rename_i h0
        refine ⟨by omega, by omega, by simp [small]; omega, ?_⟩
        show _ = _
        rw [wrapN (by omega)]
        simp [splitRTo, hk, hp, splR, h0]
      · rename_i h0
        refine ⟨by omega, by omega, ?_⟩
        rw [Comp.wp_ite]
        split
        · rename_i h1
          refine ⟨by omega, by omega, by simp [small]; omega, ?_⟩
          show _ = _
          rw [wrapN (by omega)]
          simp [splitRTo, hk, hp, splR, h1]
        · rename_i h1
          refine ⟨by simp [small]; omega, ?_⟩
          show _ = _
          rw [wrapN (by omega)]
          simp [splitRTo, hk, hp, splR, h0, h1]
    · rename_i hp
      show _ = _
      rw [wrapN (by omega)]
      simp [splitRTo, hk, hp]
  · subst hs
    show (if ((8 : Nat) : Int) < 8 then _ else _ : Comp _).wp _
    rw [Comp.wp_ite, if_neg (by omega)]
    rfl
theorem R21_Inside_ret (b a : M) : (R21_Inside b a).Ret (decide (contM a b)) := by
  refine Comp.loop_idx 8 (fun k s => s = (k : Int) ∧ ∀ i : Fin 8, i.val < k → 0 < b i → ¬ a i = 0 ∧ a i ≤ b i) (fun k s hk hs => ?_) (fun s hs => ?_) ⟨rfl, fun i hi => by omega⟩
  · obtain ⟨rfl, hi⟩ := hs
    show (if (k : Int) < 8 then _ else _ : Comp _).wp _
    rw [Comp.wp_ite, if_pos (by omega)]
    refine ⟨by omega, ?_⟩
    simp only [getFN hk]
    rw [Comp.wp_ite]
    split
    · rename_i h1
      refine ⟨by omega, ?_⟩
      rw [Comp.wp_ite]
      split
      · rename_i h2
        show _ = _
        exact (decide_eq_false (fun h => (h ⟨k, hk⟩ h1).1 h2)).symm
      · rename_i h2
        refine ⟨by omega, by omega, ?_⟩
        rw [Comp.wp_ite]
        split
        · rename_i h3
          show _ = _
          exact (decide_eq_false (fun h => by have := (h ⟨k, hk⟩ h1).2; omega)).symm
        · rename_i h3
          exact ⟨wrapN (by omega), all_step hi hk (fun _ => ⟨h2, by omega⟩)⟩
    · rename_i h1
      exact ⟨wrapN (by omega), all_step hi hk (fun h => absurd h h1)⟩
  · obtain ⟨rfl, hi⟩ := hs
    show (if ((8 : Nat) : Int) < 8 then _ else _ : Comp _).wp _
    rw [Comp.wp_ite, if_neg (by omega)]
    show _ = _
    exact (decide_eq_true (fun i => hi i i.isLt)).symm
/-- An element that is kept. -/
def keepF (l : List M) (i : Nat) (x : M) : Prop := ¬ redM l x ∧ x ∉ l.take i
instance decKeep (l : List M) (i : Nat) (x : M) : Decidable (keepF l i x) := inferInstanceAs (Decidable (_ ∧ _))
theorem keep_iff {l : List M} {i : Nat} (hi : i < l.length) : keepF l i l[i] ↔ ∀ j (hj : j < l.length), ¬ (contM l[i] l[j] ∧ (l[j] ≠ l[i] ∨ j < i)) := by
  constructor
  · rintro ⟨h1, h2⟩ j hj ⟨hc, hor⟩
    by_cases e : l[j] = l[i]
    · have hlt : j < i := hor.resolve_left fun h => h e
      refine h2 ?_
      rw [← e]
      exact List.mem_take_iff_getElem.2 ⟨j, by omega, rfl⟩
    · exact h1 ⟨l[j], List.getElem_mem hj, fun h => e h.symm, hc⟩
  · intro h
    refine ⟨?_, fun hm => ?_⟩
    · rintro ⟨b, hb, hne, hc⟩
      obtain ⟨j, hj, rfl⟩ := List.mem_iff_getElem.1 hb
      exact h j hj ⟨hc, .inl fun e => hne e.symm⟩
    · obtain ⟨j, hj, e⟩ := List.mem_take_iff_getElem.1 hm
      have hj2 : j < l.length := by omega
      refine h j hj2 ⟨?_, .inr (by omega)⟩
      rw [e]
      exact cont_refl _
theorem least_L4 {l : List M} (hl : l.length ≤ 1000000) {i : Nat} (hi : i < l.length) : (R21_least_L4 l (i : Int) (true, 0)).Ret (decide (keepF l i l[i])) := by
  refine Comp.loop_idx l.length (fun k s => ∃ b : Bool, s = (b, (k : Int)) ∧ (b = true ↔ ∀ j (hj : j < l.length), j < k → ¬ (contM l[i] l[j] ∧ (l[j] ≠ l[i] ∨ j < i)))) (fun k s hk hs => ?_) (fun s hs => ?_) ⟨true, rfl, by simp⟩
  · obtain ⟨b, rfl, hb⟩ := hs
    show (if (k : Int) < (l.length : Int) then _ else _ : Comp _).wp _
    rw [Comp.wp_ite, if_pos (by omega)]
    have bad : (contM l[i] l[k] ∧ (l[k] ≠ l[i] ∨ k < i)) → ∃ b : Bool, (false, IntKind.i64.wrap ((k : Int) + 1)) = (b, ((k + 1 : Nat) : Int)) ∧ (b = true ↔ ∀ j (hj : j < l.length), j < k + 1 → ¬ (contM l[i] l[j] ∧ (l[j] ≠ l[i] ∨ j < i))) := fun h =>
      ⟨false, by rw [wrapN (by omega)], ⟨fun h => by simp at h, fun hall => absurd h (hall k hk (by omega))⟩⟩
    have good : ¬ (contM l[i] l[k] ∧ (l[k] ≠ l[i] ∨ k < i)) → ∃ b' : Bool, (b, IntKind.i64.wrap ((k : Int) + 1)) = (b', ((k + 1 : Nat) : Int)) ∧ (b' = true ↔ ∀ j (hj : j < l.length), j < k + 1 → ¬ (contM l[i] l[j] ∧ (l[j] ≠ l[i] ∨ j < i))) := fun h =>
      ⟨b, by rw [wrapN (by omega)], hb.trans ⟨fun hall j hj hjk => by
        by_cases e : j = k
        · subst e; exact h
        · exact hall j hj (by omega), fun hall j hj hjk => hall j hj (by omega)⟩⟩
    have hin := R21_Inside_ret l[k] l[i]
    by_cases hc : contM l[i] l[k]
    · rw [decide_eq_true hc] at hin
      refine ⟨l[k], idxN hk, l[i], idxN hi, true, hin, l[k], idxN hk, l[i], idxN hi, ?_⟩
      rw [Comp.wp_ite]
      split
      · rename_i hne
        exact bad ⟨hc, .inl hne⟩
      · rename_i hne
        rw [Comp.wp_ite]
        split
        · rename_i hlt
          exact bad ⟨hc, .inr (by omega)⟩
        · rename_i hlt
          exact good fun h => h.2.elim (fun h => hne h) (fun h => hlt (by omega))
    · rw [decide_eq_false hc] at hin
      exact ⟨l[k], idxN hk, l[i], idxN hi, false, hin, good fun h => hc h.1⟩
  · obtain ⟨b, rfl, hb⟩ := hs
    show (if ((l.length : Nat) : Int) < (l.length : Int) then _ else _ : Comp _).wp _
    rw [Comp.wp_ite, if_neg (by omega)]
    show b = _
    rw [Bool.eq_iff_iff, hb, decide_eq_true_eq, keep_iff hi]
    exact ⟨fun h j hj => h j hj hj, fun h j hj _ => h j hj⟩
def leastTo (l : List M) : Nat → List M
  | 0 => []
  | k + 1 => leastTo l k ++ (if h : k < l.length then (if keepF l k l[k] then [l[k]] else []) else [])
def leastF (l : List M) : List M := leastTo l l.length
theorem leastTo_len (l : List M) : ∀ k, (leastTo l k).length ≤ k
  | 0 => by simp [leastTo]
  | k + 1 => by
    have := leastTo_len l k
    simp only [leastTo, List.length_append]
    split
    · split <;> simp <;> omega
    · simp; omega
theorem leastTo_spec (l : List M) : ∀ k, k ≤ l.length → (leastTo l k).Nodup ∧ ∀ x, x ∈ leastTo l k ↔ x ∈ l.take k ∧ ¬ redM l x
  | 0, _ => by simp [leastTo]
  | k + 1, hk => by
    obtain ⟨h1, h2⟩ := leastTo_spec l k (by omega)
    have hk' : k < l.length := by omega
    have ht : l.take (k + 1) = l.take k ++ [l[k]] := (List.take_append_getElem hk').symm
    simp only [leastTo, dif_pos hk']
    by_cases hp : keepF l k l[k]
    · rw [if_pos hp]
      obtain ⟨p1, p2⟩ := hp
      refine ⟨?_, fun x => ?_⟩
      · refine List.nodup_append.2 ⟨h1, by simp, fun a ha b hb e => ?_⟩
        simp at hb
        subst e
        rw [hb] at ha
        exact p2 ((h2 _).1 ha).1
      · rw [ht, List.mem_append, List.mem_append, h2, List.mem_singleton]
        constructor
        · rintro (h | h)
          · exact ⟨.inl h.1, h.2⟩
          · subst h; exact ⟨.inr rfl, p1⟩
        · rintro ⟨h | h, h'⟩
          · exact .inl ⟨h, h'⟩
          · exact .inr h
    · rw [if_neg hp, List.append_nil]
      refine ⟨h1, fun x => ?_⟩
      rw [ht, List.mem_append, h2, List.mem_singleton]
      constructor
      · rintro ⟨h, h'⟩; exact ⟨.inl h, h'⟩
      · rintro ⟨h | h, h'⟩
        · exact ⟨h, h'⟩
        · subst h
          exact ⟨Classical.byContradiction fun hn => hp ⟨h', hn⟩, h'⟩
theorem leastF_ok (l : List M) : Least l (leastF l) := by
  obtain ⟨h1, h2⟩ := leastTo_spec l l.length (Nat.le_refl _)
  exact ⟨fun x => by unfold leastF; rw [h2, List.take_length], h1⟩
theorem R21_least_ret {l : List M} (hl : l.length ≤ 1000000) : (R21_least l).Ret (leastF l) := by
  refine Comp.loop_idx l.length (fun k s => s = (leastTo l k, (k : Int))) (fun k s hk hs => ?_) (fun s hs => ?_) rfl
  · subst hs
    show (if (k : Int) < (l.length : Int) then _ else _ : Comp _).wp _
    rw [Comp.wp_ite, if_pos (by omega)]
    have hlen := leastTo_len l k
    refine Comp.wp_next.2 ((least_L4 hl hk).then ?_)
    dsimp only
    unfold R21_least_k3
    rw [Comp.wp_ite]
    by_cases hp : keepF l k l[k]
    · rw [if_pos (decide_eq_true hp)]
      refine ⟨l[k], idxN hk, by simp [small]; omega, ?_⟩
      show _ = _
      rw [wrapN (by omega)]
      simp [leastTo, hk, hp]
    · rw [if_neg (by simpa using hp)]
      show _ = _
      rw [wrapN (by omega)]
      simp [leastTo, hk, hp]
  · subst hs
    show (if ((l.length : Nat) : Int) < (l.length : Int) then _ else _ : Comp _).wp _
    rw [Comp.wp_ite, if_neg (by omega)]
    rfl
/-- Into a decreasing list, ahead of what is not greater. -/
def insR (m : M) : List M → List M
  | [] => [m]
  | x :: l => if 0 < cmpM x m then x :: insR m l else m :: x :: l
theorem insR_at {m : M} : ∀ {out : List M} {k : Nat}, k ≤ out.length → (∀ x ∈ out.take k, 0 < cmpM x m) → (∀ h : k < out.length, ¬ 0 < cmpM out[k] m) → insR m out = out.take k ++ m :: out.drop k
  | [], k, hk, _, _ => by simp [insR]
  | x :: l, 0, _, _, h => by
    have := h (by simp)
    simp only [List.getElem_cons_zero] at this
    simp [insR, this]
  | x :: l, k + 1, hk, h1, h2 => by
    have hx := h1 x (by simp)
    rw [insR, if_pos hx, insR_at (k := k) (by simp at hk; omega) (fun y hy => h1 y (by simp [hy])) (fun h => by have := h2 (by simp; omega); simpa using this)]
    simp
theorem insR_mem {m y : M} : ∀ {l : List M}, y ∈ insR m l ↔ y = m ∨ y ∈ l
  | [] => by simp [insR]
  | x :: l => by
    unfold insR
    split
    · simp only [List.mem_cons, insR_mem (l := l)]
      constructor
      · rintro (h | h | h) <;> simp [h]
      · rintro (h | h | h) <;> simp [h]
    · simp
theorem insR_len (m : M) : ∀ l, (insR m l).length = l.length + 1
  | [] => rfl
  | x :: l => by
    unfold insR
    split
    · simp [insR_len m l]
    · simp
theorem insR_dec {m : M} : ∀ {l : List M}, Dec l → m ∉ l → Dec (insR m l)
  | [], _, _ => by simp [insR]
  | x :: l, h, hm => by
    have h' := List.pairwise_cons.1 h
    unfold insR
    have hn := cmpM_neg m x
    split
    · rename_i h1
      refine List.pairwise_cons.2 ⟨fun y hy => ?_, insR_dec h'.2 fun h => hm (by simp [h])⟩
      rcases insR_mem.1 hy with rfl | hy
      · omega
      · exact h'.1 y hy
    · rename_i h1
      have h3 : cmpM x m < 0 := by
        have : cmpM m x ≠ 0 := fun e => hm (by rw [cmpM_zero e]; simp)
        omega
      refine List.pairwise_cons.2 ⟨fun y hy => ?_, h⟩
      rcases List.mem_cons.1 hy with rfl | hy
      · exact h3
      · have := h'.1 y hy
        exact cmpM_lt_trans (by omega) (by omega) (Or.inl this)
def sortR (l : List M) : List M := l.foldl (fun o m => insR m o) []
theorem sortR_snoc (T : List M) (a : M) : sortR (T ++ [a]) = insR a (sortR T) := by unfold sortR; rw [List.foldl_append]; rfl
theorem sortR_len : ∀ l : List M, (sortR l).length = l.length := snoc_ind rfl fun T a ih => by rw [sortR_snoc, insR_len, ih]; simp
theorem sortR_mem {y : M} : ∀ l : List M, y ∈ sortR l ↔ y ∈ l := snoc_ind (by simp [sortR]) fun T a ih => by
  rw [sortR_snoc, insR_mem, ih, List.mem_append, List.mem_singleton]
  exact ⟨fun h => h.elim .inr .inl, fun h => h.elim .inr .inl⟩
theorem sortR_dec : ∀ l : List M, l.Nodup → Dec (sortR l) := snoc_ind (fun _ => by simp [sortR]) fun T a ih h => by
  rw [sortR_snoc]
  obtain ⟨h1, _, h2⟩ := List.nodup_append.1 h
  exact insR_dec (ih h1) fun hm => h2 a ((sortR_mem T).1 hm) a (by simp) rfl
theorem sorted_L4 {l out : List M} {i : Nat} (hi : i < l.length) (hl : out.length ≤ 1000000) {Φ : Int → Prop} (h : ∀ k : Nat, k ≤ out.length → insR l[i] out = out.take k ++ l[i] :: out.drop k → Φ (k : Int)) : (R21_sorted_L4 l out (i : Int) 0).wp Φ := by
  refine Comp.loop_idx out.length (fun k s => s = (k : Int) ∧ ∀ x ∈ out.take k, 0 < cmpM x l[i]) (fun k s hk hs => ?_) (fun s hs => ?_) ⟨rfl, by simp⟩
  · obtain ⟨rfl, hs⟩ := hs
    show (if (k : Int) < (out.length : Int) then _ else _ : Comp _).wp _
    rw [Comp.wp_ite, if_pos (by omega)]
    refine ⟨out[k], idxN hk, l[i], idxN hi, _, R04_Cmp_ret _ _, ?_⟩
    rw [Comp.wp_ite]
    split
    · rename_i hc
      refine ⟨wrapN (by omega), fun x hx => ?_⟩
      rw [(List.take_append_getElem hk).symm] at hx
      rcases List.mem_append.1 hx with hx | hx
      · exact hs x hx
      · simp at hx; subst hx; exact hc
    · rename_i hc
      exact h k (by omega) (insR_at (by omega) hs fun _ => hc)
  · obtain ⟨rfl, hs⟩ := hs
    show (if ((out.length : Nat) : Int) < (out.length : Int) then _ else _ : Comp _).wp _
    rw [Comp.wp_ite, if_neg (by omega)]
    exact h out.length (by omega) (insR_at (by omega) hs fun h => by omega)
theorem R21_sorted_ret {l : List M} (hl : l.length ≤ 100000) : (R21_sorted l).Ret (sortR l) := by
  refine Comp.loop_idx l.length (fun k s => s = (sortR (l.take k), (k : Int))) (fun k s hk hs => ?_) (fun s hs => ?_) rfl
  · subst hs
    show (if (k : Int) < (l.length : Int) then _ else _ : Comp _).wp _
    rw [Comp.wp_ite, if_pos (by omega)]
    have hlen := sortR_len (l.take k)
    rw [List.length_take] at hlen
    refine Comp.wp_next.2 (sorted_L4 hk (by omega) fun j hj he => ?_)
    dsimp only
    unfold R21_sorted_k3
    have e1 : ((j : Int)).toNat = j := by omega
    have e2 : ((0 : Int)).toNat = 0 := rfl
    have e3 : (((sortR (l.take k)).length : Int)).toNat = (sortR (l.take k)).length := by omega
    simp only [e1, e2, e3, List.drop_zero, List.nil_append, List.take_length]
    refine ⟨by omega, by simp [small]; omega, l[k], idxN hk, by simp [small]; omega, by omega, by simp [small]; omega, ?_⟩
    show _ = _
    rw [wrapN (by omega), (List.take_append_getElem hk).symm, sortR_snoc, he]
    simp
  · subst hs
    show (if ((l.length : Nat) : Int) < (l.length : Int) then _ else _ : Comp _).wp _
    rw [Comp.wp_ite, if_neg (by omega), List.take_length]
    rfl
def stepR (S : List M) (g : M) : List M := leastF (S.flatMap (splitR · g))
def accR (gs : List M) : List M := gs.foldl stepR [zeroM]
theorem accR_snoc (T : List M) (a : M) : accR (T ++ [a]) = stepR (accR T) a := by unfold accR; rw [List.foldl_append]; rfl
theorem accR_ok : ∀ G : List M, (∀ g ∈ G, Nn g) → IrrOk G (accR G) := snoc_ind (fun _ => irr_zero) fun T a ih h => by
  rw [accR_snoc]
  exact irr_stepR (ih fun g hg => h g (by simp [hg])) (h a (by simp)) (leastF_ok _)
theorem accR_ind {Q : Fin 8 → Int → Prop} (h0 : ∀ i, Q i 0) : ∀ G : List M, (∀ g ∈ G, ∀ i, Q i (g i)) → ∀ a ∈ accR G, ∀ i, Q i (a i) := snoc_ind (fun _ a ha => by simp [accR] at ha; subst ha; exact h0) fun T a ih h b hb => by
  rw [accR_snoc] at hb
  obtain ⟨s, hs, hb⟩ := List.mem_flatMap.1 (((leastF_ok _).mem b).1 hb).1
  exact splitR_ind (ih (fun g hg => h g (by simp [hg])) s hs) (h a (by simp)) hb
theorem irrR_L4 {gs out : List M} {i : Nat} (hi : i < gs.length) (hl : out.length ≤ 10000) : (R21_Irreducible_L4 gs out (i : Int) ([], 0)).Ret (out.flatMap (splitR · gs[i])) := by
  refine Comp.loop_idx out.length (fun k s => s = ((out.take k).flatMap (splitR · gs[i]), (k : Int))) (fun k s hk hs => ?_) (fun s hs => ?_) rfl
  · subst hs
    show (if (k : Int) < (out.length : Int) then _ else _ : Comp _).wp _
    rw [Comp.wp_ite, if_pos (by omega)]
    have h1 := flatMap_len (splitR · gs[i]) 8 (out.take k) (fun e _ => splitRTo_length e _ 8)
    have h2 : (splitR out[k] gs[i]).length ≤ 8 := splitRTo_length _ _ 8
    rw [List.length_take] at h1
    refine ⟨out[k], idxN hk, gs[i], idxN hi, _, R21_split_ret _ _, ?_, ?_⟩
    · rw [List.length_append]
      show _ ≤ small
      simp only [small]
      omega
    · show _ = _
      rw [wrapN (by omega), (List.take_append_getElem hk).symm, List.flatMap_append]
      simp
  · subst hs
    show (if ((out.length : Nat) : Int) < (out.length : Int) then _ else _ : Comp _).wp _
    rw [Comp.wp_ite, if_neg (by omega), List.take_length]
    rfl
namespace Inp
variable {l : List M} {n : Nat} (h : Inp l n)
include h
theorem okAll : ∀ m ∈ l, okN (n : Int) m := by
  have hc := h.check
  have := h.few
  unfold checkF at hc
  rw [if_neg (by omega), if_neg (by omega)] at hc
  apply Classical.byContradiction
  intro hno
  rw [if_neg hno] at hc
  exact absurd hc (by decide)
theorem checkR : (R21_check l (n : Int)).Ret 0 := by
  have hf := h.few
  have hl := h.len
  show (if (n : Int) < 0 then _ else _ : Comp _).wp _
  rw [Comp.wp_ite, if_neg (by omega), Comp.wp_ite, if_neg (by omega)]
  refine Comp.wp_next.2 (Comp.loop_idx l.length (fun k s => s = (k : Int)) (fun k s hk hs => ?_) (fun s hs => ?_) rfl)
  · subst hs
    show (if (k : Int) < (l.length : Int) then _ else _ : Comp _).wp _
    rw [Comp.wp_ite, if_pos (by omega)]
    obtain ⟨o1, o2⟩ := h.okAll l[k] (List.getElem_mem hk)
    have hv := R04_Valid_ret l[k]
    rw [decide_eq_true o1] at hv
    refine ⟨l[k], idxN hk, true, hv, l[k], idxN hk, _, R04_Support_ret _, by omega, ?_⟩
    have hb := suppM_bd l[k]
    rw [wrap64 (x := suppM l[k]) (by omega), Comp.wp_ite]
    have o3 : Int.fdiv (suppM l[k]) (2 ^ (min (n : Int).toNat IntKind.i64.bits)) = 0 := o2
    rw [o3, if_neg (by omega)]
    exact wrapN (by omega)
  · subst hs
    show (if ((l.length : Nat) : Int) < (l.length : Int) then _ else _ : Comp _).wp _
    rw [Comp.wp_ite, if_neg (by omega)]
    show (if 8 < (l.length : Int) then _ else _ : Comp _).wp _
    rw [Comp.wp_ite, if_neg (by omega)]
    rfl
theorem minSm : ∀ g ∈ minimalM l, Sm g := fun g hg => h.sm g (minimalM_mem.1 hg).1
theorem accSm (k : Nat) : ∀ a ∈ accR ((minimalM l).take k), Sm a := fun a ha i =>
  accR_ind (Q := Qs) (fun i => ⟨by omega, by omega, fun _ => rfl⟩) _ (fun g hg i => h.minSm g (List.mem_of_mem_take hg) i) a ha i
theorem accOk (k : Nat) : IrrOk ((minimalM l).take k) (accR ((minimalM l).take k)) := accR_ok _ fun g hg i => (h.minSm g (List.mem_of_mem_take hg) i).1
theorem accEq : sortR (accR (minimalM l)) = irrF l := by
  have h1 := h.accOk (minimalM l).length
  have h2 := h.accSm (minimalM l).length
  rw [List.take_length] at h1 h2
  have h3 := irr_ok (minimalM l) fun g hg i => (h.minSm g hg i).1
  have h4 : ∀ a ∈ irrAcc (minimalM l), Sm a := fun a ha i => irr_ind (Q := Qs) (fun i => ⟨by omega, by omega, fun _ => rfl⟩) _ h.minSm a ha i
  refine dec_ext (sortR_dec _ h1.nodup) (irrF_dec h.nn) fun m => ?_
  rw [sortR_mem, (irrF_perm l).mem_iff]
  exact ⟨irr_same h1 h3 h2 h4, irr_same h3 h1 h4 h2⟩
theorem irrR : (R21_Irreducible l (n : Int)).Ret (irrF l, 0) := by
  refine ⟨0, h.checkR, ?_⟩
  rw [Comp.wp_ite, if_neg (by simp)]
  have hml := minimalM_length l
  have hl := h.len
  refine ⟨_, R04_Minimal_ret h.lb, ?_⟩
  refine Comp.wp_next.2 (Comp.loop_idx (minimalM l).length (fun k s => s = (accR ((minimalM l).take k), (k : Int))) (fun k s hk hs => ?_) (fun s hs => ?_) rfl)
  · subst hs
    show (if (k : Int) < ((minimalM l).length : Int) then _ else _ : Comp _).wp _
    rw [Comp.wp_ite, if_pos (by omega)]
    have hfew := irr_few (h.accOk k) (h.accSm k)
    refine Comp.wp_next.2 ((irrR_L4 hk (by omega)).then ?_)
    have h1 := flatMap_len (splitR · (minimalM l)[k]) 8 (accR ((minimalM l).take k)) (fun e _ => splitRTo_length e _ 8)
    refine ⟨_, R21_least_ret (by omega), ?_⟩
    show _ = _
    rw [wrapN (by omega), (List.take_append_getElem hk).symm, accR_snoc]
    rfl
  · subst hs
    show (if (((minimalM l).length : Nat) : Int) < ((minimalM l).length : Int) then _ else _ : Comp _).wp _
    rw [Comp.wp_ite, if_neg (by omega)]
    have hfew := irr_few (h.accOk (minimalM l).length) (h.accSm (minimalM l).length)
    have he := h.accEq
    rw [List.take_length] at hfew ⊢
    refine ⟨_, R21_sorted_ret (by omega), ?_⟩
    rw [he]
    rfl
end Inp
theorem wrap8 {x : Int} (h : 0 ≤ x ∧ x < 256) : IntKind.u8.wrap x = x := by
  obtain ⟨k, rfl⟩ : ∃ k : Fin 256, (k.val : Int) = x := ⟨⟨x.toNat, by omega⟩, by simp; omega⟩
  revert k
  decide +kernel
def upTo (ps : List Int) (k : Nat) : List Int := (((List.range 256).take k).filter fun s : Nat => decide ((s : Int) ∈ ps)).map fun s : Nat => (s : Int)
theorem upTo_len (ps : List Int) (k : Nat) : (upTo ps k).length ≤ k := by
  unfold upTo
  rw [List.length_map]
  refine Nat.le_trans (List.length_filter_le _ _) ?_
  rw [List.length_take]
  omega
theorem upTo_step {ps : List Int} {k : Nat} (hk : k < 256) : upTo ps (k + 1) = upTo ps k ++ (if (k : Int) ∈ ps then [(k : Int)] else []) := by
  have hkr : k < (List.range 256).length := by rw [List.length_range]; exact hk
  have htk : (List.range 256).take (k + 1) = (List.range 256).take k ++ [k] := by
    rw [← List.take_append_getElem hkr, List.getElem_range]
  unfold upTo
  rw [htk, List.filter_append, List.filter_cons, List.map_append]
  by_cases hm : (k : Int) ∈ ps
  · rw [if_pos (decide_eq_true hm), if_pos hm]; rfl
  · rw [if_neg (by rw [decide_eq_true_eq]; exact hm), if_neg hm]; rfl
theorem upTo_all {ps : List Int} (hs : Sd ps) (hn : ps.Nodup) (hb : ∀ p ∈ ps, 0 ≤ p ∧ p < 256) : upTo ps 256 = ps := by
  unfold upTo
  rw [List.take_of_length_le (by rw [List.length_range]; exact Nat.le_refl _)]
  exact (sorted_sets hs hn hb).symm
theorem primesR_L4 {A : List M} {e0 : Int} {out : List Int} {k : Nat} (hk : k < 256) (hA : A.length ≤ 1000) (ho : out.length ≤ 1000) : (R21_Primes_L4 (A, e0) (k : Int) (out, 0)).Ret (out ++ (if ∃ a ∈ A, suppM a = (k : Int) then [(k : Int)] else [])) := by
  refine Comp.loop_idx A.length (fun j s => s = (out, (j : Int)) ∧ ∀ i (hi : i < A.length), i < j → suppM A[i] ≠ (k : Int)) (fun j s hj hs => ?_) (fun s hs => ?_) ⟨rfl, fun i _ h => by omega⟩
  · obtain ⟨rfl, hs⟩ := hs
    show (if (j : Int) < (A.length : Int) then _ else _ : Comp _).wp _
    rw [Comp.wp_ite, if_pos (by omega)]
    refine ⟨A[j], idxN hj, _, R04_Support_ret _, ?_⟩
    have hb := suppM_bd A[j]
    dsimp only
    rw [wrap64 (x := suppM A[j]) (by omega), Comp.wp_ite]
    split
    · rename_i e
      refine ⟨by simp [small]; omega, ?_⟩
      show _ = _
      rw [if_pos ⟨A[j], List.getElem_mem hj, e⟩, show IntKind.u8.wrap (k : Int) = (k : Int) from wrap8 (by omega)]
    · rename_i e
      refine ⟨by rw [wrapN (by omega)], fun i hi h1 => ?_⟩
      by_cases e2 : i = j
      · subst e2; exact e
      · exact hs i hi (by omega)
  · obtain ⟨rfl, hs⟩ := hs
    show (if ((A.length : Nat) : Int) < (A.length : Int) then _ else _ : Comp _).wp _
    rw [Comp.wp_ite, if_neg (by omega)]
    show _ = _
    rw [if_neg, List.append_nil]
    rintro ⟨a, ha, e⟩
    obtain ⟨i, hi, rfl⟩ := List.mem_iff_getElem.1 ha
    exact hs i hi hi e
theorem embR_L4 {ps : List Int} {e0 : Int} (hn : ps.Nodup) (hl : ps.length ≤ 1000) {i : Nat} (hi : i < ps.length) {out : List Int} (ho : out.length ≤ 1000) : (R21_Embedded_L4 (ps, e0) (i : Int) (out, 0)).Ret (out ++ (if (ps.any fun q => embC q ps[i]) = true then [ps[i]] else [])) := by
  refine Comp.loop_idx ps.length (fun k s => s = (out, (k : Int)) ∧ (ps.take k).any (fun q => embC q ps[i]) = false) (fun k s hk hs => ?_) (fun s hs => ?_) ⟨rfl, rfl⟩
  · obtain ⟨rfl, hs⟩ := hs
    have ht : (ps.take (k + 1)).any (fun q => embC q ps[i]) = ((ps.take k).any (fun q => embC q ps[i]) || embC ps[k] ps[i]) := by
      rw [← List.take_append_getElem hk, List.any_append]; simp
    show (if (k : Int) < (ps.length : Int) then _ else _ : Comp _).wp _
    rw [Comp.wp_ite, if_pos (by omega), Comp.wp_ite]
    split
    · rename_i hne
      have hki : k ≠ i := fun e => hne (by rw [e])
      have hpe : ps[k] ≠ ps[i] := nodup_at hn (List.getElem?_eq_getElem hk) (List.getElem?_eq_getElem hi) hki
      have he : embC ps[k] ps[i] = decide (IntKind.u8.wrap (BitVec.ofInt IntKind.u8.bits ps[k] &&& ~~~ BitVec.ofInt IntKind.u8.bits ps[i]).toNat = 0) := by unfold embC; rw [if_pos hpe]
      refine ⟨ps[k], idxN hk, ps[i], idxN hi, ?_⟩
      rw [Comp.wp_ite]
      split
      · rename_i hc
        refine ⟨ps[i], idxN hi, by simp [small]; omega, ?_⟩
        show _ = _
        rw [if_pos]
        refine List.any_eq_true.2 ⟨ps[k], List.getElem_mem hk, ?_⟩
        rw [he]
        exact decide_eq_true hc
      · rename_i hc
        exact ⟨by rw [wrapN (by omega)], by rw [ht, hs, he, decide_eq_false hc]; rfl⟩
    · rename_i hne
      have hki : k = i := by have : (k : Int) = (i : Int) := by simpa using hne
                             omega
      subst hki
      have he : embC ps[k] ps[k] = false := by unfold embC; simp
      exact ⟨by rw [wrapN (by omega)], by rw [ht, hs, he]; rfl⟩
  · obtain ⟨rfl, hs⟩ := hs
    show (if ((ps.length : Nat) : Int) < (ps.length : Int) then _ else _ : Comp _).wp _
    rw [Comp.wp_ite, if_neg (by omega)]
    rw [List.take_length] at hs
    show _ = _
    rw [hs, if_neg (by simp), List.append_nil]
theorem radR_L4 {l : List M} {i : Nat} (hi : i < l.length) : (R21_Radical_L4 l (i : Int) (0, fun _ => 0)).Ret (radM l[i]) := by
  refine Comp.loop_idx 8 (fun k s => s = ((k : Int), mixM k (radM l[i]) zeroM)) (fun k s hk hs => ?_) (fun s hs => ?_) (by rw [mix_zero]; rfl)
  · subst hs
    show (if (k : Int) < 8 then _ else _ : Comp _).wp _
    rw [Comp.wp_ite, if_pos (by omega)]
    refine ⟨l[i], idxN hi, by omega, by omega, ?_⟩
    show _ = _
    rw [wrapN (by omega), getFN hk]
    have : (if 1 < l[i] ⟨k, hk⟩ then 1 else l[i] ⟨k, hk⟩) = radM l[i] ⟨k, hk⟩ := rfl
    rw [this, show ((k : Int)).toNat = k by omega, mix_step _ _ hk]
  · subst hs
    show (if ((8 : Nat) : Int) < 8 then _ else _ : Comp _).wp _
    rw [Comp.wp_ite, if_neg (by omega), mix_all _ _ (by omega)]
    rfl
theorem radR {l : List M} (hl : l.length ≤ 1000) : (R21_Radical l).Ret (radF l) := by
  refine Comp.loop_idx l.length (fun k s => s = ((l.take k).map radM, (k : Int))) (fun k s hk hs => ?_) (fun s hs => ?_) rfl
  · subst hs
    show (if (k : Int) < (l.length : Int) then _ else _ : Comp _).wp _
    rw [Comp.wp_ite, if_pos (by omega)]
    refine Comp.wp_next.2 ((radR_L4 hk).then ⟨by simp [small]; omega, ?_⟩)
    show _ = _
    rw [wrapN (by omega), (List.take_append_getElem hk).symm, List.map_append]
    rfl
  · subst hs
    show (if ((l.length : Nat) : Int) < (l.length : Int) then _ else _ : Comp _).wp _
    rw [Comp.wp_ite, if_neg (by omega), List.take_length]
    exact ⟨_, R04_Minimal_ret (by unfold Lb; simp; omega), rfl⟩
theorem meet_same {l m : List M} (hl : ∀ g ∈ l, Nn g) (hm : ∀ g ∈ m, Nn g) : meet2 l m = meetStep l m := by
  have hl2 : ∀ g ∈ minimalM l, Nn g := fun g hg => hl g (minimalM_mem.1 hg).1
  have e : meet2 l m = meetStep (minimalM l) m := rfl
  rw [e]
  refine minimal_eq (minimal_idem _) (minimal_idem _) (fun x hx => step_ind (Q := fun _ z => 0 ≤ z) hl2 hm x hx) (fun x hx => step_ind (Q := fun _ z => 0 ≤ z) hl hm x hx) fun t _ => ?_
  rw [step_in, step_in, ← inM_minimal]
def primTo (A : List M) (p : Int) : List M := A.filter fun a => decide (suppM a = p)
theorem primR_L4 {A : List M} {ps : List Int} {e0 e1 : Int} {i : Nat} (hi : i < ps.length) (hA : ∀ a ∈ A, Sm a) (hl : A.length ≤ 1000) : (R21_Primary_L4 (A, e0) (ps, e1) (i : Int) ([fun _ => 0], 0)).Ret (meetAll (primTo A ps[i])) := by
  refine Comp.loop_idx A.length (fun k s => s = (meetAll (primTo (A.take k) ps[i]), (k : Int))) (fun k s hk hs => ?_) (fun s hs => ?_) rfl
  · subst hs
    have htk : A.take (k + 1) = A.take k ++ [A[k]] := (List.take_append_getElem hk).symm
    show (if (k : Int) < (A.length : Int) then _ else _ : Comp _).wp _
    rw [Comp.wp_ite, if_pos (by omega)]
    refine ⟨A[k], idxN hk, _, R04_Support_ret _, ps[i], idxN hi, ?_⟩
    rw [Comp.wp_ite]
    split
    · rename_i e
      have h1 := meetAll_few (A := primTo (A.take k) ps[i]) fun a ha => hA a (List.mem_of_mem_take (List.mem_filter.1 ha).1)
      have h2 : (gensM A[k]).length ≤ 8 := splitTo_length zeroM A[k] 8
      have h3 := Nat.mul_le_mul h1 h2
      refine ⟨A[k], idxN hk, _, R21_Gens_ret _, _, R21_Meet_ret (by omega) (by omega) (by omega), ?_⟩
      show _ = _
      have e2 : primTo (A.take k ++ [A[k]]) ps[i] = primTo (A.take k) ps[i] ++ [A[k]] := by
        unfold primTo
        rw [List.filter_append, List.filter_cons, if_pos (decide_eq_true e), List.filter_nil]
      rw [wrapN (by omega), htk, e2, meetAll_snoc]
    · rename_i e
      show _ = _
      rw [wrapN (by omega), htk, primTo, primTo, List.filter_append, List.filter_cons, if_neg (by simpa using e), List.filter_nil, List.append_nil]
  · subst hs
    show (if ((A.length : Nat) : Int) < (A.length : Int) then _ else _ : Comp _).wp _
    rw [Comp.wp_ite, if_neg (by omega), List.take_length]
    rfl
namespace Inp
variable {l : List M} {n : Nat} (h : Inp l n)
include h
theorem primesR : (R21_Primes l (n : Int)).Ret (primesF l, 0) := by
  refine ⟨_, h.irrR, ?_⟩
  have hlen := h.irrLen
  refine Comp.wp_next.2 (Comp.loop_idx 256 (fun k s => s = (upTo (primesF l) k, (k : Int))) (fun k s hk hs => ?_) (fun s hs => ?_) rfl)
  · subst hs
    dsimp only
    rw [Comp.wp_ite, if_pos (by omega)]
    have h1 := upTo_len (primesF l) k
    refine Comp.wp_next.2 ((primesR_L4 hk (by omega) (by omega)).then ?_)
    show _ = _
    rw [wrapN (by omega), upTo_step hk]
    simp only [primes_mem]
  · subst hs
    dsimp only
    rw [Comp.wp_ite, if_neg (by omega), upTo_all (ps := primesF l) (sortI_sd _) (primes_nodup l) fun p hp => by have := h.pbd hp; omega]
    rfl
theorem embR : (R21_Embedded l (n : Int)).Ret (embF (primesF l), 0) := by
  refine ⟨_, h.primesR, ?_⟩
  have hpl := h.plen
  refine Comp.wp_next.2 (Comp.loop_idx (primesF l).length (fun k s => s = (((primesF l).take k).filter (fun p => (primesF l).any fun q => embC q p), (k : Int))) (fun k s hk hs => ?_) (fun s hs => ?_) rfl)
  · subst hs
    show (if (k : Int) < ((primesF l).length : Int) then _ else _ : Comp _).wp _
    rw [Comp.wp_ite, if_pos (by omega)]
    have hlen : (((primesF l).take k).filter (fun p => (primesF l).any fun q => embC q p)).length ≤ 1000 := by
      refine Nat.le_trans (List.length_filter_le _ _) ?_
      rw [List.length_take]; omega
    refine Comp.wp_next.2 ((embR_L4 (primes_nodup l) (by omega) hk hlen).then ?_)
    show _ = _
    rw [wrapN (by omega), (List.take_append_getElem hk).symm, List.filter_append, List.filter_cons, List.filter_nil]
  · subst hs
    show (if (((primesF l).length : Nat) : Int) < ((primesF l).length : Int) then _ else _ : Comp _).wp _
    rw [Comp.wp_ite, if_neg (by omega), List.take_length]
    rfl
theorem primaryR : (R21_Primary l (n : Int)).Ret ((primesF l).map (fun p => ⟨p, partG l p⟩), 0) := by
  refine ⟨_, h.irrR, _, h.primesR, ?_⟩
  have hpl := h.plen
  have hlen := h.irrLen
  refine Comp.wp_next.2 (Comp.loop_idx (primesF l).length (fun k s => s = (((primesF l).take k).map (fun p => ⟨p, partG l p⟩), (k : Int))) (fun k s hk hs => ?_) (fun s hs => ?_) rfl)
  · subst hs
    show (if (k : Int) < ((primesF l).length : Int) then _ else _ : Comp _).wp _
    rw [Comp.wp_ite, if_pos (by omega)]
    refine Comp.wp_next.2 ((primR_L4 hk h.irrSm (by omega)).then ?_)
    refine ⟨(primesF l)[k], idxN hk, by simp [small]; omega, ?_⟩
    show _ = _
    rw [wrapN (by omega), (List.take_append_getElem hk).symm, List.map_append]
    rfl
  · subst hs
    show (if (((primesF l).length : Nat) : Int) < ((primesF l).length : Int) then _ else _ : Comp _).wp _
    rw [Comp.wp_ite, if_neg (by omega), List.take_length]
    rfl
theorem parts_same : (primesF l).map (partOf l) = (primesF l).map (fun p => ⟨p, partG l p⟩) := List.map_congr_left fun _ hp => h.part_eq hp
end Inp
theorem match_law_ret {x : T_law21_Input} {y : List (Fin 4 → Int)} (hn : 0 ≤ x.n ∧ x.n ≤ 255) (hx : U8s x.l) (hy : U8s y) : (law21_ComponentsMatchReference x y).Ret true := by
  have hv := (vars_eq hn).2
  have hi : Inp (madeF x.l (varsF x) 8 3) (varsF x) := inp_made hx hv (by omega)
  have hj : Inp (madeF y (varsF x) 5 3) (varsF x) := inp_made hy hv (by omega)
  have m1 := Made_ret (x := x.l) (n := varsF x) (most := 8) (top := 3) hx (by omega) (by omega) (by omega)
  have m2 := Made_ret (x := y) (n := varsF x) (most := 5) (top := 3) hy (by omega) (by omega) (by omega)
  revert hi hj m1 m2
  generalize madeF x.l (varsF x) 8 3 = l
  generalize madeF y (varsF x) 5 3 = m
  intro hi hj m1 m2
  have hpl := hi.plen
  have hil := hi.irrLen
  have hll := hi.len
  have hml := hj.len
  have hlm : l.length * m.length ≤ 8 * 8 := Nat.mul_le_mul hll hml
  have lbl := hi.lb
  have lbm := hj.lb
  refine ⟨true, sanity_ret, ?_⟩
  rw [Comp.wp_ite, if_neg (by simp)]
  refine ⟨_, vars_ret hn, _, m1, _, m2, _, hi.irr, _, hi.irrR, _, hi.primes, _, hi.primesR, _, hi.embedded, _, hi.embR, _, hi.primary, _, hi.primaryR, ?_⟩
  rw [Comp.wp_ite, if_pos rfl, Comp.wp_ite, if_pos rfl, Comp.wp_ite, if_pos rfl]
  unfold law21_ComponentsMatchReference_k1
  rw [Comp.wp_ite, if_pos (by rfl)]
  have hsp : (R21_SameParts ((primesF l).map (partOf l)) ((primesF l).map (fun p => ⟨p, partG l p⟩))).Ret true := by
    have hsp := SameParts_ret (a := (primesF l).map (partOf l)) (b := (primesF l).map (fun p => ⟨p, partG l p⟩)) (by rw [List.length_map]; omega) fun q hq => by
      rw [hi.parts_same] at hq
      obtain ⟨p, _, rfl⟩ := List.mem_map.1 hq
      have := hi.partG_len (p := p)
      show Lb (partG l p)
      unfold Lb; omega
    rwa [decide_eq_true hi.parts_same] at hsp
  have hs : ∀ a : List Int, (R18_SameSets a a).Ret true := fun a => by show decide (_ = _) = true; exact decide_eq_true rfl
  have hmb := meet2_lb (l := l) (m := m) (by omega)
  have hrb : Lb (radF l) := by
    have := minimalM_length (l.map radM)
    unfold Lb radF
    rw [List.length_map] at this
    omega
  refine ⟨true, Same_self (by show (irrF l).length ≤ _; omega) rfl, true, hs _, true, hs _, true, hsp, _, Meet_ret lbl lbm (by omega), _, R21_Meet_ret (by omega) (by omega) (by omega), true, Same_self hmb (meet_same hi.nn hj.nn), _, Radical_ret lbl, _, radR (by omega), true, Same_self hrb rfl, rfl⟩
end Go.EL
