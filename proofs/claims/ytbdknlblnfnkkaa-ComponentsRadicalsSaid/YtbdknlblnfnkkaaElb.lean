/- Regions that draw their order, carried out in whatever order: an invariant over the set of the operations that were carried out. No condition. -/
import Derived.Test.YtbdknlblnfnkkaaEla
namespace Go.EL
open Go

/-- The operations that operation k waits for, through others too. -/
def ancStep (md : Region.Mode) (acc : List (List Nat)) (o : Oper) : List Nat :=
  (List.range acc.length).filter fun j => o.after.toList.any fun e => Region.binds md e && (Nat.beq e.on j || (acc.getD e.on []).contains j)
def ancs (md : Region.Mode) : List Oper → List (List Nat) → List (List Nat)
  | [], acc => acc
  | o :: r, acc => ancs md r (acc ++ [ancStep md acc o])

theorem ancs_length (md : Region.Mode) : ∀ (l : List Oper) (acc : List (List Nat)), (ancs md l acc).length = acc.length + l.length
  | [], acc => by simp [ancs]
  | o :: r, acc => by simp only [ancs, ancs_length md r]; simp; omega

theorem ancs_keep (md : Region.Mode) : ∀ (l : List Oper) (acc : List (List Nat)) (k : Nat), k < acc.length → (ancs md l acc)[k]? = acc[k]?
  | [], acc, k, _ => rfl
  | o :: r, acc, k, h => by
    simp only [ancs]
    rw [ancs_keep md r _ k (by simp; omega), List.getElem?_append_left h]

theorem ancs_at (md : Region.Mode) : ∀ (l : List Oper) (acc : List (List Nat)) (i : Nat) (o : Oper), l[i]? = some o →
    (ancs md l acc)[acc.length + i]? = some (ancStep md ((ancs md l acc).take (acc.length + i)) o)
  | [], acc, i, o, h => by simp at h
  | p :: r, acc, 0, o, h => by
    simp at h
    subst h
    simp only [ancs, Nat.add_zero]
    have hk := ancs_keep md r (acc ++ [ancStep md acc p]) acc.length (by simp)
    rw [hk]
    have ht : (ancs md r (acc ++ [ancStep md acc p])).take acc.length = acc := by
      apply List.ext_getElem?
      intro j
      rw [List.getElem?_take]
      split
      · rename_i hj
        rw [ancs_keep md r _ j (by simp; omega), List.getElem?_append_left hj]
      · rename_i hj
        simp at hj
        rw [List.getElem?_eq_none hj]
    rw [ht]
    simp
  | p :: r, acc, i + 1, o, h => by
    simp at h
    have := ancs_at md r (acc ++ [ancStep md acc p]) i o h
    simp only [ancs]
    have e : (acc ++ [ancStep md acc p]).length + i = acc.length + (i + 1) := by simp; omega
    rw [e] at this
    exact this

/-- What was carried out is closed under what it waited for. -/
def Closed (md : Region.Mode) (ops : Array Oper) (D : Nat → Prop) : Prop := ∀ i o, ops[i]? = some o → D i → ∀ e ∈ o.after, Region.binds md e = true → D e.on

theorem closed_anc {md : Region.Mode} {l : List Oper} {D : Nat → Prop} (hc : Closed md l.toArray D) :
    ∀ k o, l[k]? = some o → (∀ e ∈ o.after, Region.binds md e = true → D e.on) → ∀ j, j ∈ (ancs md l []).getD k [] → D j := by
  intro k
  induction k using Nat.strongRecOn with
  | _ k ih =>
    intro o ho hr j hj
    have h := ancs_at md l [] k o ho
    simp only [List.length_nil, Nat.zero_add] at h
    rw [List.getD_eq_getElem?_getD, h] at hj
    simp only [Option.getD_some, ancStep, List.mem_filter, List.mem_range, List.any_eq_true, Bool.and_eq_true, Bool.or_eq_true] at hj
    obtain ⟨hjl, e, he, hb, hej⟩ := hj
    have hD := hr e (by simpa using he) hb
    rcases hej with hej | hej
    · have := Nat.eq_of_beq_eq_true hej
      subst this
      exact hD
    · have hlt : e.on < k := by
        rcases Nat.lt_or_ge e.on k with h | h
        · exact h
        · rw [List.getD_eq_getElem?_getD, List.getElem?_eq_none (by simp; omega)] at hej
          simp at hej
      have hget : ((ancs md l []).take k).getD e.on [] = (ancs md l []).getD e.on [] := by
        rw [List.getD_eq_getElem?_getD, List.getD_eq_getElem?_getD, List.getElem?_take, if_pos hlt]
      rw [hget] at hej
      have hkl : k < l.length := (List.getElem?_eq_some_iff.1 ho).1
      have hoe : l[e.on]? = some (l[e.on]'(by omega)) := List.getElem?_eq_getElem (by omega)
      exact ih e.on hlt _ hoe (fun e' he' hb' => hc e.on _ (by simp) hD e' he' hb') j (by simpa using hej)

/-- From number n on every operation waits for all that stand before it, but for those that float. -/
def tailB (md : Region.Mode) (l : List Oper) (fl : List Bool) : Bool :=
  let A := ancs md l []
  (List.range l.length).all fun k => Nat.blt k fl.length || (List.range k).all fun j => fl.getD j false || (A.getD k []).contains j

section
variable {P : Program} {Q : Post} {md : Region.Mode} {l : List Oper} {fl : List Bool}

theorem tail_all {D : Nat → Prop} (hT : tailB md l fl = true) (hc : Closed md l.toArray D) {k : Nat} {o : Oper} (hk : fl.length ≤ k) (ho : l[k]? = some o)
    (hr : ∀ e ∈ o.after, Region.binds md e = true → D e.on) : ∀ j, j < k → fl.getD j false = false → D j := by
  intro j hj hf
  have hkl : k < l.length := (List.getElem?_eq_some_iff.1 ho).1
  simp only [tailB, List.all_eq_true, List.mem_range, Bool.or_eq_true, Nat.blt_eq] at hT
  rcases hT k hkl with h | h
  · omega
  · rcases h j hj with h' | h'
    · rw [hf] at h'; cases h'
    · exact closed_anc hc k o ho hr j (by simpa using h')

/-- No operation waits for one that stands behind it. -/
def edgesB (md : Region.Mode) (l : List Oper) : Bool := (List.range l.length).all fun i => ((l[i]?).map fun o => o.after.toList.all fun e => !Region.binds md e || Nat.blt e.on i).getD true
theorem edges_lt (hE : edgesB md l = true) {i : Nat} {o : Oper} (ho : l[i]? = some o) : ∀ e ∈ o.after, Region.binds md e = true → e.on < i := by
  intro e he hb
  have hil : i < l.length := (List.getElem?_eq_some_iff.1 ho).1
  simp only [edgesB, List.all_eq_true, List.mem_range] at hE
  have := hE i hil
  rw [ho] at this
  simp only [Option.map_some, Option.getD_some, List.all_eq_true, Bool.or_eq_true, Bool.not_eq_true', Nat.blt_eq] at this
  rcases this e (by simpa using he) with h | h
  · rw [h] at hb; cases hb
  · exact h

/-- How many are still to come. -/
def toCome (L : Nat) (listed : Array Bool) : Nat := ((List.range L).filter fun i => !listed.getD i false).length

theorem nodup_length_le : ∀ (l₁ l₂ : List Nat), l₁.Nodup → (∀ x, x ∈ l₁ → x ∈ l₂) → l₁.length ≤ l₂.length
  | [], _, _, _ => by simp
  | x :: r, l₂, hn, hs => by
    have hx : x ∈ l₂ := hs x (by simp)
    have hn' := List.nodup_cons.1 hn
    have h := nodup_length_le r (l₂.erase x) hn'.2 (fun y hy => (List.mem_erase_of_ne (fun (e : y = x) => hn'.1 (by rw [← e]; exact hy))).2 (hs y (by simp [hy])))
    have hl := List.length_erase_of_mem hx
    have hp := List.length_pos_of_mem hx
    simp only [List.length_cons]
    omega

theorem toCome_set {L i : Nat} {listed : Array Bool} (hs : listed.size = L) (hi : i < L) (hu : listed.getD i false = false) : toCome L (listed.setIfInBounds i true) + 1 ≤ toCome L listed := by
  unfold toCome
  have hsub : ∀ j, j ∈ (i :: (List.range L).filter fun j => !(listed.setIfInBounds i true).getD j false) → j ∈ (List.range L).filter fun j => !listed.getD j false := by
    intro j hj
    simp only [List.mem_cons, List.mem_filter, List.mem_range, Bool.not_eq_true'] at hj ⊢
    rcases hj with rfl | ⟨h1, h2⟩
    · exact ⟨hi, hu⟩
    · refine ⟨h1, ?_⟩
      by_cases e : i = j
      · subst e; simp [hs, hi] at h2
      · rw [getD_set_ne false e] at h2; exact h2
  have hnd2 : (i :: (List.range L).filter fun j => !(listed.setIfInBounds i true).getD j false).Nodup := by
    refine List.nodup_cons.2 ⟨?_, List.nodup_range.filter _⟩
    simp [hs, hi]
  have := nodup_length_le _ _ hnd2 hsub
  simpa using this

/-- ANY ORDER: the invariant 'Inv D' speaks of the set D of the operations that were carried out, as long as one of the first ones that do not float is missing; 'Inv2 D m': the tail has come as far as m, some that float may be missing. -/
theorem wpAny_inv (Inv : (Nat → Prop) → Act → World → Prop) (Inv2 : (Nat → Prop) → Nat → Act → World → Prop) (hE : edgesB md l = true) (hT : tailB md l fl = true)
    (step : ∀ (D : Nat → Prop) a w i o, Closed md l.toArray D → (∀ k, fl.length ≤ k → ¬ D k) → i < fl.length → l[i]? = some o → ¬ D i → (∀ e ∈ o.after, Region.binds md e = true → D e.on) → Inv D a w →
      wpOp P l.toArray Q i (fun a' w' => Inv (fun j => D j ∨ j = i) a' w') a w)
    (turn : ∀ (D : Nat → Prop) a w, Closed md l.toArray D → (∀ i, i < fl.length → i < l.length → fl.getD i false = false → D i) → (∀ k, fl.length ≤ k → ¬ D k) → Inv D a w → Inv2 D fl.length a w)
    (tail : ∀ (D : Nat → Prop) a w m o, Closed md l.toArray D → fl.length ≤ m → l[m]? = some o → (∀ k, m ≤ k → ¬ D k) → (∀ e ∈ o.after, Region.binds md e = true → D e.on) → Inv2 D m a w →
      wpOp P l.toArray Q m (fun a' w' => Inv2 (fun j => D j ∨ j = m) (m + 1) a' w') a w)
    (float : ∀ (D : Nat → Prop) a w m i o, Closed md l.toArray D → i < fl.length → fl.length ≤ m → fl.getD i false = true → l[i]? = some o → ¬ D i → (∀ e ∈ o.after, Region.binds md e = true → D e.on) → Inv2 D m a w →
      wpOp P l.toArray Q i (fun a' w' => Inv2 (fun j => D j ∨ j = i) m a' w') a w)
    (fin : ∀ (D : Nat → Prop) a w m, (∀ i, i < l.length → D i) → l.length ≤ m → Inv2 D m a w → Q .normal a w) :
    ∀ (fuel : Nat) (listed : Array Bool) (D : Nat → Prop) (a : Act) (w : World), listed.size = l.length → (∀ i, D i ↔ listed.getD i false = true) → Closed md l.toArray D →
      toCome l.length listed ≤ fuel →
      ((∃ i, i < fl.length ∧ i < l.length ∧ fl.getD i false = false ∧ ¬ D i) ∧ (∀ k, fl.length ≤ k → ¬ D k) ∧ Inv D a w ∨
        ∃ m, fl.length ≤ m ∧ (∀ i, i < fl.length → i < l.length → fl.getD i false = false → D i) ∧ (∀ i, fl.length ≤ i → i < m → i < l.length → D i) ∧ (∀ k, m ≤ k → ¬ D k) ∧ Inv2 D m a w) →
      wpAny P md l.toArray Q fuel listed a w := by
  have readyMem : ∀ (listed : Array Bool) (D : Nat → Prop) (j : Nat), listed.size = l.length → (∀ i, D i ↔ listed.getD i false = true) → j ∈ Region.ready md l.toArray listed →
      ¬ D j ∧ ∃ o, l[j]? = some o ∧ ∀ e ∈ o.after, Region.binds md e = true → D e.on := by
    intro listed D j hs hD hj
    obtain ⟨h0, o, ho, ha⟩ := mem_ready.1 hj
    have hjl : j < l.length := by
      have := (Array.getElem?_eq_some_iff.1 ho).1
      simpa using this
    refine ⟨fun h => ?_, o, by simpa using ho, fun e he hb => (hD _).2 (ha e he hb)⟩
    rw [hD] at h
    simp [hs, hjl] at h h0
    rw [h] at h0
    cases h0
  have readyOf : ∀ (listed : Array Bool) (D : Nat → Prop) (j : Nat), listed.size = l.length → (∀ i, D i ↔ listed.getD i false = true) → j < l.length → ¬ D j → (∀ i, i < j → D i) → j ∈ Region.ready md l.toArray listed := by
    intro listed D j hs hD hj hn hall
    have ho : l[j]? = some l[j] := List.getElem?_eq_getElem hj
    refine mem_ready.2 ⟨?_, l[j], by simp, fun e he hb => (hD _).1 (hall _ (edges_lt hE ho e he hb))⟩
    rw [hD] at hn
    simp [hs, hj] at hn ⊢
    exact hn
  -- nothing may come up: all has come up
  have allOf : ∀ (listed : Array Bool) (D : Nat → Prop), listed.size = l.length → (∀ i, D i ↔ listed.getD i false = true) → Region.ready md l.toArray listed = [] → ∀ i, i < l.length → D i := by
    intro listed D hs hD hr i hi
    apply Classical.byContradiction
    intro hni
    obtain ⟨j, ⟨hj1, hj2⟩, hmin⟩ := least (p := fun j => j < l.length ∧ ¬ D j) ⟨i, hi, hni⟩
    have : j ∈ Region.ready md l.toArray listed := readyOf listed D j hs hD hj1 hj2 (fun k hk => by
      apply Classical.byContradiction
      intro hnk
      have := hmin k ⟨by omega, hnk⟩
      omega)
    rw [hr] at this
    cases this
  have ended : ∀ (D : Nat → Prop) a w, (∀ i, i < l.length → D i) → ((∃ i, i < fl.length ∧ i < l.length ∧ fl.getD i false = false ∧ ¬ D i) ∧ (∀ k, fl.length ≤ k → ¬ D k) ∧ Inv D a w ∨
        ∃ m, fl.length ≤ m ∧ (∀ i, i < fl.length → i < l.length → fl.getD i false = false → D i) ∧ (∀ i, fl.length ≤ i → i < m → i < l.length → D i) ∧ (∀ k, m ≤ k → ¬ D k) ∧ Inv2 D m a w) → Q .normal a w := by
    intro D a w hall h
    rcases h with ⟨⟨i, _, h2, _, h3⟩, _⟩ | ⟨m, _, _, _, h3, h4⟩
    · exact absurd (hall i h2) h3
    · have : l.length ≤ m := by
        rcases Nat.lt_or_ge m l.length with h | h
        · exact absurd (hall m h) (h3 m (Nat.le_refl _))
        · exact h
      exact fin D a w m hall this h4
  intro fuel
  induction fuel with
  | zero =>
    intro listed D a w hs hD hc hf h
    have hall : ∀ i, i < l.length → D i := by
      intro i hi
      rw [hD]
      have h0 : (List.range l.length).filter (fun i => !listed.getD i false) = [] := List.eq_nil_of_length_eq_zero (by unfold toCome at hf; omega)
      rw [List.filter_eq_nil_iff] at h0
      have := h0 i (by simpa using hi)
      simpa using this
    refine ⟨?_, ended D a w hall h⟩
    apply List.eq_nil_iff_forall_not_mem.2
    intro j hj
    obtain ⟨h1, o, ho, _⟩ := readyMem listed D j hs hD hj
    exact h1 (hall j (List.getElem?_eq_some_iff.1 ho).1)
  | succ fuel ih =>
    intro listed D a w hs hD hc hf h
    have next : ∀ i, i < l.length → ¬ D i → (∀ o, l[i]? = some o → ∀ e ∈ o.after, Region.binds md e = true → D e.on) → (∀ j, (D j ∨ j = i) ↔ (listed.setIfInBounds i true).getD j false = true) ∧
        Closed md l.toArray (fun j => D j ∨ j = i) ∧ toCome l.length (listed.setIfInBounds i true) ≤ fuel := by
      intro i hi hn ha
      refine ⟨fun j => ?_, ?_, ?_⟩
      · by_cases e : i = j
        · subst e; simp [hs, hi]
        · rw [getD_set_ne false e, ← hD]
          exact ⟨fun h => h.resolve_right (fun h => e h.symm), .inl⟩
      · intro k o ho hk e he hb
        rcases hk with hk | rfl
        · exact .inl (hc k o ho hk e he hb)
        · exact .inl (ha o (by simpa using ho) e he hb)
      · have hu : listed.getD i false = false := by
          cases hb : listed.getD i false
          · rfl
          · exact absurd ((hD i).2 hb) hn
        have := toCome_set hs hi hu
        omega
    refine ⟨fun hr => ended D a w (allOf listed D hs hD hr) h, fun i hi => ?_⟩
    obtain ⟨hni, o, ho, ha⟩ := readyMem listed D i hs hD hi
    have hil : i < l.length := (List.getElem?_eq_some_iff.1 ho).1
    obtain ⟨hD', hc', hf'⟩ := next i hil hni (fun o' ho' => by rw [ho] at ho'; cases ho'; exact ha)
    rcases h with ⟨⟨q, h1, h2, hqf, h3⟩, htail, hInv⟩ | ⟨m, h1, h2, h2', h3, h4⟩
    · have hin : i < fl.length := by
        rcases Nat.lt_or_ge i fl.length with h | h
        · exact h
        · exact absurd (tail_all hT hc h ho ha q (by omega) hqf) h3
      refine wpOp_mono (fun a' w' hI => ?_) (step D a w i o hc htail hin ho hni ha hInv)
      have htail' : ∀ k, fl.length ≤ k → ¬ (D k ∨ k = i) := by
        intro k hk
        rintro (h | rfl)
        · exact htail k hk h
        · omega
      refine ih _ _ a' w' (by simpa using hs) hD' hc' hf' ?_
      by_cases hex : ∃ q, q < fl.length ∧ q < l.length ∧ fl.getD q false = false ∧ ¬ (D q ∨ q = i)
      · exact .inl ⟨hex, htail', hI⟩
      · have hall : ∀ q, q < fl.length → q < l.length → fl.getD q false = false → (D q ∨ q = i) := fun q hq hql hqf => by
          apply Classical.byContradiction; intro hh; exact hex ⟨q, hq, hql, hqf, hh⟩
        exact .inr ⟨fl.length, Nat.le_refl _, hall, fun k _ _ _ => by omega, htail', turn _ a' w' hc' hall htail' hI⟩
    · rcases Nat.lt_or_ge i fl.length with hin | hin
      · have hfl : fl.getD i false = true := by
          cases hb : fl.getD i false
          · exact absurd (h2 i hin hil hb) hni
          · rfl
        refine wpOp_mono (fun a' w' hI => ?_) (float D a w m i o hc hin h1 hfl ho hni ha h4)
        refine ih _ _ a' w' (by simpa using hs) hD' hc' hf' (.inr ⟨m, h1, fun q hq hql hqf => .inl (h2 q hq hql hqf), fun q hq hqm hql => .inl (h2' q hq hqm hql), fun k hk => ?_, hI⟩)
        rintro (h | rfl)
        · exact h3 k hk h
        · omega
      · have him : i = m := by
          rcases Nat.lt_trichotomy i m with h | h | h
          · exact absurd (h2' i hin h hil) hni
          · exact h
          · exact absurd (tail_all hT hc hin ho ha m h (by rw [List.getD_eq_getElem?_getD, List.getElem?_eq_none h1]; rfl)) (h3 m (Nat.le_refl _))
        subst him
        refine wpOp_mono (fun a' w' hI => ?_) (tail D a w i o hc h1 ho h3 ha h4)
        refine ih _ _ a' w' (by simpa using hs) hD' hc' hf' (.inr ⟨i + 1, by omega, fun q hq hql hqf => .inl (h2 q hq hql hqf), fun q hq hqm hql => ?_, fun k hk => ?_, hI⟩)
        · rcases Nat.lt_or_ge q i with h | h
          · exact .inl (h2' q hq h hql)
          · exact .inr (by omega)
        · rintro (h | rfl)
          · exact h3 k (by omega) h
          · omega

/-- A region that draws its order. -/
theorem wp_region_inv {id : Nat} {a : Act} {w : World} (hm : P.follows .mixedOrders = true) (Inv : (Nat → Prop) → Act → World → Prop) (Inv2 : (Nat → Prop) → Nat → Act → World → Prop) (hE : edgesB .any l = true) (hT : tailB .any l fl = true)
    (hI : Inv (fun _ => False) a { w with drawn := w.drawn + 1 })
    (step : ∀ (D : Nat → Prop) a w i o, Closed .any l.toArray D → (∀ k, fl.length ≤ k → ¬ D k) → i < fl.length → l[i]? = some o → ¬ D i → (∀ e ∈ o.after, Region.binds .any e = true → D e.on) → Inv D a w →
      wpOp P l.toArray Q i (fun a' w' => Inv (fun j => D j ∨ j = i) a' w') a w)
    (turn : ∀ (D : Nat → Prop) a w, Closed .any l.toArray D → (∀ i, i < fl.length → i < l.length → fl.getD i false = false → D i) → (∀ k, fl.length ≤ k → ¬ D k) → Inv D a w → Inv2 D fl.length a w)
    (tail : ∀ (D : Nat → Prop) a w m o, Closed .any l.toArray D → fl.length ≤ m → l[m]? = some o → (∀ k, m ≤ k → ¬ D k) → (∀ e ∈ o.after, Region.binds .any e = true → D e.on) → Inv2 D m a w →
      wpOp P l.toArray Q m (fun a' w' => Inv2 (fun j => D j ∨ j = m) (m + 1) a' w') a w)
    (float : ∀ (D : Nat → Prop) a w m i o, Closed .any l.toArray D → i < fl.length → fl.length ≤ m → fl.getD i false = true → l[i]? = some o → ¬ D i → (∀ e ∈ o.after, Region.binds .any e = true → D e.on) → Inv2 D m a w →
      wpOp P l.toArray Q i (fun a' w' => Inv2 (fun j => D j ∨ j = i) m a' w') a w)
    (fin : ∀ (D : Nat → Prop) a w m, (∀ i, i < l.length → D i) → l.length ≤ m → Inv2 D m a w → Q .normal a w) :
    (Code.region id l.toArray true).wp P Q a w := by
  refine wp_region_any hm (wpAny_inv Inv Inv2 hE hT step turn tail float fin _ _ (fun _ => False) a _ (by simp) (fun i => ?_) (fun _ _ _ h => h.elim) ?_ ?_)
  · constructor
    · exact False.elim
    · intro h
      simp only [Array.getD_eq_getD_getElem?, Array.getElem?_replicate] at h
      split at h <;> simp at h
  · unfold toCome
    have := List.length_filter_le (fun i => !(Array.replicate l.toArray.size false).getD i false) (List.range l.length)
    simpa using this
  · by_cases hex : ∃ i, i < fl.length ∧ i < l.length ∧ fl.getD i false = false
    · obtain ⟨i, h1, h2, h3⟩ := hex
      exact .inl ⟨⟨i, h1, h2, h3, fun h => h⟩, fun _ _ h => h, hI⟩
    · have hall : ∀ i, i < fl.length → i < l.length → fl.getD i false = false → False := fun i h1 h2 h3 => hex ⟨i, h1, h2, h3⟩
      exact .inr ⟨fl.length, Nat.le_refl _, hall, fun i h1 h2 _ => by omega, fun _ _ h => h, turn _ a _ (fun _ _ _ h => h.elim) hall (fun _ _ h => h) hI⟩
end
end Go.EL
