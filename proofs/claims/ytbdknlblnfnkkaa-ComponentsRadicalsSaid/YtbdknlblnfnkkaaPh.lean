/- The functions in a form that can be run; the fixed examples. No condition. -/
import Derived.Test.YtbdknlblnfnkkaaPg
namespace Go.EL
open Go
section
variable {α : Type} (le : α → α → Bool)
def insL (x : α) : List α → List α
  | [] => [x]
  | y :: l => if le x y then x :: y :: l else y :: insL x l
def isortL (l : List α) : List α := l.foldr (insL le) []
variable {le}
theorem insL_perm (x : α) : ∀ l : List α, (insL le x l).Perm (x :: l)
  | [] => List.Perm.refl _
  | y :: l => by
    unfold insL
    split
    · exact List.Perm.refl _
    · exact ((insL_perm x l).cons y).trans (List.Perm.swap x y l)
theorem isortL_perm : ∀ l : List α, (isortL le l).Perm l
  | [] => List.Perm.refl _
  | x :: l => (insL_perm x _).trans ((isortL_perm l).cons x)
theorem insL_sorted (tr : ∀ a b c, le a b = true → le b c = true → le a c = true) (to : ∀ a b, (le a b || le b a) = true) (x : α) : ∀ l : List α, l.Pairwise (fun a b => le a b = true) → (insL le x l).Pairwise (fun a b => le a b = true)
  | [], _ => by simp [insL]
  | y :: l, h => by
    obtain ⟨h1, h2⟩ := List.pairwise_cons.1 h
    unfold insL
    split
    · rename_i hx
      exact List.pairwise_cons.2 ⟨fun b hb => by
        rcases List.mem_cons.1 hb with rfl | hb
        · exact hx
        · exact tr _ _ _ hx (h1 b hb), h⟩
    · rename_i hx
      have hyx : le y x = true := by have := to x y; simp only [Bool.or_eq_true] at this; rcases this with h | h; exact absurd h hx; exact h
      refine List.pairwise_cons.2 ⟨fun b hb => ?_, insL_sorted tr to x l h2⟩
      rcases List.mem_cons.1 ((insL_perm x l).mem_iff.1 hb) with rfl | hb
      · exact hyx
      · exact h1 b hb
theorem isortL_sorted (tr : ∀ a b c, le a b = true → le b c = true → le a c = true) (to : ∀ a b, (le a b || le b a) = true) : ∀ l : List α, (isortL le l).Pairwise (fun a b => le a b = true)
  | [] => List.Pairwise.nil
  | x :: l => insL_sorted tr to x _ (isortL_sorted tr to l)
theorem mergeSort_isortL (tr : ∀ a b c, le a b = true → le b c = true → le a c = true) (to : ∀ a b, (le a b || le b a) = true) (an : ∀ a b, le a b = true → le b a = true → a = b) (l : List α) : l.mergeSort le = isortL le l :=
  List.Perm.eq_of_pairwise (le := fun a b => le a b = true) (fun a b _ _ h1 h2 => an a b h1 h2) (List.pairwise_mergeSort tr to l) (isortL_sorted tr to l) ((List.mergeSort_perm l le).trans (isortL_perm l).symm)
end
def leC (cmp : M → M → Int) (x y : M) : Bool := !(Go.Proofs.ltOf cmp) y x
theorem sortM_run (l : List M) : sortM l = isortL (leC cmpM) l := by
  refine mergeSort_isortL (le := leC cmpM) (fun a b c h1 h2 => ?_) (fun a b => ?_) (fun a b h1 h2 => ?_) l
  · simp only [leC, Bool.not_eq_true'] at *
    exact swoM.ntrans _ _ _ h2 h1
  · simp only [leC, Go.Proofs.ltOf, Bool.or_eq_true, Bool.not_eq_true', decide_eq_false_iff_not]
    have := cmpM_neg a b
    omega
  · simp only [leC, Bool.not_eq_true'] at h1 h2
    exact totM a b h2 h1
theorem sortR_run (l : List M) : sortBy (fun a b => cmpM b a) l = isortL (leC fun a b => cmpM b a) l := by
  refine mergeSort_isortL (le := leC fun a b => cmpM b a) (fun a b c h1 h2 => ?_) (fun a b => ?_) (fun a b h1 h2 => ?_) l
  · simp only [leC, Bool.not_eq_true'] at *
    exact swoR.ntrans _ _ _ h2 h1
  · simp only [leC, Go.Proofs.ltOf, Bool.or_eq_true, Bool.not_eq_true', decide_eq_false_iff_not]
    have := cmpM_neg a b
    omega
  · simp only [leC, Bool.not_eq_true'] at h1 h2
    exact totR a b h2 h1
theorem sortI_run (l : List Int) : sortI l = isortL (fun x y => decide (x ≤ y)) l :=
  mergeSort_isortL (le := fun x y : Int => decide (x ≤ y)) (fun a b c h1 h2 => by simp only [decide_eq_true_eq] at *; omega) (fun a b => by simp only [Bool.or_eq_true, decide_eq_true_eq]; omega) (fun a b h1 h2 => by simp only [decide_eq_true_eq] at *; omega) l
def minimalE (l : List M) : List M := (minAcc (isortL (leC cmpM) l)).reverse
theorem minimal_run (l : List M) : minimalM l = minimalE l := by unfold minimalM minimalE; rw [sortM_run]
def irrE (l : List M) : List M := isortL (leC fun a b => cmpM b a) (irrAcc (minimalE l))
theorem irr_run (l : List M) : irrF l = irrE l := by unfold irrF irrE; rw [sortR_run, minimal_run]
def partsE (l : List M) : List (Int × List (List M)) := (irrE l).foldl partsStep []
theorem parts_run (l : List M) : partsF l = partsE l := by unfold partsF partsE; rw [irr_run]
def primesE (l : List M) : List Int := isortL (fun x y => decide (x ≤ y)) ((partsE l).map (·.1))
theorem primes_run (l : List M) : primesF l = primesE l := by unfold primesF primesE; rw [sortI_run, parts_run]
def meetStepE (R m : List M) : List M := minimalE (R.flatMap fun a => m.map (maxM a))
def meetE : List (List M) → List M
  | [] => []
  | x :: ms => ms.foldl meetStepE (minimalE x)
theorem meet_run (l : List (List M)) : meetF l = meetE l := by
  have : meetStep = meetStepE := by funext R m; exact minimal_run _
  cases l with
  | nil => rfl
  | cons x ms => simp only [meetF, meetE]; rw [this, minimal_run]
def partE (l : List M) (p : Int) : T_api_Part := ⟨p, meetE ((mget (partsE l) p).getD [])⟩
theorem part_run (l : List M) (p : Int) : partOf l p = partE l p := by unfold partOf partE; rw [meet_run, parts_run]
theorem rad_run (l : List M) : radF l = minimalE (l.map radM) := minimal_run _
instance decWf (m : M) : Decidable (Wf m) := inferInstanceAs (Decidable (∀ i, (Lit.int IntKind.i64 (m i)).wf = true))
/-- Bounds in a form that can be run. -/
theorem fit_run {l : List M} (h : (decide (l.length ≤ 1000000000) && decide ((minimalE l).length ≤ 8) && l.all (fun m => decide (Wf m)) && decide ((irrE l).length ≤ 100000000) && decide ((partsE l).length ≤ 15)) = true) : Fit l := by
  simp only [Bool.and_eq_true, decide_eq_true_eq, List.all_eq_true] at h
  obtain ⟨⟨⟨⟨h1, h2⟩, h3⟩, h4⟩, h5⟩ := h
  exact ⟨h1, by rw [minimal_run]; exact h2, h3, by rw [irr_run]; exact h4, by rw [parts_run]; exact h5⟩
theorem meetOk_run {x : List M} {ms : List (List M)} (h : (decide (x.length ≤ 1000000000) && decide (ms.length ≤ 1000000) && (List.range ms.length).all fun k => decide ((ms.getD k []).length ≤ 1000000000) && decide (((ms.take k).foldl meetStepE (minimalE x)).length * (ms.getD k []).length ≤ 1000000000)) = true) : MeetOk x ms := by
  have e : meetStep = meetStepE := by funext R m; exact minimal_run _
  simp only [Bool.and_eq_true, decide_eq_true_eq, List.all_eq_true, List.mem_range] at h
  obtain ⟨⟨h1, h2⟩, h3⟩ := h
  refine ⟨h1, h2, fun k hk => ?_⟩
  have := h3 k hk
  have eg : ms.getD k [] = ms[k] := by simp [List.getD, hk]
  rw [eg] at this
  rw [e, minimal_run]
  exact this
theorem partsOk_run {l : List M} (h : (primesE l).all (fun p => decide (0 ≤ p ∧ p < 256) && match (mget (partsE l) p).getD [] with
    | [] => false
    | x :: ms => (decide (x.length ≤ 1000000000) && decide (ms.length ≤ 1000000) && (List.range ms.length).all fun k => decide ((ms.getD k []).length ≤ 1000000000) && decide (((ms.take k).foldl meetStepE (minimalE x)).length * (ms.getD k []).length ≤ 1000000000))) = true) : PartsOk l := by
  intro p hp
  rw [primes_run] at hp
  have := List.all_eq_true.1 h p hp
  rw [Bool.and_eq_true] at this
  refine ⟨of_decide_eq_true this.1, ?_⟩
  rw [parts_run]
  have h2 := this.2
  cases hg : (mget (partsE l) p).getD [] with
  | nil => rw [hg] at h2; cases h2
  | cons x ms => rw [hg] at h2; exact ⟨x, ms, rfl, meetOk_run h2⟩
def l0 : List M := [setF (fun _ => 0) 0 2, setF (setF (fun _ => 0) 0 1) 1 1]
theorem fit0 : Fit l0 := fit_run (by decide +kernel)
theorem pok0 : PartsOk l0 := partsOk_run (by decide +kernel)
theorem check0 : checkF l0 2 = 0 := by decide +kernel
theorem check1 : checkF l0 1 = 1 := by decide +kernel
theorem irr0 : irrF l0 = [setF (setF (fun _ => 0) 0 2) 1 1, setF (fun _ => 0) 0 1] := by rw [irr_run]; decide +kernel
theorem primes0 : primesF l0 = [1, 3] := by rw [primes_run]; decide +kernel
theorem emb0 : embF [1, 3] = [3] := by decide +kernel
theorem prim0 : [1, 3].map (partOf l0) = [(T_api_Part.mk 1 [setF (fun _ => 0) 0 1]), (T_api_Part.mk 3 [setF (fun _ => 0) 0 2, setF (setF (fun _ => 0) 0 0) 1 1])] := by
  simp only [List.map_cons, List.map_nil, part_run]
  decide +kernel
theorem rad0 : radF l0 = [setF (fun _ => 0) 0 1] := by rw [rad_run]; decide +kernel
theorem meet0 : meet2 [setF (fun _ => 0) 0 1] [setF (setF (fun _ => 0) 0 0) 1 1] = [setF (setF (fun _ => 0) 0 1) 1 1] := by unfold meet2; rw [meet_run]; decide +kernel
theorem lb0 : Lb l0 := by unfold Lb; decide
theorem sanity_ret : law21_sanity.Ret true := by
  refine ⟨_, Irr_ret (l := l0) lb0 (fun _ => fit0), _, Primes_ret (l := l0) lb0 (fun _ => fit0), _, Embedded_ret (l := l0) lb0 (fun _ => fit0), _, Primary_ret (l := l0) lb0 (fun _ => ⟨fit0, pok0⟩), _, Primes_ret (l := l0) (n := 1) lb0 (fun _ => fit0), ?_⟩
  simp only [check0, check1, if_true, irr0, primes0, emb0, prim0, if_neg (show ¬ (1 : Int) = 0 by decide)]
  show (law21_sanity_k1 _ _ _ _ (decide ((1 : Int) = 1))).wp _
  unfold law21_sanity_k1
  rw [if_pos (by decide)]
  refine ⟨true, by have := Same_ret (a := [setF (setF (fun _ => 0) 0 2) 1 1, setF (fun _ => 0) 0 1]) (b := [setF (setF (fun _ => 0) 0 2) 1 1, setF (fun _ => 0) 0 1]) (by unfold Lb; decide); simpa using this, ?_⟩
  refine ⟨true, by show decide _ = true; simp, ?_⟩
  refine ⟨true, by show decide _ = true; simp, ?_⟩
  refine ⟨true, by have := SameParts_ret (a := [(T_api_Part.mk 1 [setF (fun _ => 0) 0 1]), (T_api_Part.mk 3 [setF (fun _ => 0) 0 2, setF (setF (fun _ => 0) 0 0) 1 1])]) (b := [(T_api_Part.mk 1 [setF (fun _ => 0) 0 1]), (T_api_Part.mk 3 [setF (fun _ => 0) 0 2, setF (setF (fun _ => 0) 0 0) 1 1])]) (by decide) (fun p hp => by simp only [List.mem_cons, List.not_mem_nil, or_false] at hp; unfold Lb; rcases hp with rfl | rfl <;> decide); simpa using this, ?_⟩
  refine ⟨_, Radical_ret (l := l0) lb0, ?_⟩
  rw [rad0]
  refine ⟨true, by have := Same_ret (a := [setF (fun _ => 0) 0 1]) (b := [setF (fun _ => 0) 0 1]) (by unfold Lb; decide); simpa using this, ?_⟩
  refine ⟨_, Meet_ret (l := [setF (fun _ => 0) 0 1]) (m := [setF (setF (fun _ => 0) 0 0) 1 1]) (by unfold Lb; decide) (by unfold Lb; decide) (by decide), ?_⟩
  rw [meet0]
  exact ⟨true, by have := Same_ret (a := [setF (setF (fun _ => 0) 0 1) 1 1]) (b := [setF (setF (fun _ => 0) 0 1) 1 1]) (by unfold Lb; decide); simpa using this, rfl⟩
end Go.EL
