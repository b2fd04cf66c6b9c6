/- The lexicographic order as a strict order, and slices.SortFunc's contract at lists of monomials. The conditions stand in each statement. -/
import Derived.Test.YtdpmpefjplfgbaaElj
import Derived.Shelf.SlSortCmp.NoneTotal
namespace Go.EL
open Go Go.RowKit

theorem cmpFrom_neg (a b : M) : ∀ n k, cmpFrom b a n k = - cmpFrom a b n k
  | 0, _ => by simp [cmpFrom]
  | n + 1, k => by
    simp only [cmpFrom]
    split
    · rename_i h
      rw [cmpFrom_neg a b n (k + 1)]
      split <;> split <;> first | omega | (split <;> omega)
    · rfl
theorem cmpFrom_range (a b : M) : ∀ n k, cmpFrom a b n k = -1 ∨ cmpFrom a b n k = 0 ∨ cmpFrom a b n k = 1
  | 0, _ => by simp [cmpFrom]
  | n + 1, k => by
    have := cmpFrom_range a b n (k + 1)
    simp only [cmpFrom]
    split
    · split
      · omega
      · split <;> omega
    · omega
theorem cmpFrom_trans (a b c : M) : ∀ n k, cmpFrom a b n k ≤ 0 → cmpFrom b c n k ≤ 0 → cmpFrom a c n k ≤ 0 ∧ ((cmpFrom a b n k < 0 ∨ cmpFrom b c n k < 0) → cmpFrom a c n k < 0)
  | 0, _ => by simp [cmpFrom]
  | n + 1, k => by
    have ih := cmpFrom_trans a b c n (k + 1)
    simp only [cmpFrom]
    by_cases h : k < 8
    · simp only [dif_pos h]
      by_cases h1 : a ⟨k, h⟩ < b ⟨k, h⟩
      · by_cases h2 : b ⟨k, h⟩ < c ⟨k, h⟩
        · simp [h1, h2, show a ⟨k, h⟩ < c ⟨k, h⟩ by omega]
        · by_cases h3 : c ⟨k, h⟩ < b ⟨k, h⟩
          · simp [h2, h3]
          · simp [show a ⟨k, h⟩ < c ⟨k, h⟩ by omega]
      · by_cases h1' : b ⟨k, h⟩ < a ⟨k, h⟩
        · simp [h1, h1']
        · by_cases h2 : b ⟨k, h⟩ < c ⟨k, h⟩
          · simp [show a ⟨k, h⟩ < c ⟨k, h⟩ by omega]
          · by_cases h3 : c ⟨k, h⟩ < b ⟨k, h⟩
            · simp [h2, h3]
            · simp only [h1, h1', h2, h3, if_false, show ¬ a ⟨k, h⟩ < c ⟨k, h⟩ by omega, show ¬ c ⟨k, h⟩ < a ⟨k, h⟩ by omega]
              exact ih
    · simp [h]
theorem cmpFrom_zero (a b : M) : ∀ n k, n + k = 8 → cmpFrom a b n k = 0 → ∀ i : Fin 8, k ≤ i.val → a i = b i
  | 0, k, e, _, i, hi => by have := i.isLt; omega
  | n + 1, k, e, hz, i, hi => by
    have hk : k < 8 := by omega
    simp only [cmpFrom, dif_pos hk] at hz
    by_cases h1 : a ⟨k, hk⟩ < b ⟨k, hk⟩
    · simp [h1] at hz
    · by_cases h2 : b ⟨k, hk⟩ < a ⟨k, hk⟩
      · simp [h1, h2] at hz
      · simp only [h1, h2, if_false] at hz
        by_cases hik : i.val = k
        · have : i = ⟨k, hk⟩ := Fin.ext hik
          subst this; omega
        · exact cmpFrom_zero a b n (k + 1) (by omega) hz i (by omega)
theorem cmpM_neg (a b : M) : cmpM b a = - cmpM a b := cmpFrom_neg a b 8 0
theorem cmpM_range (a b : M) : cmpM a b = -1 ∨ cmpM a b = 0 ∨ cmpM a b = 1 := cmpFrom_range a b 8 0
theorem cmpM_le_trans {a b c : M} (h1 : cmpM a b ≤ 0) (h2 : cmpM b c ≤ 0) : cmpM a c ≤ 0 := (cmpFrom_trans a b c 8 0 h1 h2).1
theorem cmpM_lt_trans {a b c : M} (h1 : cmpM a b ≤ 0) (h2 : cmpM b c ≤ 0) (h : cmpM a b < 0 ∨ cmpM b c < 0) : cmpM a c < 0 := (cmpFrom_trans a b c 8 0 h1 h2).2 h
theorem cmpM_self (a : M) : cmpM a a = 0 := cmpM_eq a a fun _ => rfl
theorem cmpM_zero {a b : M} (h : cmpM a b = 0) : a = b := funext fun i => cmpFrom_zero a b 8 0 rfl h i (Nat.zero_le _)

theorem swoM : Go.Sort.SWO (Go.Proofs.ltOf cmpM) where
  irrefl x := by simp [Go.Proofs.ltOf, cmpM_self]
  trans x y z h1 h2 := by
    simp only [Go.Proofs.ltOf, decide_eq_true_eq] at *
    exact cmpM_lt_trans (by omega) (by omega) (.inl h1)
  ntrans x y z h1 h2 := by
    simp only [Go.Proofs.ltOf, decide_eq_false_iff_not] at *
    have a := cmpM_neg x y
    have b := cmpM_neg y z
    have c := cmpM_neg x z
    have := cmpM_le_trans (a := z) (b := y) (c := x) (by omega) (by omega)
    omega
theorem totM (x y : M) (h1 : Go.Proofs.ltOf cmpM x y = false) (h2 : Go.Proofs.ltOf cmpM y x = false) : x = y := by
  simp only [Go.Proofs.ltOf, decide_eq_false_iff_not] at *
  have := cmpM_neg x y
  exact cmpM_zero (by omega)
/-- The sorted list. -/
def sortM (l : List M) : List M := l.mergeSort fun x y => !(Go.Proofs.ltOf cmpM) y x
theorem sortM_perm (l : List M) : (sortM l).Perm l := List.mergeSort_perm _ _
theorem sortM_length (l : List M) : (sortM l).length = l.length := (sortM_perm l).length_eq
theorem sortM_sorted (l : List M) : (sortM l).Pairwise fun x y => cmpM x y ≤ 0 := by
  have := List.pairwise_mergeSort (le := fun x y => !(Go.Proofs.ltOf cmpM) y x) (fun a b c h1 h2 => by
    simp only [Bool.not_eq_true'] at *
    exact swoM.ntrans _ _ _ h2 h1) (fun a b => by
    simp only [Go.Proofs.ltOf, Bool.or_eq_true, Bool.not_eq_true', decide_eq_false_iff_not]
    have := cmpM_neg a b
    omega) l
  refine this.imp fun {a b} h => ?_
  simp only [Go.Proofs.ltOf, Bool.not_eq_true', decide_eq_false_iff_not] at h
  have := cmpM_neg a b
  omega

instance : Inhabited M := ⟨zeroM⟩
theorem flatK_flat (l : List M) : Go.Sort.flatK (fun m => (vecA m).toList) 8 l.toArray = (flat l).toArray := by
  apply Array.ext
  · simp [flat_length]
  · intro i h1 h2
    simp only [Go.Sort.size_flatK, List.size_toArray] at h1
    have hi : i / 8 < l.length := by omega
    have h8 : i % 8 < 8 := by omega
    have hf := flat_get l (i / 8) hi ⟨i % 8, h8⟩
    rw [show i / 8 * 8 + i % 8 = i by omega] at hf
    have hg := Go.Sort.get_flatK (fun m => (vecA m).toList) 8 l.toArray i (by simpa using h1)
    rw [getElem!_pos _ i (by simpa using h1)] at hg
    rw [hg]
    have e1 : l.toArray[i / 8]! = l[i / 8] := by rw [getElem!_pos _ _ (by simpa using hi)]; simp
    rw [e1]
    have hv := vecA_get l[i / 8] h8
    have e2 : (vecA l[i / 8]).toList[i % 8]! = .int .i64 (l[i / 8] ⟨i % 8, h8⟩) := by
      rw [getElem!_pos _ _ (by simp [vecA_size]; omega)]
      rw [Array.getElem?_eq_getElem (by rw [vecA_size]; exact h8)] at hv
      simpa using hv
    rw [e2]
    rw [List.getElem?_eq_getElem (by simpa using h2)] at hf
    simpa using hf.symm

theorem cells_grown {w w' : World} (h1 : w'.os = w.os) (h2 : w'.tape = w.tape) (h3 : w'.output = w.output) (h4 : w.drawn ≤ w'.drawn) (h5 : w.heap.size ≤ w'.heap.size) (h6 : ∀ k, k < w.heap.size → w'.heap[k]? = w.heap[k]?) :
    ∃ q os, w' = Go.Sort.grow (w.drewN q) os := by
  refine ⟨w'.drawn - w.drawn, w'.heap.extract w.heap.size w'.heap.size, ?_⟩
  obtain ⟨hp, tp, dr, o, ou⟩ := w'
  simp only at h1 h2 h3 h4 h5 h6
  subst h1 h2 h3
  simp only [Go.Sort.grow, World.drewN]
  congr 1
  · apply Array.ext_getElem?
    intro k
    rw [Array.getElem?_append]
    split
    · rename_i hk; exact h6 k hk
    · rename_i hk
      rw [Array.getElem?_extract]
      split
      · congr 1; omega
      · rw [Array.getElem?_eq_none]; omega
  · omega

variable {P : Program} {ρ : Go.Shelf.Ren}
/-- slices.SortFunc under the lexicographic comparison: the row's elements, sorted. -/
theorem sortFunc (S : Go.Proofs.SlLaysF0.n6 P ρ) {f g : Nat} (hf : ρ.f 6 = f) (aE : ∀ w, (isAgg (ρ.t 24)).run P w = .ok true w) (zE : ∀ w, (Go.sizeOf (ρ.t 24)).run P w = .ok 8 w)
    (hg : ∀ x y : M, Ctr P g #[.agg (vecA x), .agg (vecA y)] (fun _ => True) (fun _ r => r = .int .i64 (cmpM x y))) (eg : ∀ args w, (callFunc g args).run P w = .ok (.enter g args) w)
    (i b cap : Nat) (l : List M) (rest : List Value) (e : TypeId) (hlen : l.length ≤ 1000000) :
    CtrL P f #[.slice (some ⟨b, 0, none⟩) l.length cap, .func (.func g) #[] #[]] [(i, b, .cells (flat l ++ rest).toArray e (0, 0))] (fun _ => True)
      (fun _ L r => L = [(i, b, .cells (flat (sortM l) ++ rest).toArray e (0, 0))] ∧ r = .tuple #[]) := by
  subst hf
  intro w G hi _
  have hget : Lo.get [(i, b, Obj.cells (flat l ++ rest).toArray e (0, 0))] i = some (b, .cells (flat l ++ rest).toArray e (0, 0)) := by simp [Lo.get]
  have hb := (hi.loc i b _ hget).1
  have hGb := (hi.loc i b _ hget).2
  have hbs : b < w.heap.size := (Array.getElem?_eq_some_iff.1 hb).1
  have hc : Go.Proofs.CmpLays P g #[] (fun m : M => (vecA m).toList) 8 cmpM b 0 l.toArray.size w := by
    intro m os dk _ x y
    refine (hg x y _ (fun _ _ => none) ⟨(by intro _ _ _ h; cases h), (by intro _ _ _ h; simp [Lo.get] at h), (by intro _ _ _ _ _ _ _ h; simp [Lo.get] at h)⟩ trivial).mono ?_
    rintro en w' ⟨r, G', L', he, hx, rfl⟩
    refine ⟨he, cells_grown hx.os hx.tape hx.output hx.drawn hx.size fun k hk => hx.block k hk (fun _ _ h => by simp [Lo.get] at h)⟩
  have hH : Go.Sort.HoldsK (fun m : M => (vecA m).toList) 8 w b 0 l.toArray := by
    unfold Go.Sort.HoldsK
    rw [flatK_flat]
    intro j hj
    simp only [List.size_toArray] at hj
    have : (flat l)[j]? = some (flat l)[j] := List.getElem?_eq_getElem hj
    constructor
    · simp only [World.cell?, hb, Nat.zero_add, Option.isSome_none, Bool.false_eq_true, if_false, List.getElem?_toArray]
      rw [List.getElem?_append_left hj, this]
      rw [getElem!_pos _ _ (by simpa using hj)]; simp
    · simp [World.frozen?, hb]
  have hS := Go.Proofs.AnyQ.slices_SortFunc_total S 8 aE zE (fun m : M => (vecA m).toList) (fun _ => rfl) (fun x v hv => by
    have := flat_one_cell [x] v (by rw [flat_one]; exact hv)
    exact this) cmpM swoM g #[] b 0 cap l.toArray w eg hc hH hbs (by simp; omega) totM
  refine Calls.mono (by simpa using hS) ?_
  rintro en w' ⟨rfl, n, os, hw⟩
  have hw' : w' = Go.Sort.grow (Go.Sort.putRow id (Go.Sort.ahead w n) b 0 (flat (sortM l)).toArray) os := by
    rw [hw]; simp only [Go.Proofs.sortWorldK, Go.Sort.putRowK]; rw [flatK_flat]; rfl
  have hother : ∀ k, k < w.heap.size → k ≠ b → w'.heap[k]? = w.heap[k]? := by
    intro k hk hne
    rw [hw']
    simp only [Go.Sort.grow, Go.Sort.putRow, Go.Sort.mapBlock, Go.Sort.ahead]
    rw [Array.getElem?_append_left (by simpa using hk), Array.getElem?_modify, if_neg (fun e => hne e.symm)]
  have hfl : (flat (sortM l)).length = (flat l).length := by rw [flat_length, flat_length, sortM_length]
  have hrow : w'.heap[b]? = some (.cells (flat (sortM l) ++ rest).toArray e (0, 0)) := by
    rw [hw']
    simp only [Go.Sort.grow, Go.Sort.putRow, Go.Sort.mapBlock, Go.Sort.ahead]
    rw [Array.getElem?_append_left (by simpa using hbs), Array.getElem?_modify, if_pos rfl, hb]
    simp only [Option.map_some, Go.Sort.onCells, Option.some.injEq, Obj.cells.injEq, and_true]
    apply Array.ext_getElem?
    intro k
    simp only [Go.Sort.putCells, Array.getElem?_mapIdx, List.getElem?_toArray, Nat.zero_le, true_and, Nat.zero_add, Nat.sub_zero, List.size_toArray, id]
    by_cases hk : k < (flat l).length
    · rw [List.getElem?_append_left hk, List.getElem?_append_left (by omega), List.getElem?_eq_getElem hk, List.getElem?_eq_getElem (by omega : k < (flat (sortM l)).length)]
      simp only [Option.map_some, if_pos (show k < (flat (sortM l)).length by omega)]
      rw [getElem!_pos _ _ (by simp; omega)]; simp
    · rw [List.getElem?_append_right (by omega), List.getElem?_append_right (by omega), hfl]
      cases rest[k - (flat l).length]? with
      | none => rfl
      | some v => simp only [Option.map_some, if_neg hk]
  have hsz : w.heap.size ≤ w'.heap.size := by
    rw [hw']; simp [Go.Sort.grow, Go.Sort.putRow, Go.Sort.mapBlock, Go.Sort.ahead]
  refine ⟨_, G, _, rfl, ⟨by rw [hw']; rfl, by rw [hw']; rfl, by rw [hw']; rfl, by rw [hw']; simp [Go.Sort.grow, Go.Sort.putRow, Go.Sort.mapBlock, Go.Sort.ahead], hsz, ?_, Mem.le_refl _, ?_, fun _ _ _ h => .inl h, ?_, ?_⟩, rfl, rfl⟩
  · intro k hk hn
    exact hother k hk fun e => by subst e; exact hn i _ hget
  · intro k o v hv
    have hc := hi.imm k o v hv
    have hne : k ≠ b := fun e => by subst e; rw [hGb o] at hv; cases hv
    have hk : k < w.heap.size := by
      simp only [World.cell?] at hc
      cases hh : w.heap[k]? with
      | none => rw [hh] at hc; cases hc
      | some x => exact (Array.getElem?_eq_some_iff.1 hh).1
    simp only [World.cell?, hother k hk hne] at hc ⊢
    exact hc
  · intro j b' o hj
    have h2 : b' = b ∧ o = .cells (flat (sortM l) ++ rest).toArray e (0, 0) ∧ i = j := by
      simp only [Lo.get] at hj
      cases hij : Nat.beq i j with
      | true => rw [hij] at hj; simp only [cond_true, Option.some.injEq, Prod.mk.injEq] at hj; exact ⟨hj.1.symm, hj.2.symm, Nat.eq_of_beq_eq_true hij⟩
      | false => rw [hij] at hj; cases hj
    obtain ⟨rfl, rfl, rfl⟩ := h2
    exact ⟨hrow, .inl ⟨_, hget⟩, hGb⟩
  · intro j k b₁ o₁ b₂ o₂ hne h1 h2
    exfalso
    simp only [Lo.get] at h1 h2
    cases hij : Nat.beq i j with
    | false => rw [hij] at h1; cases h1
    | true =>
      cases hik : Nat.beq i k with
      | false => rw [hik] at h2; cases h2
      | true => exact hne ((Nat.eq_of_beq_eq_true hij).symm.trans (Nat.eq_of_beq_eq_true hik))
/-- .. of no element: nothing turns. -/
theorem sortFunc_none (S : Go.Proofs.SlLaysF0.n6 P ρ) {f : Nat} (hf : ρ.f 6 = f) (p : Option Addr) (cap : Nat) (fv : Value) : Ctr P f #[.slice p 0 cap, fv] (fun _ => True) (fun _ r => r = .tuple #[]) := by
  subst hf
  intro w G hi _
  refine (Go.Proofs.AnyF.slices_SortFunc_none S p cap fv w).mono ?_
  rintro en w' ⟨rfl, rfl⟩
  exact ⟨_, G, [], rfl, ⟨rfl, rfl, rfl, Nat.le_refl _, Nat.le_refl _, fun _ _ _ => rfl, Mem.le_refl _, hi.imm, fun _ _ _ h => .inl h, by intro _ _ _ h; simp [Lo.get] at h, by intro _ _ _ _ _ _ _ h; simp [Lo.get] at h⟩, rfl⟩
end Go.EL
