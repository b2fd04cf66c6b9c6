/- slices.SortFunc's contract at rows of aggregates that lie in one way. The conditions stand in each statement. -/
import Derived.Test.YtbdknlblnfnkkaaEln
import Derived.Shelf.SlSortCmp.NoneTotal
namespace Go.EL
open Go Go.RowKit

/-- The sorted list. -/
def sortBy {α : Type} (cmp : α → α → Int) (l : List α) : List α := l.mergeSort fun x y => !(Go.Proofs.ltOf cmp) y x
theorem sortBy_perm {α : Type} (cmp : α → α → Int) (l : List α) : (sortBy cmp l).Perm l := List.mergeSort_perm _ _
theorem sortBy_length {α : Type} (cmp : α → α → Int) (l : List α) : (sortBy cmp l).length = l.length := (sortBy_perm cmp l).length_eq

section
variable {α : Type} {enc : α → List Value} {sz : Nat}
theorem flatE_length (hl : ∀ x, (enc x).length = sz) (l : List α) : (l.flatMap enc).length = l.length * sz := by
  induction l with
  | nil => simp
  | cons x l ih => simp only [List.flatMap_cons, List.length_append, hl, ih, List.length_cons, Nat.add_mul]; omega
theorem flatE_get (hl : ∀ x, (enc x).length = sz) (l : List α) (i : Nat) (hi : i < l.length) (j : Nat) (hj : j < sz) : (l.flatMap enc)[i * sz + j]? = (enc l[i])[j]? := by
  induction l generalizing i with
  | nil => simp at hi
  | cons x l ih =>
    cases i with
    | zero => simp only [Nat.zero_mul, Nat.zero_add, List.flatMap_cons, List.getElem_cons_zero]; rw [List.getElem?_append_left (by rw [hl]; exact hj)]
    | succ i =>
      simp only [List.flatMap_cons, List.getElem_cons_succ]
      rw [List.getElem?_append_right (by rw [hl, Nat.add_mul]; omega), hl, show (i + 1) * sz + j - sz = i * sz + j by rw [Nat.add_mul]; omega]
      exact ih i (by simpa using hi)
theorem flatK_flatE [Inhabited α] (hl : ∀ x, (enc x).length = sz) (h0 : 0 < sz) (l : List α) : Go.Sort.flatK enc sz l.toArray = (l.flatMap enc).toArray := by
  apply Array.ext
  · simp only [Go.Sort.size_flatK, List.size_toArray, flatE_length hl]
  · intro i h1 h2
    simp only [Go.Sort.size_flatK, List.size_toArray] at h1
    have hi : i / sz < l.length := by rw [Nat.div_lt_iff_lt_mul h0]; exact h1
    have hj : i % sz < sz := Nat.mod_lt _ h0
    have hf := flatE_get hl l (i / sz) hi (i % sz) hj
    rw [show i / sz * sz + i % sz = i by rw [Nat.mul_comm]; exact Nat.div_add_mod i sz] at hf
    have hg := Go.Sort.get_flatK enc sz l.toArray i (by simpa using h1)
    rw [getElem!_pos _ i (by simpa using h1)] at hg
    rw [hg]
    have e1 : l.toArray[i / sz]! = l[i / sz] := by rw [getElem!_pos _ _ (by simpa using hi)]; simp
    rw [e1, getElem!_pos _ _ (by rw [hl]; exact hj)]
    have h2' : i < (l.flatMap enc).length := by simpa using h2
    have hj' : i % sz < (enc l[i / sz]).length := by rw [hl]; exact hj
    rw [List.getElem?_eq_getElem h2', List.getElem?_eq_getElem hj'] at hf
    simp only [Option.some.injEq] at hf
    simpa using hf.symm
theorem RepL.flatE {r : Rp α} {G : Mem} (hr : ∀ G cs x, r.rep G cs x ↔ cs = enc x) : ∀ {l : List α} {cs : List Value}, RepL r G cs l ↔ cs = l.flatMap enc
  | [], cs => by simp [RepL]
  | x :: l, cs => by
    simp only [RepL, List.flatMap_cons]
    constructor
    · rintro ⟨c, d, rfl, h1, h2⟩
      rw [(hr G c x).1 h1, (RepL.flatE hr).1 h2]
    · rintro rfl
      exact ⟨_, _, rfl, (hr G _ x).2 rfl, (RepL.flatE hr).2 rfl⟩
end

theorem cells_grown {w w' : World} (h1 : w'.os = w.os) (h2 : w'.tape = w.tape) (h3 : w'.output = w.output) (h4 : w.drawn ≤ w'.drawn) (h5 : w.heap.size ≤ w'.heap.size) (h6 : ∀ k, k < w.heap.size → w'.heap[k]? = w.heap[k]?) :
    ∃ q os, w' = Go.Sort.grow (w.drewN q) os := by
  refine ⟨w'.drawn - w.drawn, w'.heap.extract w.heap.size w'.heap.size, ?_⟩
  obtain ⟨hp, tp, dr, o, ou⟩ := w'
  simp only at h1 h2 h3 h4 h5 h6
  subst h1 h2 h3
  simp only [Go.Sort.grow, World.drewN]
  congr 1
  · apply Array.ext_getElem?
    intro k
    rw [Array.getElem?_append]
    split
    · rename_i hk; exact h6 k hk
    · rename_i hk
      rw [Array.getElem?_extract]
      split
      · congr 1; omega
      · rw [Array.getElem?_eq_none]; omega
  · omega

variable {P : Program} {ρ : Go.Shelf.Ren}
/-- slices.SortFunc under a comparison that tells all elements apart: the row's elements, sorted. -/
theorem sortFunc {α : Type} [Inhabited α] {enc : α → List Value} {sz : Nat} (hl : ∀ x, (enc x).length = sz) (h0 : 0 < sz) (hone : ∀ x, ∀ v ∈ enc x, v.oneCell' = true) {r : Rp α} (hr : ∀ G cs x, r.rep G cs x ↔ cs = enc x) (hrz : r.size = sz)
    {cmp : α → α → Int} (swo : Go.Sort.SWO (Go.Proofs.ltOf cmp)) (tot : ∀ x y, Go.Proofs.ltOf cmp x y = false → Go.Proofs.ltOf cmp y x = false → x = y)
    (S : Go.Proofs.SlLaysF0.n6 P ρ) {f g : Nat} (hf : ρ.f 6 = f) (aE : ∀ w, (isAgg (ρ.t 24)).run P w = .ok true w) (zE : ∀ w, (Go.sizeOf (ρ.t 24)).run P w = .ok sz w)
    (hg : ∀ x y : α, Ctr P g #[.agg (enc x).toArray, .agg (enc y).toArray] (fun _ => True) (fun _ r => r = .int .i64 (cmp x y))) (eg : ∀ args w, (callFunc g args).run P w = .ok (.enter g args) w)
    (e : TypeId) (p : Option Addr) (n c : Nat) (l : List α) (tk : Option Ow) (hlen : l.length ≤ 1000000000) :
    CtrL P f #[.slice p n c, .func (.func g) #[] #[]] [(5000, tk)] (fun G => RowR r e G (.slice p n c) l tk) (fun G L v => ∃ tk', L = [(5000, tk')] ∧ v = .tuple #[] ∧ RowR r e G (.slice p n c) (sortBy cmp l) tk') := by
  subst hf
  intro w G hi hrow
  cases tk with
  | none =>
    obtain ⟨rfl, q, hq, hq2⟩ := hrow
    cases hq
    refine (Go.Proofs.AnyF.slices_SortFunc_none S p 0 _ w).mono ?_
    rintro en w' ⟨rfl, rfl⟩
    exact ⟨_, G, [(5000, none)], rfl, ⟨rfl, rfl, rfl, Nat.le_refl _, Nat.le_refl _, fun _ _ _ => rfl, Mem.le_refl _, hi.imm, fun _ _ _ h => .inl h, fun i x hx => by rw [Lo.get_cons] at hx; split at hx <;> simp [Lo.get] at hx, fun i j x y _ hx => by rw [Lo.get_cons] at hx; split at hx <;> simp [Lo.get] at hx⟩, none, rfl, rfl, by simp [sortBy], p, rfl, hq2⟩
  | some y =>
    obtain ⟨cap, cs, rest, h1, h2, h3, h4, h5, h6, h7⟩ := hrow
    obtain ⟨b, o, m⟩ := y
    dsimp only at h1 h2 h3
    subst h2 h3
    cases h1
    have hcs := (RepL.flatE hr).1 h4
    subst hcs
    have hget : Lo.get [(5000, some ⟨b, Obj.cells (l.flatMap enc ++ rest).toArray e (0, 0), 0⟩)] 5000 = some ⟨b, .cells (l.flatMap enc ++ rest).toArray e (0, 0), 0⟩ := by simp [Lo.get]
    obtain ⟨hb, hGb⟩ := hi.loc 5000 _ hget
    dsimp only at hb hGb
    have hbs : b < w.heap.size := (Array.getElem?_eq_some_iff.1 hb).1
    have hc : Go.Proofs.CmpLays P g #[] enc sz cmp b 0 l.toArray.size w := by
      intro m os dk _ x y
      refine (hg x y _ (fun _ _ => none) (Hp.empty _) trivial).mono ?_
      rintro en w' ⟨r, G', L', he, hx, rfl⟩
      exact ⟨he, cells_grown hx.os hx.tape hx.output hx.drawn hx.size fun k hk => hx.block k hk (fun _ _ h => by simp [Lo.get] at h)⟩
    have hH : Go.Sort.HoldsK enc sz w b 0 l.toArray := by
      unfold Go.Sort.HoldsK
      rw [flatK_flatE hl h0]
      intro j hj
      simp only [List.size_toArray] at hj
      have : (l.flatMap enc)[j]? = some (l.flatMap enc)[j] := List.getElem?_eq_getElem hj
      constructor
      · simp only [World.cell?, hb, Nat.zero_add, Option.isSome_none, Bool.false_eq_true, if_false, List.getElem?_toArray]
        rw [List.getElem?_append_left hj, this]
        rw [getElem!_pos _ _ (by simpa using hj)]; simp
      · simp [World.frozen?, hb]
    have hS := Go.Proofs.AnyQ.slices_SortFunc_total S sz aE zE enc hl hone cmp swo g #[] b 0 c l.toArray w eg hc hH hbs (by simp; omega) tot
    refine Calls.mono (by simpa using hS) ?_
    rintro en w' ⟨rfl, n, os, hw⟩
    have hw' : w' = Go.Sort.grow (Go.Sort.putRow id (Go.Sort.ahead w n) b 0 ((sortBy cmp l).flatMap enc).toArray) os := by
      rw [hw]; simp only [Go.Proofs.sortWorldK, Go.Sort.putRowK]; rw [flatK_flatE hl h0]; rfl
    have hother : ∀ k, k < w.heap.size → k ≠ b → w'.heap[k]? = w.heap[k]? := by
      intro k hk hne
      rw [hw']
      simp only [Go.Sort.grow, Go.Sort.putRow, Go.Sort.mapBlock, Go.Sort.ahead]
      rw [Array.getElem?_append_left (by simpa using hk), Array.getElem?_modify, if_neg (fun e => hne e.symm)]
    have hfl : ((sortBy cmp l).flatMap enc).length = (l.flatMap enc).length := by rw [flatE_length hl, flatE_length hl, sortBy_length]
    have hrow : w'.heap[b]? = some (.cells ((sortBy cmp l).flatMap enc ++ rest).toArray e (0, 0)) := by
      rw [hw']
      simp only [Go.Sort.grow, Go.Sort.putRow, Go.Sort.mapBlock, Go.Sort.ahead]
      rw [Array.getElem?_append_left (by simpa using hbs), Array.getElem?_modify, if_pos rfl, hb]
      simp only [Option.map_some, Go.Sort.onCells, Option.some.injEq, Obj.cells.injEq, and_true]
      apply Array.ext_getElem?
      intro k
      simp only [Go.Sort.putCells, Array.getElem?_mapIdx, List.getElem?_toArray, Nat.zero_le, true_and, Nat.zero_add, Nat.sub_zero, List.size_toArray, id]
      by_cases hk : k < (l.flatMap enc).length
      · rw [List.getElem?_append_left hk, List.getElem?_append_left (by omega), List.getElem?_eq_getElem hk, List.getElem?_eq_getElem (by omega : k < ((sortBy cmp l).flatMap enc).length)]
        simp only [Option.map_some, if_pos (show k < ((sortBy cmp l).flatMap enc).length by omega)]
        rw [getElem!_pos _ _ (by simp only [List.size_toArray]; omega)]; simp
      · rw [List.getElem?_append_right (by omega), List.getElem?_append_right (by omega), hfl]
        cases rest[k - (l.flatMap enc).length]? with
        | none => rfl
        | some v => simp only [Option.map_some, if_neg hk]
    have hsz : w.heap.size ≤ w'.heap.size := by
      rw [hw']; simp [Go.Sort.grow, Go.Sort.putRow, Go.Sort.mapBlock, Go.Sort.ahead]
    have one : ∀ j x, Lo.get [(5000, some (⟨b, Obj.cells ((sortBy cmp l).flatMap enc ++ rest).toArray e (0, 0), 0⟩ : Ow))] j = some x → x = ⟨b, Obj.cells ((sortBy cmp l).flatMap enc ++ rest).toArray e (0, 0), 0⟩ ∧ 5000 = j := by
      intro j x hx
      rw [Lo.get_cons] at hx
      split at hx
      · rename_i e'; cases hx; exact ⟨rfl, e'⟩
      · simp [Lo.get] at hx
    refine ⟨_, G, [(5000, some ⟨b, .cells ((sortBy cmp l).flatMap enc ++ rest).toArray e (0, 0), 0⟩)], rfl, ⟨by rw [hw']; rfl, by rw [hw']; rfl, by rw [hw']; rfl, by rw [hw']; simp [Go.Sort.grow, Go.Sort.putRow, Go.Sort.mapBlock, Go.Sort.ahead], hsz, ?_, Mem.le_refl _, ?_, fun _ _ _ h => .inl h, ?_, ?_⟩, _, rfl, rfl, ?_⟩
    · intro k hk hn
      exact hother k hk fun e => by subst e; exact hn 5000 _ hget rfl
    · intro k o v hv
      have hc := hi.imm k o v hv
      have hne : k ≠ b := fun e => by subst e; rw [hGb o (Nat.zero_le _)] at hv; cases hv
      have hk : k < w.heap.size := World.block_lt_of_cell? w _ hc
      simp only [World.cell?, hother k hk hne] at hc ⊢
      exact hc
    · intro j x hj
      obtain ⟨rfl, rfl⟩ := one j x hj
      exact ⟨hrow, .inl ⟨_, hget, rfl⟩, hGb⟩
    · intro j k x y hne h1 h2
      exact absurd ((one j x h1).2.symm.trans (one k y h2).2) hne
    · refine ⟨c, (sortBy cmp l).flatMap enc, rest, by rw [sortBy_length], rfl, rfl, (RepL.flatE hr).2 rfl, ?_, h6, by rw [sortBy_length]; exact h7⟩
      rw [List.length_append, hfl, ← List.length_append]; exact h5
end Go.EL
