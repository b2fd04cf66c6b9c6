/- Rows that are lent to a call that only reads them; sorting and reversing a row; the minimal elements. The conditions stand in each statement. -/
import Derived.Test.YtdpmpefjplfgbaaElk
namespace Go.EL
open Go Go.RowKit

section
variable {P : Program} {N : Nat} {Q : Post} {fr : Fr} {w0 : Bs} {G0 G : Mem} {ops : Array Oper} {rest : List Oper}
/-- The row is given away, amid a region. -/
theorem WL.give {L1 : Lo} {id : Nat} {et : TypeId} {ov : Option Row} {l : List M} (hid : L1.get id = none) (h0 : w0.L.get id = none) (hok : RowOk 8 ov l.length (flat l)) (k : ∀ G', Mem.le G G' → SlM G' (rowV ov l.length) l → WL P N ops Q rest fr (St w0 G0 G' L1)) :
    WL P N ops Q rest fr (St w0 G0 G (L1 ++ rowL id et ov)) := by
  intro a w ha hs
  cases ov with
  | none =>
    have hn : l = [] := List.eq_nil_of_length_eq_zero hok.2
    subst hn
    exact k G (Mem.le_refl G) (SlM.nil G) a w ha (by simpa [rowL] using hs)
  | some r =>
    obtain ⟨h1, h2⟩ := hs.freeze (n := l.length * 8) (rowL_get hid) h0 L1 (Lo.sub_left _ _) hid
    exact k _ h2 (SlM.ofRow hok) a w ha h1
end

theorem Lo.get_single {i j : Nat} {x y : Nat × Obj} (h : Lo.get [(i, x)] j = some y) : y = x ∧ j = i := by
  simp only [Lo.get] at h
  cases hij : Nat.beq i j with
  | true => rw [hij] at h; simp only [cond_true, Option.some.injEq] at h; exact ⟨h.symm, (Nat.eq_of_beq_eq_true hij).symm⟩
  | false => rw [hij] at h; cases h
theorem Lo.get_self (i : Nat) (x : Nat × Obj) : Lo.get [(i, x)] i = some x := by simp [Lo.get]

/-- A block that the caller owns is lent to a call that reads it as known memory. -/
theorem Ctr.lend {P : Program} {f : FuncId} {args : Array Value} {pre pre' : Mem → Prop} {post : Value → Prop} {i b n : Nat} {c : Array Value} {e : TypeId} (h : Ctr P f args pre (fun _ r => post r)) (hp : ∀ G, pre' G → pre (Mem.row G b c n)) :
    CtrL P f args [(i, b, .cells c e (0, 0))] pre' (fun _ L r => L = [(i, b, .cells c e (0, 0))] ∧ post r) := by
  intro w G hi hpre
  have hget := Lo.get_self i (b, Obj.cells c e (0, 0))
  have hb := (hi.loc i b _ hget).1
  have hGb := (hi.loc i b _ hget).2
  have hbs : b < w.heap.size := (Array.getElem?_eq_some_iff.1 hb).1
  refine (h w (Mem.row G b c n) ⟨?_, by intro _ _ _ h; simp [Lo.get] at h, by intro _ _ _ _ _ _ _ h; simp [Lo.get] at h⟩ (hp G hpre)).mono ?_
  · intro b' o v hv
    unfold Mem.row at hv
    split at hv
    · rename_i e; subst e
      split at hv
      · rw [cell_of_row w b' o c e (0, 0) hb]; exact hv
      · cases hv
    · exact hi.imm b' o v hv
  · rintro en w' ⟨r, G'', L'', rfl, hx, hpost⟩
    have hbk : w'.heap[b]? = some (.cells c e (0, 0)) := by rw [hx.block b hbs (by intro _ _ h; simp [Lo.get] at h)]; exact hb
    refine ⟨r, fun b' o => if b' = b then none else G'' b' o, _, rfl, ⟨hx.os, hx.tape, hx.output, hx.drawn, hx.size, ?_, ?_, ?_, ?_, ?_, ?_⟩, rfl, hpost⟩
    · intro k hk _
      exact hx.block k hk (by intro _ _ h; simp [Lo.get] at h)
    · intro b' o v hv
      have hne : b' ≠ b := fun e => by subst e; rw [hGb o] at hv; cases hv
      simp only [if_neg hne]
      exact hx.le b' o v (by simp only [Mem.row, if_neg hne]; exact hv)
    · intro b' o v hv
      dsimp only at hv
      split at hv
      · cases hv
      · exact hx.imm b' o v hv
    · intro b' o v hv
      split at hv
      · cases hv
      · rename_i hne
        rcases hx.fresh b' o v hv with h | h
        · simp only [Mem.row, if_neg hne] at h; exact .inl h
        · exact .inr h
    · intro j b' o hj
      obtain ⟨h1, rfl⟩ := Lo.get_single hj
      cases h1
      exact ⟨hbk, .inl ⟨_, hget⟩, fun k => by simp⟩
    · intro j k b₁ o₁ b₂ o₂ hne h1 h2
      exact absurd ((Lo.get_single h1).2.trans (Lo.get_single h2).2.symm) hne

theorem RowOk.cur {r : Row} {l : List M} (h : RowOk 8 (some r) l.length (flat l)) : r.cur = (flat l ++ r.cur.toList.drop (l.length * 8)).toArray := by
  obtain ⟨_, _, _, _, h4⟩ := h
  apply Array.ext'
  simp only []
  rw [← h4, List.take_append_drop]
/-- A row whose elements are turned about. -/
theorem RowOk.turn {r : Row} {l l' : List M} (h : RowOk 8 (some r) l.length (flat l)) (hl : l'.length = l.length) :
    RowOk 8 (some { r with cur := (flat l' ++ r.cur.toList.drop (l.length * 8)).toArray }) l'.length (flat l') := by
  obtain ⟨h0, h1, h2, h3, h4⟩ := h
  have hf := flat_length l'
  have hd : (r.cur.toList.drop (l.length * 8)).length = r.cap * 8 - l.length * 8 := by simp [h3]
  have := flat_length l
  refine ⟨hf, by rw [hl]; exact h1, h2, ?_, ?_⟩
  · simp only [List.size_toArray, List.length_append, hf, hd, hl]; omega
  · simp only []
    rw [List.take_append_of_le_length (by omega), List.take_of_length_le (by omega)]

/-- slices.SortFunc at a row of the caller's own. -/
theorem sortRow {P : Program} {ρ : Go.Shelf.Ren} (S : Go.Proofs.SlLaysF0.n6 P ρ) {f g : Nat} (hf : ρ.f 6 = f) (aE : ∀ w, (isAgg (ρ.t 24)).run P w = .ok true w) (zE : ∀ w, (Go.sizeOf (ρ.t 24)).run P w = .ok 8 w)
    (hg : ∀ x y : M, Ctr P g #[.agg (vecA x), .agg (vecA y)] (fun _ => True) (fun _ r => r = .int .i64 (cmpM x y))) (eg : ∀ args w, (callFunc g args).run P w = .ok (.enter g args) w)
    (i : Nat) (l : List M) (ov : Option Row) (e : TypeId) (hlen : l.length ≤ 1000000) (hok : RowOk 8 ov l.length (flat l)) :
    CtrL P f #[rowV ov l.length, .func (.func g) #[] #[]] (rowL i e ov) (fun _ => True)
      (fun _ L r => ∃ ov', L = rowL i e ov' ∧ rowV ov' l.length = rowV ov l.length ∧ RowOk 8 ov' (sortM l).length (flat (sortM l)) ∧ r = .tuple #[]) := by
  cases ov with
  | none =>
    have hn : l = [] := List.eq_nil_of_length_eq_zero hok.2
    subst hn
    have h0 : sortM [] = [] := List.eq_nil_of_length_eq_zero (by rw [sortM_length]; rfl)
    intro w G hi ht
    refine (sortFunc_none S hf none 0 (.func (.func g) #[] #[]) w G hi ht).mono ?_
    rintro en w' ⟨r, G', L', h1, h2, h3⟩
    refine ⟨r, G', [], h1, { h2 with loc := by intro _ _ _ h; simp [Lo.get] at h, dist := by intro _ _ _ _ _ _ _ h; simp [Lo.get] at h }, none, rfl, rfl, by rw [h0]; exact ⟨rfl, rfl⟩, h3⟩
  | some r =>
    have := sortFunc S hf aE zE hg eg i r.b r.cap l (r.cur.toList.drop (l.length * 8)) e hlen
    rw [← hok.cur] at this
    refine this.mono (fun _ h => h) ?_
    rintro G L v ⟨rfl, rfl⟩
    exact ⟨some { r with cur := (flat (sortM l) ++ r.cur.toList.drop (l.length * 8)).toArray }, rfl, rfl, hok.turn (sortM_length l), rfl⟩

/-- slices.Reverse at a row of the caller's own. -/
theorem revRow {P : Program} {f : Nat} {e : TypeId} (hr : ∀ (b cap : Nat) (l : List M) (rest : List Value), 0 < l.length → l.length ≤ 1000000 → CtrL P f #[.slice (some ⟨b, 0, none⟩) l.length cap] [(1, b, .cells (flat l ++ rest).toArray e (0, 0))] (fun _ => True) (fun _ L r => L = [(1, b, .cells (flat l.reverse ++ rest).toArray e (0, 0))] ∧ r = .tuple #[]))
    (h0 : Ctr P f #[.slice none 0 0] (fun _ => True) (fun _ r => r = .tuple #[])) (l : List M) (ov : Option Row) (hne : ov = none ∨ 0 < l.length) (hlen : l.length ≤ 1000000) (hok : RowOk 8 ov l.length (flat l)) :
    CtrL P f #[rowV ov l.length] (rowL 1 e ov) (fun _ => True) (fun _ L r => ∃ ov', L = rowL 1 e ov' ∧ rowV ov' l.length = rowV ov l.length ∧ RowOk 8 ov' l.reverse.length (flat l.reverse) ∧ r = .tuple #[]) := by
  cases ov with
  | none =>
    have hn : l = [] := List.eq_nil_of_length_eq_zero hok.2
    subst hn
    intro w G hi ht
    refine (h0 w G hi ht).mono ?_
    rintro en w' ⟨r, G', L', h1, h2, h3⟩
    exact ⟨r, G', [], h1, { h2 with loc := by intro _ _ _ h; simp [Lo.get] at h, dist := by intro _ _ _ _ _ _ _ h; simp [Lo.get] at h }, none, rfl, rfl, ⟨rfl, rfl⟩, h3⟩
  | some r =>
    have := hr r.b r.cap l (r.cur.toList.drop (l.length * 8)) (hne.resolve_left (by simp)) hlen
    rw [← hok.cur] at this
    refine this.mono (fun _ h => h) ?_
    rintro G L v ⟨rfl, rfl⟩
    exact ⟨some { r with cur := (flat l.reverse ++ r.cur.toList.drop (l.length * 8)).toArray }, rfl, rfl, hok.turn (List.length_reverse), rfl⟩

/-! ### The minimal elements -/
def minStep (acc : List M) (m : M) : List M := if inM m acc then acc else acc ++ [m]
def minAcc (l : List M) : List M := l.foldl minStep []
theorem minAcc_next {l : List M} {x : Nat} (h : x < l.length) : minAcc (l.take (x + 1)) = minStep (minAcc (l.take x)) l[x] := by
  unfold minAcc
  rw [List.take_succ_eq_append_getElem h, List.foldl_append]
  rfl
theorem minAcc_yes {l acc : List M} {x : Nat} (h : x < l.length) (ha : acc = minAcc (l.take x)) (hi : inM l[x] acc = true) : acc = minAcc (l.take (x + 1)) := by
  rw [minAcc_next h, ← ha, minStep, if_pos hi]
theorem minAcc_no {l acc : List M} {x : Nat} (h : x < l.length) (ha : acc = minAcc (l.take x)) (hi : inM l[x] acc = false) : acc ++ [l[x]] = minAcc (l.take (x + 1)) := by
  rw [minAcc_next h, ← ha, minStep, if_neg (by rw [hi]; simp)]
def minimalM (l : List M) : List M := (minAcc (sortM l)).reverse
theorem not_dec (b : Bool) : (!b) = decide (b = false) := by cases b <;> rfl

/-! ### All monomials of a degree -/
/-- The exponents from e down, c of them. -/
def downFrom (e : Nat) : Nat → List Nat
  | 0 => []
  | c + 1 => e :: downFrom (e - 1) c
/-- k variables from i on are still to be filled, with the degree left. -/
def fillL : (k i left : Nat) → M → List M
  | 0, _, left, m => if left = 0 then [m] else []
  | k + 1, i, left, m => (downFrom left (if k = 0 then 1 else left + 1)).flatMap fun e => fillL k (i + 1) (left - e) (upd m i (e : Int))
def allM (n d : Nat) : List M := fillL n 0 d zeroM
theorem downFrom_succ : ∀ (c e : Nat), downFrom e (c + 1) = downFrom e c ++ [e - c]
  | 0, e => by simp [downFrom]
  | c + 1, e => by
    rw [show downFrom e (c + 1 + 1) = e :: downFrom (e - 1) (c + 1) from rfl, downFrom_succ c (e - 1)]
    simp only [downFrom, List.cons_append, List.cons.injEq, true_and]
    congr 2
    omega
theorem downFrom_length : ∀ (c e : Nat), (downFrom e c).length = c
  | 0, _ => rfl
  | c + 1, e => by simp [downFrom, downFrom_length c (e - 1)]
theorem downFrom_mem : ∀ (c e x : Nat), x ∈ downFrom e c → x ≤ e
  | 0, _, _, h => by simp [downFrom] at h
  | c + 1, e, x, h => by
    simp only [downFrom, List.mem_cons] at h
    rcases h with h | h
    · omega
    · have := downFrom_mem c (e - 1) x h; omega
theorem flatMap_length_le {α β : Type} (f : α → List β) (B : Nat) : ∀ (l : List α), (∀ e ∈ l, (f e).length ≤ B) → (l.flatMap f).length ≤ l.length * B
  | [], _ => by simp
  | a :: l, h => by
    have h1 := h a (by simp)
    have h2 := flatMap_length_le f B l (fun e he => h e (by simp [he]))
    simp only [List.flatMap_cons, List.length_append, List.length_cons, Nat.add_mul, Nat.one_mul]
    omega
theorem fillL_length : ∀ (k i left : Nat) (m : M), left ≤ 12 → (fillL k i left m).length ≤ 13 ^ k
  | 0, i, left, m, _ => by simp only [fillL]; split <;> simp
  | k + 1, i, left, m, h => by
    simp only [fillL]
    refine Nat.le_trans (flatMap_length_le _ (13 ^ k) _ (fun e he => ?_)) ?_
    · exact fillL_length k _ _ _ (by omega)
    · rw [downFrom_length, Nat.pow_succ, Nat.mul_comm]
      exact Nat.mul_le_mul_left _ (by split <;> omega)
theorem allM_length {n d : Nat} (hn : n ≤ 8) (hd : d ≤ 12) : (allM n d).length ≤ 1000000000 := by
  refine Nat.le_trans (fillL_length n 0 d zeroM hd) ?_
  refine Nat.le_trans (Nat.pow_le_pow_right (by omega) hn) (by decide)
/-- What the first c rounds list. -/
def doneL (k i left : Nat) (m : M) (c : Nat) : List M := (downFrom left c).flatMap fun e => fillL k (i + 1) (left - e) (upd m i (e : Int))
theorem doneL_zero (k i left : Nat) (m : M) : doneL k i left m 0 = [] := rfl
theorem doneL_succ (k i left : Nat) (m : M) {c : Nat} (h : c ≤ left) : doneL k i left m (c + 1) = doneL k i left m c ++ fillL k (i + 1) c (upd m i ((left - c : Nat) : Int)) := by
  simp only [doneL, downFrom_succ, List.flatMap_append, List.flatMap_cons, List.flatMap_nil, List.append_nil]
  rw [show left - (left - c) = c by omega]
theorem doneL_mono (k i left : Nat) (m : M) {c d : Nat} (h : c ≤ d) : (doneL k i left m c).length ≤ (doneL k i left m d).length := by
  induction d with
  | zero => have : c = 0 := by omega
            subst this; exact Nat.le_refl _
  | succ d ih =>
    by_cases hc : c = d + 1
    · subst hc; exact Nat.le_refl _
    · refine Nat.le_trans (ih (by omega)) ?_
      simp only [doneL, downFrom_succ, List.flatMap_append, List.length_append]
      omega
theorem fillL_succ (k i left : Nat) (m : M) : fillL (k + 1) i left m = doneL k i left m (if k = 0 then 1 else left + 1) := rfl
theorem upd_upd (m : M) (i : Nat) (a b : Int) : upd (upd m i a) i b = upd m i b := by
  funext j; simp only [upd]; split <;> rfl
theorem upd_back (m : M) {i : Nat} (h : ∀ j : Fin 8, i ≤ j.val → m j = 0) : upd m i 0 = m := by
  funext j; simp only [upd]
  split
  · rename_i e; exact (h j (by omega)).symm
  · rfl
theorem upd_tail (m : M) {i : Nat} (a : Int) (h : ∀ j : Fin 8, i ≤ j.val → m j = 0) : ∀ j : Fin 8, i + 1 ≤ j.val → upd m i a j = 0 := by
  intro j hj
  simp only [upd]
  rw [if_neg (by omega)]
  exact h j (by omega)
end Go.EL
