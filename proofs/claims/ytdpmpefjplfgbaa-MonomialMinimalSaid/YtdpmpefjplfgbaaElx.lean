/- More arguments opened: two integers, a slice of descriptions. The conditions stand in each statement. -/
import Derived.Test.YtdpmpefjplfgbaaElw
import Derived.Deep.Slices
namespace Go.EL
open Go Go.RowKit Go.Proofs Go.ChangeShapes Go.WideShapes Go.ChangeAt

theorem open_arrN {P : Program} {t e : TypeId} {k : IntKind} {n : Nat} {W : World} {H : Type} {enc : TypeId × Value → H} {b : Nat} {sp : Nat → Bool} {held : Bool} {fuel : Nat} {cs : List Value} {x : DataW H × List MemPlace}
    (ht : P.underlying t = some (.array n e)) (he : P.underlying e = some (.int k)) (hce : P.cellsOf e = 1) (h : DataW.trod enc P W b sp held fuel t cs = some x) :
    cs.length = P.cellsOf t ∧ ∀ i, i < n → ∃ z, cs[i]? = some (.int k z) ∧ (Lit.int k z).wf = true := by
  obtain ⟨xs, m, _, _, hl, hxl, hx⟩ := DataW.trod_array ht h
  refine ⟨hl, fun i hi => ?_⟩
  have h1 := hx i hi
  rw [List.getElem?_eq_getElem (by omega), hce] at h1
  obtain ⟨z, h2, _, h3⟩ := DataW.trod_int he h1
  refine ⟨z, ?_, h3⟩
  have h5 : ((cs.drop (i * 1)).take 1)[0]? = some (.int k z) := by rw [h2]; rfl
  rw [List.getElem?_take, if_pos (by decide), List.getElem?_drop] at h5
  simpa using h5
theorem open_arr2 {P : Program} {t e : TypeId} {k : IntKind} {W : World} {base : Nat} {v : Value} {H : Type} {enc : TypeId × Value → H} {b : Nat} {sp : Nat → Bool} {held : Bool} {d : DataW H} {ps : List MemPlace}
    (ht : P.underlying t = some (.array 2 e)) (he : P.underlying e = some (.int k)) (hc : P.cellsOf t = 2) (hce : P.cellsOf e = 1) (hok : Value.okWide P W .any base t v) (h : DataW.Trod enc P W b sp held t v d ps) :
    ∃ x y, v = .agg #[.int k x, .int k y] ∧ (Lit.int k x).wf = true ∧ (Lit.int k y).wf = true := by
  obtain ⟨cs, rfl, hsz, _⟩ : ∃ cs, v = .agg cs ∧ cs.size = P.cellsOf t ∧ Row.okWide P W .any base t cs := by simpa [Value.okWide, ht] using hok
  obtain ⟨fuel, hf⟩ := h
  obtain ⟨_, hx⟩ := open_arrN ht he hce hf
  obtain ⟨x, h1, w1⟩ := hx 0 (by decide)
  obtain ⟨y, h2, w2⟩ := hx 1 (by decide)
  refine ⟨x, y, ?_, w1, w2⟩
  congr 1
  rw [hc] at hsz
  have h1' : cs[0]? = some (.int k x) := by simpa [Value.cells] using h1
  have h2' : cs[1]? = some (.int k y) := by simpa [Value.cells] using h2
  apply Array.ext_getElem?
  intro j
  match j with
  | 0 => rw [h1']; rfl
  | 1 => rw [h2']; rfl
  | j + 2 => rw [Array.getElem?_eq_none (by omega), Array.getElem?_eq_none (by simp)]

/-- All that lies in memory. -/
def allMem (W : World) : Mem := fun b o => W.cell? ⟨b, o, none⟩
theorem imm_all (W : World) : Imm (allMem W) W := by intro _ _ _ h; exact h
theorem addr_add (a : Addr) (n : Nat) (h : a.spot = none) : a.add n = ⟨a.block, a.off + n, none⟩ := by
  unfold Addr.add
  split
  · rename_i h0; subst h0; cases a; simp_all
  · rfl
theorem open_raws {P : Program} {t r e : TypeId} {W : World} {base : Nat} {v : Value} {H : Type} {enc : TypeId × Value → H} {b : Nat} {sp : Nat → Bool} {held : Bool} {d : DataW H} {ps : List MemPlace}
    (ht : P.underlying t = some (.slice r)) (hr : P.underlying r = some (.array 8 e)) (he : P.underlying e = some (.int .u16)) (hc : P.cellsOf r = 8) (hce : P.cellsOf e = 1) (hok : Value.okWide P W .any base t v) (h : DataW.Trod enc P W b sp held t v d ps) :
    ∃ l : List M, SlU (allMem W) v l ∧ ∀ m ∈ l, Ok m := by
  obtain ⟨p, len, cap, rfl⟩ := okWide_slice ht hok
  obtain ⟨fuel, hf⟩ := h
  have hcs : (Value.slice p len cap).cells.toList = [.slice p len cap] := rfl
  rw [hcs] at hf
  rcases Go.Deep.open_slice ht hf with ⟨h0, _⟩ | ⟨a, len', cap', m, n, D, Pl, h0, _, hl, hcap, hm, _, hx⟩
  · cases h0
    exact ⟨[], ⟨none, 0, 0, 0, rfl, by simp, fun h => by simp at h, fun i h => by simp at h⟩, by simp⟩
  · cases h0
    have hml : len ≤ m := by rw [hm]; split <;> omega
    have hel : ∀ i, i < len → ∃ f : M, Ok f ∧ ∀ j : Fin 8, W.cell? ((a.add (i * 8)).add j.val) = some (.int .u16 (f j)) := by
      intro i hi
      obtain ⟨cs', h1, h2⟩ := hx i (by omega)
      rw [hc] at h1
      obtain ⟨_, hlen, hcell⟩ := World.cells?_some h1
      obtain ⟨_, hint⟩ := open_arrN hr he hce h2
      have hch := fun j : Fin 8 => (hint j.val j.isLt).choose_spec
      refine ⟨fun j => (hint j.val j.isLt).choose, fun j => wf_u16 (hch j).2, fun j => ?_⟩
      rw [hcell j.val j.isLt]
      exact (hch j).1
    have hspot : 0 < len → a.spot = none := fun h => by
      obtain ⟨f, _, hf⟩ := hel 0 h
      have h1 := hf 0
      have : (a.add (0 * 8)).add (0 : Fin 8).val = a := by simp [Addr.add]
      rw [this] at h1
      cases hs : a.spot with
      | none => rfl
      | some s =>
        exfalso
        simp only [World.cell?, hs] at h1
        split at h1
        · simp at h1
        · cases h1
    refine ⟨(List.range len).map fun i => if h : i < len then (hel i h).choose else zeroM, ?_, ?_⟩
    · refine ⟨some a, cap, a.block, a.off, by simp, by simp only [maxLen] at hcap; simp; omega, fun h => ?_, fun i h j => ?_⟩
      · have hs := hspot (by simpa using h)
        cases a; simp_all
      · have hi : i < len := by simpa using h
        have hs := hspot (by omega)
        have h1 := (hel i hi).choose_spec.2 j
        have e1 : (a.add (i * 8)).add j.val = ⟨a.block, a.off + i * 8 + j.val, none⟩ := by rw [addr_add a _ hs, addr_add _ _ rfl]
        simp only [List.getElem_map, List.getElem_range, dif_pos hi, allMem]
        exact (congrArg W.cell? e1).symm.trans h1
    · intro m hm
      simp only [List.mem_map, List.mem_range] at hm
      obtain ⟨i, hi, rfl⟩ := hm
      rw [dif_pos hi]
      exact (hel i hi).choose_spec.1
end Go.EL
