/- Rules for memory, calls, entries and returns. No condition. -/
import Derived.Test.YtbdknlblnfnkkaaElf
namespace Go.EL
open Go Go.RowKit Go.Proofs

section
variable {w0 : Bs} {G0 G : Mem} {L : Lo} {w w' : World}

theorem St.upd {i m' : Nat} {x : Ow} {o' : Obj} (h : St w0 G0 G L w) (hi : L.get i = some x) (hb : w'.heap[x.b]? = some o') (hm : x.m ≤ m') (hk : ∀ k v, k < x.m → G x.b k = some v → w'.cell? ⟨x.b, k, none⟩ = some v) (ho : ∀ k, k ≠ x.b → w'.heap[k]? = w.heap[k]?)
    (h1 : w'.os = w.os) (h2 : w'.tape = w.tape) (h3 : w'.output = w.output) (h5 : w'.drawn = w.drawn) (h4 : w'.heap.size = w.heap.size) : St w0 G0 G ((i, some ⟨x.b, o', m'⟩) :: L) w' := by
  obtain ⟨l1, l2, l3⟩ := h.loc i x hi
  refine ⟨h1.trans h.os, h2.trans h.tape, h3.trans h.output, by rw [h5]; exact h.drawn, by have := h.size; omega, fun k hk' hn => ?_, h.base, fun b' o'' v hv => ?_, h.fresh, fun j y hj => ?_, fun j k y z hne e1 e2 => ?_⟩
  · rw [ho k (fun e => ?_)]
    · exact h.block k hk' hn
    · subst e
      rcases l2 with ⟨y, l2, hy⟩ | l2
      · exact hn i y l2 hy
      · omega
  · by_cases hne : b' = x.b
    · subst hne
      refine hk o'' v ?_ hv
      rcases Nat.lt_or_ge o'' x.m with hlt | hge
      · exact hlt
      · rw [l3 o'' hge] at hv; cases hv
    · rw [World.cell?_of_block (w := w) (a := ⟨b', o'', none⟩) (ho b' hne)]
      exact h.imm b' o'' v hv
  · rw [Lo.get_cons] at hj
    split at hj
    · rename_i hij
      subst hij
      simp only [Option.some.injEq] at hj
      subst hj
      exact ⟨hb, l2, fun k hk' => l3 k (Nat.le_trans hm hk')⟩
    · rename_i hij
      obtain ⟨m1, m2, m3⟩ := h.loc j y hj
      exact ⟨by rw [ho y.b (fun e => h.dist i j x y hij hi hj e.symm)]; exact m1, m2, m3⟩
  · rw [Lo.get_cons] at e1 e2
    split at e1 <;> split at e2
    · omega
    · rename_i hij hik
      simp only [Option.some.injEq] at e1
      subst e1
      exact h.dist i k x z hik hi e2
    · rename_i hij hik
      simp only [Option.some.injEq] at e2
      subst e2
      exact h.dist j i y x (fun e => hij e.symm) e1 hi
    · exact h.dist j k _ _ hne e1 e2

theorem St.push (i : Nat) (o : Obj) (h : St w0 G0 G L w) : St w0 G0 G ((i, some ⟨w.heap.size, o, 0⟩) :: L) (w.alloc o) := by
  have hs := h.size
  have lt : ∀ j y, L.get j = some y → y.b < w.heap.size := fun j y hj => (Array.getElem?_eq_some_iff.1 (h.loc j y hj).1).1
  refine ⟨h.os, h.tape, h.output, h.drawn, by simp; omega, fun k hk hn => ?_, h.base, fun b' o'' v hv => ?_, h.fresh, fun j y hj => ?_, fun j k y z hne e1 e2 => ?_⟩
  · rw [Below.heap_alloc w o k (by omega)]
    exact h.block k hk hn
  · have := h.imm.lt hv
    rw [World.cell?_alloc_lt (w := w) (o := o) (a := ⟨b', o'', none⟩) this]
    exact h.imm b' o'' v hv
  · rw [Lo.get_cons] at hj
    split at hj
    · simp only [Option.some.injEq] at hj
      subst hj
      refine ⟨heap_alloc_new w o, .inr hs, fun k _ => ?_⟩
      cases hk : G w.heap.size k with
      | none => rfl
      | some v => have := h.imm.lt hk; omega
    · obtain ⟨m1, m2, m3⟩ := h.loc j y hj
      exact ⟨by rw [Below.heap_alloc w o y.b (lt j y hj)]; exact m1, m2, m3⟩
  · rw [Lo.get_cons] at e1 e2
    split at e1 <;> split at e2
    · omega
    · simp only [Option.some.injEq] at e1
      subst e1
      have := lt _ _ e2
      dsimp only; omega
    · simp only [Option.some.injEq] at e2
      subst e2
      have := lt _ _ e1
      dsimp only; omega
    · exact h.dist j k _ _ hne e1 e2

/-- Cells from m to n of a block of the call's own become known for good. -/
def Mem.row (G : Mem) (b : Nat) (c : Array Value) (m n : Nat) : Mem := fun b' o => if b' = b ∧ m ≤ o ∧ o < n then c[o]? else G b' o
theorem Mem.le_row {b m : Nat} {c : Array Value} {n : Nat} (h : ∀ k, m ≤ k → G b k = none) : Mem.le G (Mem.row G b c m n) := fun b' o v hv => by
  unfold Mem.row
  rw [if_neg (fun e => by obtain ⟨e1, e2, _⟩ := e; subst e1; rw [h _ e2] at hv; cases hv)]
  exact hv
theorem Mem.row_at {b o m : Nat} {c : Array Value} {n : Nat} (h0 : m ≤ o) (h : o < n) : Mem.row G b c m n b o = c[o]? := by simp [Mem.row, h0, h]

/-- Cells of a block that is the call's own, not a lent one, may be made known; the cells behind them stay the call's own. -/
theorem St.know {i b m n : Nat} {c : Array Value} {t : TypeId} (h : St w0 G0 G L w) (hi : L.get i = some ⟨b, .cells c t (0, 0), m⟩) (h0 : w0.L.get i = none) (hmn : m ≤ n) :
    St w0 G0 (Mem.row G b c m n) ((i, some ⟨b, .cells c t (0, 0), n⟩) :: L) w ∧ Mem.le G (Mem.row G b c m n) := by
  obtain ⟨l1, l2, l3⟩ := h.loc i _ hi
  have hle := Mem.le_row (c := c) (n := n) l3
  have l2' : w0.w.heap.size ≤ b := l2.resolve_left (fun ⟨y, e, _⟩ => by rw [h0] at e; cases e)
  refine ⟨⟨h.os, h.tape, h.output, h.drawn, h.size, h.block, Mem.le_trans h.base hle, fun b' o v hv => ?_, fun b' o v hv => ?_, fun j y hj => ?_, fun j k y z hne e1 e2 => ?_⟩, hle⟩
  · unfold Mem.row at hv
    split at hv
    · rename_i e
      obtain ⟨e1, _, _⟩ := e
      subst e1
      rw [cell_of_row w b' o c t (0, 0) l1]; exact hv
    · exact h.imm b' o v hv
  · unfold Mem.row at hv
    split at hv
    · rename_i e
      obtain ⟨e1, _, _⟩ := e
      subst e1
      exact .inr (.inl l2')
    · exact h.fresh b' o v hv
  · rw [Lo.get_cons] at hj
    split at hj
    · rename_i hij
      subst hij
      simp only [Option.some.injEq] at hj
      subst hj
      refine ⟨l1, l2, fun k hk => ?_⟩
      unfold Mem.row
      rw [if_neg (by dsimp only at hk ⊢; omega)]
      exact l3 k (Nat.le_trans hmn hk)
    · rename_i hij
      obtain ⟨m1, m2, m3⟩ := h.loc j y hj
      refine ⟨m1, m2, fun k hk => ?_⟩
      have hb : y.b ≠ b := fun e => h.dist i j _ y hij hi hj e.symm
      unfold Mem.row
      rw [if_neg (fun e => hb e.1)]
      exact m3 k hk
  · rw [Lo.get_cons] at e1 e2
    split at e1 <;> split at e2
    · omega
    · rename_i hij hik
      simp only [Option.some.injEq] at e1
      subst e1
      exact h.dist i k ⟨b, .cells c t (0, 0), m⟩ z hik hi e2
    · rename_i hij hik
      simp only [Option.some.injEq] at e2
      subst e2
      exact h.dist j i y ⟨b, .cells c t (0, 0), m⟩ (fun e => hij e.symm) e1 hi
    · exact h.dist j k _ _ hne e1 e2
/-- A block of the call's own takes another name. -/
theorem St.rekey {i j : Nat} {x : Option Ow} (h : St w0 G0 G L w) (hi : L.get i = x) (h0 : w0.L.get i = none) : St w0 G0 G ((j, x) :: (i, none) :: L) w := by
  have key : ∀ k y, Lo.get ((j, x) :: (i, none) :: L) k = some y → (k = j ∧ L.get i = some y) ∨ (k ≠ j ∧ k ≠ i ∧ L.get k = some y) := by
    intro k y hk
    rw [Lo.get_cons] at hk
    split at hk
    · rename_i e; exact .inl ⟨e.symm, by rw [hi]; exact hk⟩
    · rename_i e
      rw [Lo.get_cons] at hk
      split at hk
      · cases hk
      · rename_i e'; exact .inr ⟨fun q => e q.symm, fun q => e' q.symm, hk⟩
  refine ⟨h.os, h.tape, h.output, h.drawn, h.size, h.block, h.base, h.imm, h.fresh, fun k y hk => ?_, fun k l y z hne e1 e2 => ?_⟩
  · rcases key k y hk with ⟨rfl, hy⟩ | ⟨_, _, hy⟩
    · obtain ⟨m1, m2, m3⟩ := h.loc i y hy
      exact ⟨m1, .inr (m2.resolve_left (fun ⟨y, e, _⟩ => by rw [h0] at e; cases e)), m3⟩
    · exact h.loc k y hy
  · rcases key k y e1 with ⟨rfl, hy⟩ | ⟨k1, k2, hy⟩ <;> rcases key l z e2 with ⟨rfl, hz⟩ | ⟨l1, l2, hz⟩
    · omega
    · exact h.dist i l y z (fun e => l2 e.symm) hy hz
    · exact h.dist k i y z k2 hy hz
    · exact h.dist k l y z hne hy hz
end

section
variable {P : Program} {N : Nat} {Q : Post} {fr : Fr} {S : Asrt} {ops : Array Oper} {l : List Oper} {dst : Option Nat} {ty : TypeId} {pos : String} {af : Array Edge} {g : Option (Nat × Bool)}
variable {w0 : Bs} {G0 G : Mem} {L : Lo}

theorem run_loadVar_scal {t : TypeId} {a : Addr} {v : Value} {w : World} (ht : ScalT P t) (hc : w.cell? a = some v) : (loadVar t a).run P w = .ok v w := by
  simp [loadVar, ht.run, load, Sem.run, hc]
theorem run_loadVar_list {t : TypeId} {b off n : Nat} {vs : List Value} {w : World} (ht : AggT P t n) (hl : vs.length = n) (hc : ∀ j v, vs[j]? = some v → w.cell? ⟨b, off + j, none⟩ = some v) :
    (loadVar t ⟨b, off, none⟩).run P w = .ok (.agg vs.toArray) w := by
  have := run_loadCells_list (P := P) w ⟨b, off, none⟩ vs (fun j v hv => by rw [add_none]; exact hc j v hv)
  subst hl
  simp [loadVar, ht.run, run_sizeOf ht.2, this]

/-- A load of one cell of a block of the call's own. -/
theorem Y0.loadL {t t' : TypeId} {x : Operand} {b off m : Nat} {c : Array Value} {v : Value} (i : Nat) (ht : ScalT P t) (hx : fr.ev x = some (.pointer (some ⟨b, off, none⟩)))
    (hi : L.get i = some ⟨b, .cells c t' (0, 0), m⟩) (hv : c[off]? = some v) : Y0 P N ⟨dst, .load t x, ty, pos, af, g⟩ fr (St w0 G0 G L) v := fun a w ha hs => by
  have hc := cell_of_row w b off c t' (0, 0) (hs.loc i _ hi).1
  rw [hv] at hc
  simp [execOp, ha.ev hx, Instr.loadAt, Instr.sureAddr, run_loadVar_scal ht hc]
/-- A load of a whole block of the call's own. -/
theorem Y0.loadLA {t t' : TypeId} {x : Operand} {b n m : Nat} {c : Array Value} (i : Nat) (ht : AggT P t n) (hx : fr.ev x = some (.pointer (some ⟨b, 0, none⟩)))
    (hi : L.get i = some ⟨b, .cells c t' (0, 0), m⟩) (hn : c.size = n) : Y0 P N ⟨dst, .load t x, ty, pos, af, g⟩ fr (St w0 G0 G L) (.agg c) := fun a w ha hs => by
  have hc := run_loadVar_list (P := P) (w := w) (b := b) (off := 0) (vs := c.toList) ht (by simpa using hn) (fun j v hj => by
    rw [cell_of_row w b (0 + j) c t' (0, 0) (hs.loc i _ hi).1]
    simpa using hj)
  simp [execOp, ha.ev hx, Instr.loadAt, Instr.sureAddr, hc]
/-- A load of some cells of a block of the call's own. -/
theorem Y0.loadLP {t t' : TypeId} {x : Operand} {b off n m : Nat} {c : Array Value} (vs : Array Value) (i : Nat) (ht : AggT P t n) (hx : fr.ev x = some (.pointer (some ⟨b, off, none⟩)))
    (hi : L.get i = some ⟨b, .cells c t' (0, 0), m⟩) (hn : vs.size = n) (hv : ∀ j v, vs[j]? = some v → c[off + j]? = some v) : Y0 P N ⟨dst, .load t x, ty, pos, af, g⟩ fr (St w0 G0 G L) (.agg vs) := fun a w ha hs => by
  have hc := run_loadVar_list (P := P) (w := w) (b := b) (off := off) (vs := vs.toList) ht (by simpa using hn) (fun j v hj => by
    rw [cell_of_row w b (off + j) c t' (0, 0) (hs.loc i _ hi).1]
    exact hv j v (by simpa using hj))
  simp [execOp, ha.ev hx, Instr.loadAt, Instr.sureAddr, hc]
/-- A load of a known cell. -/
theorem Y0.loadG {t : TypeId} {x : Operand} {b off : Nat} {v : Value} (ht : ScalT P t) (hx : fr.ev x = some (.pointer (some ⟨b, off, none⟩)))
    (hv : G b off = some v) : Y0 P N ⟨dst, .load t x, ty, pos, af, g⟩ fr (St w0 G0 G L) v := fun a w ha hs => by
  have hc := hs.imm b off v hv
  simp [execOp, ha.ev hx, Instr.loadAt, Instr.sureAddr, run_loadVar_scal ht hc]
theorem Y0.loadGA {t : TypeId} {x : Operand} {b off n : Nat} (vs : Array Value) (ht : AggT P t n) (hx : fr.ev x = some (.pointer (some ⟨b, off, none⟩)))
    (hn : vs.size = n) (hv : ∀ j v, vs[j]? = some v → G b (off + j) = some v) : Y0 P N ⟨dst, .load t x, ty, pos, af, g⟩ fr (St w0 G0 G L) (.agg vs) := fun a w ha hs => by
  have hc := run_loadVar_list (P := P) (w := w) (b := b) (off := off) (vs := vs.toList) ht (by simpa using hn) (fun j v hj => hs.imm _ _ _ (hv j v (by simpa using hj)))
  simp [execOp, ha.ev hx, Instr.loadAt, Instr.sureAddr, hc]

theorem run_alloc {t : TypeId} {z : Value} (hz : (P.info? t).map (·.zero) = some (some z)) (a : Act) (w : World) : (execOp a.eval ⟨dst, .alloc t, ty, pos, af, g⟩).run P w = .ok (.value (.pointer (some ⟨w.heap.size, 0, none⟩))) (w.alloc (.cells z.cells t)) := by
  cases hq : P.info? t with
  | none => simp [hq] at hz
  | some inf =>
    simp only [hq, Option.map_some, Option.some.injEq] at hz
    simp [execOp, Instr.alloc, zeroValue, typeInfo, hq, hz, newVar, newRow]
/-- A new variable with the zero value. -/
theorem WL.alloc {t : TypeId} {z : Value} (i : Nat) (hg : guardOK ops fr ⟨dst, .alloc t, ty, pos, af, g⟩ true) (hz : (P.info? t).map (·.zero) = some (some z)) (hd : dstOK N dst)
    (k : ∀ b, WL P N ops Q l (putFr dst (.pointer (some ⟨b, 0, none⟩)) fr) (St w0 G0 G ((i, some ⟨b, .cells z.cells t (0, 0), 0⟩) :: L))) : WL P N ops Q (⟨dst, .alloc t, ty, pos, af, g⟩ :: l) fr (St w0 G0 G L) := by
  refine WL.yr (Φ := fun v w => ∃ b, v = .pointer (some ⟨b, 0, none⟩) ∧ St w0 G0 G ((i, some ⟨b, .cells z.cells t (0, 0), 0⟩) :: L) w) hg (fun a w ha hs => ?_) hd (fun v a w ha ⟨b, hb, hs⟩ => ?_)
  · cases hq : P.info? t with
    | none => simp [hq] at hz
    | some inf =>
      simp only [hq, Option.map_some, Option.some.injEq] at hz
      have : (execOp a.eval ⟨dst, .alloc t, ty, pos, af, g⟩).run P w = .ok (.value (.pointer (some ⟨w.heap.size, 0, none⟩))) (w.alloc (.cells z.cells t)) := by
        simp [execOp, Instr.alloc, zeroValue, typeInfo, hq, hz, newVar, newRow]
      rw [this]
      exact ⟨_, rfl, hs.push i _⟩
  · subst hb
    exact k b a w ha hs
/-- A new variable with a value. -/
theorem WL.box {t : TypeId} {x : Operand} {v : Value} (i : Nat) (hg : guardOK ops fr ⟨dst, .box t x, ty, pos, af, g⟩ true) (hx : fr.ev x = some v) (hd : dstOK N dst)
    (k : ∀ b, WL P N ops Q l (putFr dst (.pointer (some ⟨b, 0, none⟩)) fr) (St w0 G0 G ((i, some ⟨b, .cells v.cells t (0, 0), 0⟩) :: L))) : WL P N ops Q (⟨dst, .box t x, ty, pos, af, g⟩ :: l) fr (St w0 G0 G L) := by
  refine WL.yr (Φ := fun v' w => ∃ b, v' = .pointer (some ⟨b, 0, none⟩) ∧ St w0 G0 G ((i, some ⟨b, .cells v.cells t (0, 0), 0⟩) :: L) w) hg (fun a w ha hs => ?_) hd (fun v a w ha ⟨b, hb, hs⟩ => ?_)
  · have : (execOp a.eval ⟨dst, .box t x, ty, pos, af, g⟩).run P w = .ok (.value (.pointer (some ⟨w.heap.size, 0, none⟩))) (w.alloc (.cells v.cells t)) := by
      simp [execOp, Instr.box, ha.ev hx, newVar, newRow]
    rw [this]
    exact ⟨_, rfl, hs.push i _⟩
  · subst hb
    exact k b a w ha hs

theorem setCell_heap {w : World} {b off : Nat} {c : Array Value} {t : TypeId} {v : Value} (h : w.heap[b]? = some (.cells c t (0, 0))) : (w.setCell ⟨b, off, none⟩ v).heap[b]? = some (.cells (c.setIfInBounds off v) t (0, 0)) := heap_setCell_same w b off c t v h

/-- A store of one cell into a block of the call's own. -/
theorem WL.storeL {t t' : TypeId} {x y : Operand} {b off : Nat} {c : Array Value} {v : Value} (i : Nat) (c' : Array Value) (hg : guardOK ops fr ⟨none, .store t x y, ty, pos, af, g⟩ true) (ht : (P.info? t).map (·.size) = some 1)
    (hx : fr.ev x = some (.pointer (some ⟨b, off, none⟩))) (hy : fr.ev y = some v) (hi : L.get i = some ⟨b, .cells c t' (0, 0), 0⟩) (ho : off < c.size) (h1 : v.oneCell' = true) (hc' : c.setIfInBounds off v = c')
    (k : WL P N ops Q l fr (St w0 G0 G ((i, some ⟨b, .cells c' t' (0, 0), 0⟩) :: L))) : WL P N ops Q (⟨none, .store t x y, ty, pos, af, g⟩ :: l) fr (St w0 G0 G L) := by
  subst hc'
  refine WL.ys' hg (fun a w ha hs => ?_) k
  have hb := (hs.loc i _ hi).1
  refine ⟨w.setCell ⟨b, off, none⟩ v, ?_, hs.upd hi (setCell_heap hb) (Nat.le_refl _) (fun k _ hk _ => absurd hk (Nat.not_lt_zero k)) (fun k hk => Below.heap_setCell w ⟨b, off, none⟩ v k hk) rfl rfl rfl rfl (by simp)⟩
  have hc := cell_of_row w b off c t' (0, 0) hb
  rw [Array.getElem?_eq_getElem ho] at hc
  have hf := frozen_of_row w b off c t' hb
  have hcl : v.cells = #[v] := by cases v <;> first | rfl | simp [Value.oneCell'] at h1
  simp [execOp, ha.ev hx, ha.ev hy, Instr.storeAt, Instr.sureAddr, storeVar, run_sizeOf ht, hcl, storeCells, run_store P w _ v _ h1, add_none, hc, hf]
/-- A store of a whole block. -/
theorem WL.storeLA {t t' : TypeId} {x y : Operand} {b n : Nat} {c c' : Array Value} (i : Nat) (hg : guardOK ops fr ⟨none, .store t x y, ty, pos, af, g⟩ true) (ht : (P.info? t).map (·.size) = some n)
    (hx : fr.ev x = some (.pointer (some ⟨b, 0, none⟩))) (hy : fr.ev y = some (.agg c')) (hi : L.get i = some ⟨b, .cells c t' (0, 0), 0⟩) (hn : c.size = n) (hn' : c'.size = n) (h1 : ∀ u ∈ c'.toList, u.oneCell' = true)
    (k : WL P N ops Q l fr (St w0 G0 G ((i, some ⟨b, .cells c' t' (0, 0), 0⟩) :: L))) : WL P N ops Q (⟨none, .store t x y, ty, pos, af, g⟩ :: l) fr (St w0 G0 G L) := by
  refine WL.ys' hg (fun a w ha hs => ?_) k
  have hb := (hs.loc i _ hi).1
  have hr := run_storeVar_row (P := P) w b t' t c c' hb (by rw [ht, hn']) (by omega) (by rw [Array.all_eq_true]; intro i hi; exact h1 _ (by simp))
  refine ⟨w.setRow b c', ?_, hs.upd hi ?_ (Nat.le_refl _) (fun k _ hk _ => absurd hk (Nat.not_lt_zero k)) (fun k hk => ?_) rfl rfl rfl rfl (by simp [World.setRow])⟩
  · simp [execOp, ha.ev hx, ha.ev hy, Instr.storeAt, Instr.sureAddr, hr]
  · simp [World.setRow, Array.getElem?_modify, hb]
  · simp only [World.setRow, Array.getElem?_modify]
    rw [if_neg (fun e => hk e.symm)]
/-- A store of several cells into the middle of a block of the call's own. -/
theorem WL.storeLP {t t' : TypeId} {x y : Operand} {b off n : Nat} {c vs : Array Value} (i : Nat) (c' : Array Value) (hg : guardOK ops fr ⟨none, .store t x y, ty, pos, af, g⟩ true) (ht : (P.info? t).map (·.size) = some n)
    (hx : fr.ev x = some (.pointer (some ⟨b, off, none⟩))) (hy : fr.ev y = some (.agg vs)) (hi : L.get i = some ⟨b, .cells c t' (0, 0), 0⟩) (hn : vs.size = n) (ho : off + n ≤ c.size) (h1 : ∀ u ∈ vs.toList, u.oneCell' = true)
    (hc' : (c.toList.take off ++ vs.toList ++ c.toList.drop (off + n)).toArray = c')
    (k : WL P N ops Q l fr (St w0 G0 G ((i, some ⟨b, .cells c' t' (0, 0), 0⟩) :: L))) : WL P N ops Q (⟨none, .store t x y, ty, pos, af, g⟩ :: l) fr (St w0 G0 G L) := by
  subst hc'
  refine WL.ys' hg (fun a w ha hs => ?_) k
  have hb := (hs.loc i _ hi).1
  have hr := run_storeCells_at P b off t' vs.toList 0 c w hb (by simp; omega) h1
  simp only [Nat.add_zero, Array.length_toList, hn] at hr
  refine ⟨w.setRow b (c.toList.take off ++ vs.toList ++ c.toList.drop (off + n)).toArray, ?_, hs.upd hi ?_ (Nat.le_refl _) (fun k _ hk _ => absurd hk (Nat.not_lt_zero k)) (fun k hk => ?_) rfl rfl rfl rfl (by simp [World.setRow])⟩
  · simp [execOp, ha.ev hx, ha.ev hy, Instr.storeAt, Instr.sureAddr, storeVar, Value.cells, run_sizeOf ht, hn, hr]
  · simp [World.setRow, Array.getElem?_modify, hb]
  · simp only [World.setRow, Array.getElem?_modify]
    rw [if_neg (fun e => hk e.symm)]

/-- A call by its contract. -/
theorem YC.of {f : FuncId} {args : Array Operand} {ats : Array TypeId} {vs : List Value} (he : Enters P f) (hv : fr.evs args.toList = some vs) : YC P N ⟨dst, .call ⟨.value (.func f), args, ats⟩, ty, pos, af, g⟩ fr S f vs.toArray := fun a w ha _ => by
  have e1 : args.map a.eval = vs.toArray := by apply Array.ext'; simpa using ha.evs _ _ hv
  simpa [execOp, resolve, e1, Act.eval, Deferred.ofValue, invoke] using he vs.toArray w
/-- A call of a function value. -/
theorem YC.ofV {f : FuncId} {x : Operand} {args : Array Operand} {ats : Array TypeId} {vs : List Value} {cap : Array Value} (he : Enters P f) (hx : fr.ev x = some (.func (.func f) #[] cap)) (hv : fr.evs args.toList = some vs) :
    YC P N ⟨dst, .call ⟨.value x, args, ats⟩, ty, pos, af, g⟩ fr S f (vs.toArray ++ cap) := fun a w ha _ => by
  have e1 : args.map a.eval = vs.toArray := by apply Array.ext'; simpa using ha.evs _ _ hv
  simpa [execOp, resolve, e1, ha.ev hx, Deferred.ofValue, invoke] using he (vs.toArray ++ cap) w

theorem St.hp {L1 : Lo} {w : World} (h : St w0 G0 G L w) (hs : Lo.sub L1 L) : Hp G L1 w :=
  ⟨h.imm, fun i x e => ⟨(h.loc i x (hs _ _ e)).1, (h.loc i x (hs _ _ e)).2.2⟩, fun i j x y hne e e' => h.dist i j x y hne (hs _ _ e) (hs _ _ e')⟩
theorem Ext.nil {w w' : World} {G' : Mem} {L' : Lo} (h : Ext w G [] w' G' L') : Ext w G [] w' G' [] := { h with loc := fun i x hh => by simp [Lo.get] at hh, dist := fun i j x y _ hh => by simp [Lo.get] at hh }
/-- The entries of names that are not in the list. -/
def Lo.without (L : Lo) (ks : List Nat) : Lo := ks.map (fun k => (k, none)) ++ L
theorem Lo.get_without {L : Lo} {i : Nat} : ∀ {ks : List Nat} {x : Ow}, (L.without ks).get i = some x → L.get i = some x ∧ i ∉ ks
  | [], _, h => ⟨h, by simp⟩
  | k :: ks, x, h => by
    simp only [Lo.without, List.map_cons, List.cons_append] at h
    rw [Lo.get_cons] at h
    split at h
    · cases h
    · rename_i hne
      obtain ⟨h1, h2⟩ := Lo.get_without (ks := ks) h
      exact ⟨h1, by simp only [List.mem_cons, not_or]; exact ⟨fun e => hne e.symm, h2⟩⟩
theorem Lo.get_append (A B : Lo) (i : Nat) (x : Ow) (h : Lo.get (A ++ B) i = some x) : A.get i = some x ∨ B.get i = some x := by
  induction A with
  | nil => exact .inr h
  | cons p A ih =>
    obtain ⟨k, q⟩ := p
    simp only [List.cons_append] at h
    rw [Lo.get_cons] at h
    rw [Lo.get_cons]
    split at h
    · rename_i e; rw [if_pos e]; exact .inl h
    · rename_i e
      rw [if_neg e]
      exact ih h
/-- A call to which the blocks L1 are lent; what comes back of them stands ahead of the others. -/
theorem YC.yrL {o : Oper} {f : FuncId} {args args' : Array Value} {L1 : Lo} {pre : Mem → Prop} {post : Mem → Lo → Value → Prop} (h : YC P N o fr (St w0 G0 G L) f args') (sp : CtrL P f args L1 pre post) (e : args' = args) (hp : pre G)
    (h1 : Lo.sub L1 L) (h0 : ∀ i, i ∈ L1.map (·.1) → w0.L.get i = none) :
    YR P N o fr (St w0 G0 G L) (fun v w' => ∃ G' L', Mem.le G G' ∧ St w0 G0 G' (L' ++ L.without (L1.map (·.1))) w' ∧ post G' L' v) := fun a w ha hs => by
  rw [h a w ha hs]
  subst e
  have mem : ∀ (L1 : Lo) i x, L1.get i = some x → i ∈ L1.map (·.1) := by
    intro L1
    induction L1 with
    | nil => intro i x h; simp [Lo.get] at h
    | cons p L1 ih =>
      intro i x h
      obtain ⟨k, q⟩ := p
      rw [Lo.get_cons] at h
      split at h
      · rename_i e; simp [e]
      · have := ih i x h; simp only [List.map_cons, List.mem_cons]; exact .inr this
  refine (sp w G (hs.hp h1) hp).mono fun e' w' ⟨r, G', L', q1, q2, q3⟩ => ⟨r, q1, G', L', q2.le, hs.ext (R := L.without (L1.map (·.1))) q2 h1 (fun i x hx => (Lo.get_without hx).1) (fun i x hx => ?_) (fun i x y hi _ z hz => ?_) (fun i x hx => Lo.get_append _ _ i x hx), q3⟩
  · cases hg : L1.get i with
    | none => rfl
    | some y => exact absurd (mem L1 i y hg) (Lo.get_without hx).2
  · rw [h0 i (mem L1 i x hi)] at hz; cases hz
theorem YC.yr {o : Oper} {f : FuncId} {args args' : Array Value} {pre : Mem → Prop} {post : Mem → Value → Prop} (h : YC P N o fr (St w0 G0 G L) f args') (sp : Ctr P f args pre post) (e : args' = args) (hp : pre G) :
    YR P N o fr (St w0 G0 G L) (fun v w' => ∃ G', Mem.le G G' ∧ St w0 G0 G' L w' ∧ post G' v) := fun a w ha hs => by
  rw [h a w ha hs]
  subst e
  exact (sp w G (hs.hp (Lo.sub_nil _)) hp).mono fun e' w' ⟨r, G', L', q1, q2, q3⟩ => ⟨r, q1, G', q2.le, hs.ext q2.nil (Lo.sub_nil _) (fun _ _ h => h) (fun _ _ _ => rfl) (fun i x y hi => by simp [Lo.get] at hi) (fun _ _ h => .inr h), q3⟩

theorem WL.callL {op : Op} {f : FuncId} {args args' : Array Value} {L1 : Lo} {pre : Mem → Prop} {post : Mem → Lo → Value → Prop} (hg : guardOK ops fr ⟨dst, op, ty, pos, af, g⟩ true) (hd : dstOK N dst) (h : YC P N ⟨dst, op, ty, pos, af, g⟩ fr (St w0 G0 G L) f args')
    (sp : CtrL P f args L1 pre post) (e : args' = args) (hp : pre G) (h1 : Lo.sub L1 L) (h0 : ∀ i, i ∈ L1.map (·.1) → w0.L.get i = none)
    (k : ∀ v G' L', Mem.le G G' → post G' L' v → WL P N ops Q l (putFr dst v fr) (St w0 G0 G' (L' ++ L.without (L1.map (·.1))))) : WL P N ops Q (⟨dst, op, ty, pos, af, g⟩ :: l) fr (St w0 G0 G L) :=
  WL.yr hg (h.yrL sp e hp h1 h0) hd (fun v a w ha ⟨G', L', q1, q2, q3⟩ => k v G' L' q1 q3 a w ha q2)
theorem WL.call {op : Op} {f : FuncId} {args args' : Array Value} {pre : Mem → Prop} {post : Mem → Value → Prop} (hg : guardOK ops fr ⟨dst, op, ty, pos, af, g⟩ true) (hd : dstOK N dst) (h : YC P N ⟨dst, op, ty, pos, af, g⟩ fr (St w0 G0 G L) f args')
    (sp : Ctr P f args pre post) (e : args' = args) (hp : pre G) (k : ∀ v G', Mem.le G G' → post G' v → WL P N ops Q l (putFr dst v fr) (St w0 G0 G' L)) : WL P N ops Q (⟨dst, op, ty, pos, af, g⟩ :: l) fr (St w0 G0 G L) :=
  WL.yr hg (h.yr sp e hp) hd (fun v a w ha ⟨G', h1, h2, h3⟩ => k v G' h1 h3 a w ha h2)
/-- A call whose contract says the very value, and whose new memory is of no account. -/
theorem YC.y0 {o : Oper} {f : FuncId} {args args' : Array Value} {pre : Mem → Prop} {c : Value} (h : YC P N o fr (St w0 G0 G L) f args') (sp : Ctr P f args pre (fun _ r => r = c)) (e : args' = args) (hp : pre G) :
    YR P N o fr (St w0 G0 G L) (fun v w' => v = c ∧ St w0 G0 G L w') := fun a w ha hs => (h.yr sp e hp a w ha hs).mono fun _ _ ⟨_, h1, h2, h3⟩ => ⟨h3, h2.memLe hs.base h1⟩
theorem WL.call0 {op : Op} {f : FuncId} {args args' : Array Value} {pre : Mem → Prop} {c : Value} (hg : guardOK ops fr ⟨dst, op, ty, pos, af, g⟩ true) (hd : dstOK N dst) (h : YC P N ⟨dst, op, ty, pos, af, g⟩ fr (St w0 G0 G L) f args')
    (sp : Ctr P f args pre (fun _ r => r = c)) (e : args' = args) (hp : pre G) (k : WL P N ops Q l (putFr dst c fr) (St w0 G0 G L)) : WL P N ops Q (⟨dst, op, ty, pos, af, g⟩ :: l) fr (St w0 G0 G L) :=
  WL.yr hg (h.y0 sp e hp) hd (fun v a w ha ⟨h1, h2⟩ => by subst h1; exact k a w ha h2)

/-! ### Premises of a chain -/
theorem StX.ext {g : Gx} {G' : Mem} {w w' : World} (h : StX w0 G0 g L w) (e : Ext w g.m [] w' G' []) : StX w0 G0 ⟨G', g.x⟩ L w' where
  st := h.st.ext e (Lo.sub_nil _) (fun _ _ h => h) (fun _ _ _ => rfl) (fun i x y hi => by simp [Lo.get] at hi) (fun _ _ h => .inr h)
  own := fun b i o hb => by
    obtain ⟨h1, h2, h3, h4⟩ := h.own b i o hb
    have hlt : b < w.heap.size := (Array.getElem?_eq_some_iff.1 h1).1
    refine ⟨by rw [e.block b hlt (fun _ _ h => by simp [Lo.get] at h)]; exact h1, h2, fun k => ?_, h4⟩
    cases hk : G' b k with
    | none => exact hk
    | some v =>
      rcases e.fresh b k v hk with hh | hh | hh
      · rw [h3 k] at hh; cases hh
      · omega
      · exact (Lo.own_nil hh).elim
theorem YC.yrX {o : Oper} {F : Fr} {g : Gx} {f : FuncId} {args args' : Array Value} {pre : Mem → Prop} {post : Mem → Value → Prop} (h : YC P N o F (StX w0 G0 g L) f args') (sp : Ctr P f args pre post) (e : args' = args) (hp : pre g.m) :
    YR P N o F (StX w0 G0 g L) (fun v w' => ∃ g' : Gx, Gx.le g g' ∧ StX w0 G0 g' L w' ∧ post g'.m v) := fun a w ha hs => by
  rw [h a w ha hs]
  subst e
  exact (sp w g.m (hs.st.hp (Lo.sub_nil _)) hp).mono fun e' w' ⟨r, G', L', q1, q2, q3⟩ => ⟨r, q1, ⟨G', g.x⟩, ⟨q2.le, fun _ _ h => h⟩, hs.ext q2.nil, q3⟩
theorem YC.y0X {o : Oper} {F : Fr} {g : Gx} {f : FuncId} {args args' : Array Value} {pre : Mem → Prop} {c : Value} (h : YC P N o F (StX w0 G0 g L) f args') (sp : Ctr P f args pre (fun _ r => r = c)) (e : args' = args) (hp : pre g.m) :
    YR P N o F (StX w0 G0 g L) (fun v w' => ∃ g' : Gx, Gx.le g g' ∧ StX w0 G0 g' L w' ∧ v = c) := h.yrX sp e hp
theorem OpOK.y0 {F : Fr} {G' : Gx} {o : Oper} {c : Value} (hg : guardOK ops F o true) (h : Y0 P N o F (St w0 G0 G'.m L) c) : OpOK P N w0 G0 L ops F G' o (fun v _ => v = c) :=
  .inr ⟨hg, fun a w ha hs => by rw [h a w ha hs.st]; exact ⟨G', Gx.le_refl _, hs, rfl⟩⟩
theorem OpOK.call0 {F : Fr} {G' : Gx} {o : Oper} {f : FuncId} {args args' : Array Value} {pre : Mem → Prop} {c : Value} (hg : guardOK ops F o true) (h : YC P N o F (StX w0 G0 G' L) f args') (sp : Ctr P f args pre (fun _ r => r = c)) (e : args' = args) (hp : pre G'.m) :
    OpOK P N w0 G0 L ops F G' o (fun v _ => v = c) := .inr ⟨hg, h.y0X sp e hp⟩
theorem OpOK.call {F : Fr} {G' : Gx} {o : Oper} {f : FuncId} {args args' : Array Value} {pre : Mem → Prop} {post : Mem → Value → Prop} (hg : guardOK ops F o true) (h : YC P N o F (StX w0 G0 G' L) f args') (sp : Ctr P f args pre post) (e : args' = args) (hp : pre G'.m) :
    OpOK P N w0 G0 L ops F G' o (fun v G'' => post G''.m v) := .inr ⟨hg, h.yrX sp e hp⟩
theorem OpOK.skip {F : Fr} {G' : Gx} {o : Oper} (hg : guardOK ops F o false) : OpOK P N w0 G0 L ops F G' o (fun v _ => v = undef) := .inl ⟨hg, rfl⟩
/-- A block that an operation laid. -/
def Laid (d : Nat) (ob : Obj) : Value → Gx → Prop := fun v g => ∃ b, v = .pointer (some ⟨b, 0, none⟩) ∧ g.x b = some (d, ob)
theorem Laid.mono {d : Nat} {ob : Obj} (v : Value) (g g' : Gx) (h : Gx.le g g') : Laid d ob v g → Laid d ob v g' := fun ⟨b, h1, h2⟩ => ⟨b, h1, h.2 _ _ h2⟩
theorem OpOK.laid {F : Fr} {G' : Gx} {o : Oper} (d : Nat) (ob : Obj) (hg : guardOK ops F o true) (h : ∀ a w, Rel N F a → (execOp a.eval o).run P w = .ok (.value (.pointer (some ⟨w.heap.size, 0, none⟩))) (w.alloc ob)) : OpOK P N w0 G0 L ops F G' o (Laid d ob) :=
  .inr ⟨hg, fun a w ha hs => by
    rw [h a w ha]
    refine ⟨⟨G'.m, fun b => if b = w.heap.size then some (d, ob) else G'.x b⟩, ⟨Mem.le_refl _, fun b y hb => ?_⟩, ⟨?_, fun b i o' hb => ?_⟩, w.heap.size, rfl, by simp⟩
    · obtain ⟨i, o'⟩ := y
      have hlt : b < w.heap.size := (Array.getElem?_eq_some_iff.1 (hs.own b i o' hb).1).1
      simp only [if_neg (show b ≠ w.heap.size by omega)]
      exact hb
    · have hnm : ∀ (L : Lo) (n : Nat), ∃ K, n ≤ K ∧ L.get K = none := by
        intro L
        induction L with
        | nil => intro n; exact ⟨n, Nat.le_refl _, rfl⟩
        | cons p L ih =>
          intro n
          obtain ⟨K, h1, h2⟩ := ih (max n (p.1 + 1))
          refine ⟨K, by omega, ?_⟩
          rw [Lo.get_cons, if_neg (by omega)]
          exact h2
      obtain ⟨K, _, hK⟩ := hnm L 0
      refine (hs.st.push K ob).weaken fun i x hx => ?_
      rw [Lo.get_cons, if_neg (fun e => by subst e; rw [hK] at hx; cases hx)]
      exact hx
    · have hsz := hs.st.size
      dsimp only at hb
      split at hb
      · rename_i e
        cases hb
        subst e
        refine ⟨by unfold World.alloc; rw [Array.getElem?_push, if_pos rfl], hsz, fun k => ?_, fun j y hj => ?_⟩
        · cases hk : G'.m w.heap.size k with
          | none => rfl
          | some v =>
            have := hs.st.imm _ _ _ hk
            simp [World.cell?] at this
        · have := (Array.getElem?_eq_some_iff.1 (hs.st.loc j y hj).1).1
          omega
      · obtain ⟨h1, h2, h3, h4⟩ := hs.own b i o' hb
        have hlt : b < w.heap.size := (Array.getElem?_eq_some_iff.1 h1).1
        refine ⟨?_, h2, h3, h4⟩
        simp only [World.alloc, Array.getElem?_push, if_neg (show b ≠ w.heap.size by omega)]
        exact h1⟩
/-- A block that the region laid becomes one of the call's own. -/
theorem StX.adopt {g : Gx} {w : World} {d b : Nat} {ob : Obj} (h : StX w0 G0 g L w) (hb : g.x b = some (d, ob)) : StX w0 G0 ⟨g.m, fun k => if k = b then none else g.x k⟩ ((d, some ⟨b, ob, 0⟩) :: L) w := by
  obtain ⟨h1, h2, h3, h4⟩ := h.own b d ob hb
  have hs := h.st
  refine ⟨⟨hs.os, hs.tape, hs.output, hs.drawn, hs.size, hs.block, hs.base, hs.imm, hs.fresh, fun j y hj => ?_, fun j k y z hne e1 e2 => ?_⟩, fun b' i o' hb' => ?_⟩
  · rw [Lo.get_cons] at hj
    split at hj
    · cases hj
      exact ⟨h1, .inr h2, fun k _ => h3 k⟩
    · exact hs.loc j y hj
  · rw [Lo.get_cons] at e1 e2
    split at e1
    · cases e1
      split at e2
      · omega
      · exact fun e => h4 k z e2 e.symm
    · split at e2
      · cases e2
        exact h4 j y e1
      · exact hs.dist j k _ _ hne e1 e2
  · dsimp only at hb'
    split at hb'
    · cases hb'
    · rename_i hne
      obtain ⟨k1, k2, k3, k4⟩ := h.own b' i o' hb'
      refine ⟨k1, k2, k3, fun j y hj => ?_⟩
      rw [Lo.get_cons] at hj
      split at hj
      · cases hj; exact fun e => hne e.symm
      · exact k4 j y hj

section
variable {fs : List Bool} {r : List Oper} {det : Fr} {und : Und} {o : Oper}
theorem Chain.cdet {c : Value} (h : ∀ u G', Gx.le (Gx.of G) G' → undLook ops o und u G' → OpOK P N w0 G0 L ops (undFr und u ++ (det ++ fr)) G' o (fun v _ => v = c)) (k : Chain P N Q fr w0 G0 G L ops fs r (putFr o.dst c det) und) :
    Chain P N Q fr w0 G0 G L ops (false :: fs) (o :: r) det und := .inl ⟨c, h, k⟩
theorem Chain.cund (d : Nat) (φ : Value → Gx → Prop) (hd : o.dst = some d) (hm : ∀ v G₁ G₂, Gx.le G₁ G₂ → φ v G₁ → φ v G₂)
    (h : ∀ u G', Gx.le (Gx.of G) G' → undLook ops o und u G' → OpOK P N w0 G0 L ops (undFr und u ++ (det ++ fr)) G' o φ) (k : Chain P N Q fr w0 G0 G L ops fs r det ((d, φ) :: und)) :
    Chain P N Q fr w0 G0 G L ops (false :: fs) (o :: r) det und := .inr ⟨d, φ, hd, hm, h, k⟩
theorem Chain.tail (k : ∀ u G', Gx.le (Gx.of G) G' → undAll und u G' → WL P N ops (NX Q) r (undFr und u ++ (det ++ fr)) (StX w0 G0 G' L)) : Chain P N Q fr w0 G0 G L ops [] r det und := k
/-- Where all values are determined the new memory is of no account. -/
theorem Chain.tail0 (hb : Mem.le G0 G) (k : WL P N ops (NX Q) r (det ++ fr) (St w0 G0 G L)) : Chain P N Q fr w0 G0 G L ops [] r det [] := fun _ _ hle _ a w ha hs => k a w ha (hs.st.memLe hb hle.1)
/-- .. where one block was laid. -/
theorem Chain.tail1 {d : Nat} {ob : Obj} (hb : Mem.le G0 G) (k : ∀ b, WL P N ops (NX Q) r ((d, .pointer (some ⟨b, 0, none⟩)) :: (det ++ fr)) (St w0 G0 G ((d, some ⟨b, ob, 0⟩) :: L))) : Chain P N Q fr w0 G0 G L ops [] r det [(d, Laid d ob)] := fun u g hle hu a w ha hs => by
  obtain ⟨b, h1, h2⟩ := hu.1
  refine k b a w ?_ ((hs.adopt h2).st.memLe hb hle.1)
  have : undFr [(d, Laid d ob)] u = [(d, .pointer (some ⟨b, 0, none⟩))] := by simp [undFr, h1]
  rw [this] at ha
  exact ha
/-- .. where two blocks were laid. -/
theorem Chain.tail2 {d d' : Nat} {ob ob' : Obj} (hb : Mem.le G0 G) (hne : Nat.beq d d' = false) (k : ∀ b b', WL P N ops (NX Q) r ((d, .pointer (some ⟨b, 0, none⟩)) :: (d', .pointer (some ⟨b', 0, none⟩)) :: (det ++ fr)) (St w0 G0 G ((d, some ⟨b, ob, 0⟩) :: (d', some ⟨b', ob', 0⟩) :: L))) : Chain P N Q fr w0 G0 G L ops [] r det [(d, Laid d ob), (d', Laid d' ob')] := fun u g hle hu a w ha hs => by
  obtain ⟨b, h1, h2⟩ := hu.1
  obtain ⟨b', h1', h2'⟩ := hu.2.1
  have hbb : b ≠ b' := fun e => by subst e; rw [h2] at h2'; simp only [Option.some.injEq, Prod.mk.injEq] at h2'; rw [h2'.1] at hne; simp at hne
  refine k b b' a w ?_ (((hs.adopt h2').adopt (d := d) (b := b) (ob := ob) (by simp only [if_neg hbb]; exact h2)).st.memLe hb hle.1)
  have : undFr [(d, Laid d ob), (d', Laid d' ob')] u = [(d, .pointer (some ⟨b, 0, none⟩)), (d', .pointer (some ⟨b', 0, none⟩))] := by simp [undFr, h1, h1']
  rw [this] at ha
  exact ha
/-- The premise of an operation that yields its value in whatever memory. -/
theorem Chain.y0 {c : Value} (hg : guardOK ops (det ++ fr) o true) (h : ∀ G', Mem.le G G' → Y0 P N o (det ++ fr) (St w0 G0 G' L) c) (k : Chain P N Q fr w0 G0 G L ops fs r (putFr o.dst c det) []) :
    Chain P N Q fr w0 G0 G L ops (false :: fs) (o :: r) det [] := .inl ⟨c, fun _ G' hle _ => OpOK.y0 hg (h G'.m hle.1), k⟩
/-- An operation that floats: it looks at no memory. -/
theorem Chain.float {c : Value} (hg : guardOK ops (det ++ fr) o true) (h : Y0 P N o (det ++ fr) (fun _ => True) c) (k : Chain P N Q fr w0 G0 G L ops fs r (putFr o.dst c det) []) :
    Chain P N Q fr w0 G0 G L ops (true :: fs) (o :: r) det [] := ⟨c, fun _ => ⟨hg, h⟩, k⟩
theorem Chain.call0 {f : FuncId} {args args' : Array Value} {pre : Mem → Prop} {c : Value} (hg : guardOK ops (det ++ fr) o true) (h : ∀ S, YC P N o (det ++ fr) S f args') (sp : Ctr P f args pre (fun _ r => r = c)) (e : args' = args) (hp : ∀ G', Mem.le G G' → pre G')
    (k : Chain P N Q fr w0 G0 G L ops fs r (putFr o.dst c det) []) : Chain P N Q fr w0 G0 G L ops (false :: fs) (o :: r) det [] := .inl ⟨c, fun _ G' hle _ => OpOK.call0 hg (h _) sp e (hp G'.m hle.1), k⟩
theorem Chain.skip (hg : guardOK ops (det ++ fr) o false) (k : Chain P N Q fr w0 G0 G L ops fs r (putFr o.dst undef det) []) : Chain P N Q fr w0 G0 G L ops (false :: fs) (o :: r) det [] := .inl ⟨undef, fun _ _ _ _ => OpOK.skip hg, k⟩
theorem Chain.alloc {t : TypeId} {z : Value} {d : Nat} (hg : ∀ u, guardOK ops (undFr und u ++ (det ++ fr)) ⟨some d, .alloc t, ty, pos, af, g⟩ true) (hz : (P.info? t).map (·.zero) = some (some z))
    (k : Chain P N Q fr w0 G0 G L ops fs r det ((d, Laid d (.cells z.cells t (0, 0))) :: und)) : Chain P N Q fr w0 G0 G L ops (false :: fs) (⟨some d, .alloc t, ty, pos, af, g⟩ :: r) det und :=
  Chain.cund d _ rfl (fun v _ _ h => Laid.mono v _ _ h) (fun u _ _ _ => OpOK.laid d _ (hg u) (fun a w _ => run_alloc hz a w)) k
end
end

/-! ### Entry and return -/
def argFr : List Value → Nat → Fr
  | [], _ => []
  | v :: r, k => (k, v) :: argFr r (k + 1)
theorem argFr_get : ∀ (l : List Value) (k t : Nat) (v : Value), Fr.get (argFr l k) t = some v → k ≤ t ∧ l[t - k]? = some v
  | [], k, t, v, h => by simp [argFr, Fr.get] at h
  | x :: r, k, t, v, h => by
    simp only [argFr] at h
    rw [Fr.get_cons] at h
    split at h
    · rename_i e
      subst e
      simpa using h
    · have := argFr_get r (k + 1) t v h
      refine ⟨by omega, ?_⟩
      rw [show t - k = (t - (k + 1)) + 1 by omega]
      simpa using this.2

section
variable {P : Program} {fn : Func} {fr : Fr} {w0 : Bs} {G0 G : Mem} {L : Lo} {N : Nat}
theorem CtrL.enter {f : FuncId} {c : Code} {args : List Value} {L0 : Lo} {pre : Mem → Prop} {post : Mem → Lo → Value → Prop} (hf : P.funcs[f]? = some fn) (hb : fn.body = some c) (hN : fn.ntmps = N) (ha : Nat.ble args.length N = true)
    (h : ∀ w0 G0, w0.L = L0 → pre G0 → WC P N c (bodyPost P fn (RetL w0 G0 post)) (argFr args 0) (St w0 G0 G0 L0)) : CtrL P f args.toArray L0 pre post := by
  intro w G hi hp
  refine calls_of_wp hf hb (h ⟨w, L0⟩ G rfl hp _ w ⟨rfl, ?_, fun t v hv => ?_⟩ ⟨rfl, rfl, rfl, Nat.le_refl _, Nat.le_refl _, fun _ _ _ => rfl, Mem.le_refl _, hi.imm, fun _ _ _ h => .inl h, fun i x hh => ⟨(hi.loc i x hh).1, .inl ⟨x, hh, rfl⟩, (hi.loc i x hh).2⟩, hi.dist⟩)
  · have := Nat.le_of_ble_eq_true ha
    simp only [Array.size_append, List.size_toArray, Array.size_replicate]
    omega
  · obtain ⟨_, h2⟩ := argFr_get args 0 t v hv
    simp only [Nat.sub_zero] at h2
    have hlt := (List.getElem?_eq_some_iff.1 h2).1
    rw [Array.getElem?_append_left (by simpa using hlt)]
    simpa using h2
theorem Ctr.enter {f : FuncId} {c : Code} {args : List Value} {pre : Mem → Prop} {post : Mem → Value → Prop} (hf : P.funcs[f]? = some fn) (hb : fn.body = some c) (hN : fn.ntmps = N) (ha : Nat.ble args.length N = true)
    (h : ∀ w0 G0, w0.L = [] → pre G0 → WC P N c (bodyPost P fn (RetTo w0 G0 post)) (argFr args 0) (St w0 G0 G0 [])) : Ctr P f args.toArray pre post := CtrL.enter hf hb hN ha h

/-- What a result variable holds. -/
def RV (P : Program) (fr : Fr) (L : Lo) : ResultVar → Value → Prop
  | .tmp t, v => fr.get t = some v
  | .cell t ty, v => ∃ i b c t' m, fr.get t = some (.pointer (some ⟨b, 0, none⟩)) ∧ L.get i = some ⟨b, .cells c t' (0, 0), m⟩ ∧ ((∃ n, AggT P ty n ∧ c.size = n ∧ v = .agg c) ∨ (ScalT P ty ∧ c[0]? = some v))
theorem RV.cellA {t ty t' i b n m : Nat} {c : Array Value} (ht : AggT P ty n) (h1 : fr.get t = some (.pointer (some ⟨b, 0, none⟩))) (h2 : L.get i = some ⟨b, .cells c t' (0, 0), m⟩) (hn : c.size = n) : RV P fr L (.cell t ty) (.agg c) :=
  ⟨i, b, c, t', m, h1, h2, .inl ⟨n, ht, hn, rfl⟩⟩
theorem RV.cellS {t ty t' i b m : Nat} {c : Array Value} {v : Value} (ht : ScalT P ty) (h1 : fr.get t = some (.pointer (some ⟨b, 0, none⟩))) (h2 : L.get i = some ⟨b, .cells c t' (0, 0), m⟩) (hv : c[0]? = some v) : RV P fr L (.cell t ty) v :=
  ⟨i, b, c, t', m, h1, h2, .inr ⟨ht, hv⟩⟩
def rvRun (tmps : Array Value) : ResultVar → Sem Value
  | .tmp t => pure (tmps.getD t undef)
  | .cell a t => do loadVar t (← asAddr (tmps.getD a undef))
theorem RV.run {rv : ResultVar} {v : Value} {a : Act} {w : World} (h : RV P fr L rv v) (ha : Rel N fr a) (hs : St w0 G0 G L w) : (rvRun a.tmps rv).run P w = .ok v w := by
  cases rv with
  | tmp t => simp [rvRun, ha.here t v h]
  | cell t ty =>
    obtain ⟨i, b, c, t', m, h1, h2, h3⟩ := h
    have hb := (hs.loc i _ h2).1
    have h0 : a.tmps.getD t undef = .pointer (some ⟨b, 0, none⟩) := by simp [ha.here t _ h1]
    rcases h3 with ⟨n, h4, h5, rfl⟩ | ⟨h4, h5⟩
    · have := run_loadVar_list (P := P) (w := w) (b := b) (off := 0) (vs := c.toList) h4 (by simpa using h5) (fun j v hj => by
        rw [cell_of_row w b (0 + j) c t' (0, 0) hb]
        simpa using hj)
      simp only [rvRun, h0, asAddr]
      simpa using this
    · have hc := cell_of_row w b 0 c t' (0, 0) hb
      rw [h5] at hc
      have := run_loadVar_scal (P := P) h4 hc
      simp only [rvRun, h0, asAddr]
      simpa using this
theorem results_eq (fn : Func) (tmps : Array Value) : results fn tmps = (do let vs ← fn.results.mapM (rvRun tmps); pure (if h : vs.size = 1 then vs[0] else .tuple vs)) := by
  unfold results
  congr 2
theorem run_results {rvs : List ResultVar} {vs : List Value} {a : Act} {w : World} (hr : fn.results = rvs.toArray) (hl : rvs.length = vs.length) (h : ∀ (i : Nat) (rv : ResultVar) (v : Value), rvs[i]? = some rv → vs[i]? = some v → (rvRun a.tmps rv).run P w = .ok v w) :
    (results fn a.tmps).run P w = .ok (if h : vs.toArray.size = 1 then vs.toArray[0] else .tuple vs.toArray) w := by
  have key : ∀ (rvs : List ResultVar) (vs : List Value), rvs.length = vs.length → (∀ (i : Nat) (rv : ResultVar) (v : Value), rvs[i]? = some rv → vs[i]? = some v → (rvRun a.tmps rv).run P w = .ok v w) → (rvs.mapM (rvRun a.tmps)).run P w = .ok vs w := by
    intro rvs
    induction rvs with
    | nil => intro vs hl _; cases vs with | nil => simp | cons => simp at hl
    | cons rv rvs ih =>
      intro vs hl h
      cases vs with
      | nil => simp at hl
      | cons v vs =>
        have h0 := h 0 rv v rfl rfl
        have h1 := ih vs (by simpa using hl) (fun i rv' v' e1 e2 => h (i + 1) rv' v' (by simpa using e1) (by simpa using e2))
        simp [List.mapM_cons, h0, h1]
  rw [results_eq, hr]
  have hm := key rvs vs hl h
  rw [List.mapM_toArray]
  simp [hm]

theorem WE.ret {rvs : List ResultVar} {post : Mem → Lo → Value → Prop} (vs : List Value) (hr : fn.results = rvs.toArray) (hl : rvs.length = vs.length) (h : ∀ (i : Nat) (rv : ResultVar) (v : Value), rvs[i]? = some rv → vs[i]? = some v → RV P fr L rv v)
    (hp : post G L (if h : vs.toArray.size = 1 then vs.toArray[0] else .tuple vs.toArray)) : WE N (bodyPost P fn (RetL w0 G0 post)) .ret fr (St w0 G0 G L) := fun a w ha hs =>
  ⟨ha.defers, _, run_results hr hl (fun i rv v e1 e2 => (h i rv v e1 e2).run ha hs), _, G, L, rfl, ⟨hs.os, hs.tape, hs.output, hs.drawn, hs.size, hs.block, hs.base, hs.imm, hs.fresh, hs.loc, hs.dist⟩, hp⟩
theorem WE.retN {post : Mem → Lo → Value → Prop} (h : WE N (bodyPost P fn (RetL w0 G0 post)) .ret fr (St w0 G0 G L)) : WE N (bodyPost P fn (RetL w0 G0 post)) .normal fr (St w0 G0 G L) := h
theorem WE.ret1 {r1 : ResultVar} {v1 : Value} {post : Mem → Lo → Value → Prop} (hr : fn.results = #[r1]) (h1 : RV P fr L r1 v1) (hp : post G L v1) : WE N (bodyPost P fn (RetL w0 G0 post)) .ret fr (St w0 G0 G L) :=
  WE.ret (rvs := [r1]) [v1] hr rfl (fun i rv v e1 e2 => by
    match i with
    | 0 => simp at e1 e2; subst e1 e2; exact h1
    | i + 1 => simp at e1) hp
theorem WE.ret2 {r1 r2 : ResultVar} {v1 v2 : Value} {post : Mem → Lo → Value → Prop} (hr : fn.results = #[r1, r2]) (h1 : RV P fr L r1 v1) (h2 : RV P fr L r2 v2) (hp : post G L (.tuple #[v1, v2])) : WE N (bodyPost P fn (RetL w0 G0 post)) .ret fr (St w0 G0 G L) :=
  WE.ret (rvs := [r1, r2]) [v1, v2] hr rfl (fun i rv v e1 e2 => by
    match i with
    | 0 => simp at e1 e2; subst e1 e2; exact h1
    | 1 => simp at e1 e2; subst e1 e2; exact h2
    | i + 2 => simp at e1) hp
theorem WE.ret3 {r1 r2 r3 : ResultVar} {v1 v2 v3 : Value} {post : Mem → Lo → Value → Prop} (hr : fn.results = #[r1, r2, r3]) (h1 : RV P fr L r1 v1) (h2 : RV P fr L r2 v2) (h3 : RV P fr L r3 v3) (hp : post G L (.tuple #[v1, v2, v3])) :
    WE N (bodyPost P fn (RetL w0 G0 post)) .ret fr (St w0 G0 G L) :=
  WE.ret (rvs := [r1, r2, r3]) [v1, v2, v3] hr rfl (fun i rv v e1 e2 => by
    match i with
    | 0 => simp at e1 e2; subst e1 e2; exact h1
    | 1 => simp at e1 e2; subst e1 e2; exact h2
    | 2 => simp at e1 e2; subst e1 e2; exact h3
    | i + 3 => simp at e1) hp
theorem WE.ret0 {post : Mem → Lo → Value → Prop} (hr : fn.results = #[]) (hp : post G L (.tuple #[])) : WE N (bodyPost P fn (RetL w0 G0 post)) .ret fr (St w0 G0 G L) :=
  WE.ret (rvs := []) [] hr rfl (fun i rv v e1 e2 => by simp at e1) hp
end
end Go.EL
