/- Rules for memory, calls, entries and returns. No condition. -/
import Derived.Test.YtbdknlblnfnkkaaEA
import Derived.Deep.AppendSrc
import Derived.Scope
import Derived.ChangeKeysEq
import Derived.Laws.StructEq
namespace Go.EL
open Go Go.RowKit Go.Proofs

section
variable {w0 : Bs} {G0 G : Mem} {L : Lo} {w w' : World}

theorem St.upd {i m' : Nat} {x : Ow} {o' : Obj} (h : St w0 G0 G L w) (hi : L.get i = some x) (hb : w'.heap[x.b]? = some o') (hm : x.m ≤ m') (hk : ∀ k v, k < x.m → G x.b k = some v → w'.cell? ⟨x.b, k, none⟩ = some v) (ho : ∀ k, k ≠ x.b → w'.heap[k]? = w.heap[k]?)
    (h1 : w'.os = w.os) (h2 : w'.tape = w.tape) (h3 : w'.output = w.output) (h5 : w'.drawn = w.drawn) (h4 : w'.heap.size = w.heap.size) : St w0 G0 G ((i, some ⟨x.b, o', m'⟩) :: L) w' := by
  obtain ⟨l1, l2, l3⟩ := h.loc i x hi
  refine ⟨h1.trans h.os, h2.trans h.tape, h3.trans h.output, by rw [h5]; exact h.drawn, by have := h.size; omega, fun k hk' hn => ?_, h.base, fun b' o'' v hv => ?_, h.fresh, fun j y hj => ?_, fun j k y z hne e1 e2 => ?_⟩
  · rw [ho k (fun e => ?_)]
    · exact h.block k hk' hn
    · subst e
      rcases l2 with ⟨y, l2, hy⟩ | l2
      · exact hn i y l2 hy
      · omega
  · by_cases hne : b' = x.b
    · subst hne
      refine hk o'' v ?_ hv
      rcases Nat.lt_or_ge o'' x.m with hlt | hge
      · exact hlt
      · rw [l3 o'' hge] at hv; cases hv
    · rw [World.cell?_of_block (w := w) (a := ⟨b', o'', none⟩) (ho b' hne)]
      exact h.imm b' o'' v hv
  · rw [Lo.get_cons] at hj
    split at hj
    · rename_i hij
      subst hij
      simp only [Option.some.injEq] at hj
      subst hj
      exact ⟨hb, l2, fun k hk' => l3 k (Nat.le_trans hm hk')⟩
    · rename_i hij
      obtain ⟨m1, m2, m3⟩ := h.loc j y hj
      exact ⟨by rw [ho y.b (fun e => h.dist i j x y hij hi hj e.symm)]; exact m1, m2, m3⟩
  · rw [Lo.get_cons] at e1 e2
    split at e1 <;> split at e2
    · omega
    · rename_i hij hik
      simp only [Option.some.injEq] at e1
      subst e1
      exact h.dist i k x z hik hi e2
    · rename_i hij hik
      simp only [Option.some.injEq] at e2
      subst e2
      exact h.dist j i y x (fun e => hij e.symm) e1 hi
    · exact h.dist j k _ _ hne e1 e2

theorem St.push (i : Nat) (o : Obj) (h : St w0 G0 G L w) : St w0 G0 G ((i, some ⟨w.heap.size, o, 0⟩) :: L) (w.alloc o) := by
  have hs := h.size
  have lt : ∀ j y, L.get j = some y → y.b < w.heap.size := fun j y hj => (Array.getElem?_eq_some_iff.1 (h.loc j y hj).1).1
  refine ⟨h.os, h.tape, h.output, h.drawn, by simp; omega, fun k hk hn => ?_, h.base, fun b' o'' v hv => ?_, h.fresh, fun j y hj => ?_, fun j k y z hne e1 e2 => ?_⟩
  · rw [Below.heap_alloc w o k (by omega)]
    exact h.block k hk hn
  · have := h.imm.lt hv
    rw [World.cell?_alloc_lt (w := w) (o := o) (a := ⟨b', o'', none⟩) this]
    exact h.imm b' o'' v hv
  · rw [Lo.get_cons] at hj
    split at hj
    · simp only [Option.some.injEq] at hj
      subst hj
      refine ⟨heap_alloc_new w o, .inr hs, fun k _ => ?_⟩
      cases hk : G w.heap.size k with
      | none => rfl
      | some v => have := h.imm.lt hk; omega
    · obtain ⟨m1, m2, m3⟩ := h.loc j y hj
      exact ⟨by rw [Below.heap_alloc w o y.b (lt j y hj)]; exact m1, m2, m3⟩
  · rw [Lo.get_cons] at e1 e2
    split at e1 <;> split at e2
    · omega
    · simp only [Option.some.injEq] at e1
      subst e1
      have := lt _ _ e2
      dsimp only; omega
    · simp only [Option.some.injEq] at e2
      subst e2
      have := lt _ _ e1
      dsimp only; omega
    · exact h.dist j k _ _ hne e1 e2

/-- Cells from m to n of a block of the call's own become known for good. -/
def Mem.row (G : Mem) (b : Nat) (c : Array Value) (m n : Nat) : Mem := fun b' o => if b' = b ∧ m ≤ o ∧ o < n then c[o]? else G b' o
theorem Mem.le_row {b m : Nat} {c : Array Value} {n : Nat} (h : ∀ k, m ≤ k → G b k = none) : Mem.le G (Mem.row G b c m n) := fun b' o v hv => by
  unfold Mem.row
  rw [if_neg (fun e => by obtain ⟨e1, e2, _⟩ := e; subst e1; rw [h _ e2] at hv; cases hv)]
  exact hv
theorem Mem.row_at {b o m : Nat} {c : Array Value} {n : Nat} (h0 : m ≤ o) (h : o < n) : Mem.row G b c m n b o = c[o]? := by simp [Mem.row, h0, h]

/-- Cells of a block that is the call's own, not a lent one, may be made known; the cells behind them stay the call's own. -/
theorem St.know {i b m n : Nat} {c : Array Value} {t : TypeId} (h : St w0 G0 G L w) (hi : L.get i = some ⟨b, .cells c t (0, 0), m⟩) (h0 : w0.L.get i = none) (hmn : m ≤ n) :
    St w0 G0 (Mem.row G b c m n) ((i, some ⟨b, .cells c t (0, 0), n⟩) :: L) w ∧ Mem.le G (Mem.row G b c m n) := by
  obtain ⟨l1, l2, l3⟩ := h.loc i _ hi
  have hle := Mem.le_row (c := c) (n := n) l3
  have l2' : w0.w.heap.size ≤ b := l2.resolve_left (fun ⟨y, e, _⟩ => by rw [h0] at e; cases e)
  refine ⟨⟨h.os, h.tape, h.output, h.drawn, h.size, h.block, Mem.le_trans h.base hle, fun b' o v hv => ?_, fun b' o v hv => ?_, fun j y hj => ?_, fun j k y z hne e1 e2 => ?_⟩, hle⟩
  · unfold Mem.row at hv
    split at hv
    · rename_i e
      obtain ⟨e1, _, _⟩ := e
      subst e1
      rw [cell_of_row w b' o c t (0, 0) l1]; exact hv
    · exact h.imm b' o v hv
  · unfold Mem.row at hv
    split at hv
    · rename_i e
      obtain ⟨e1, _, _⟩ := e
      subst e1
      exact .inr (.inl l2')
    · exact h.fresh b' o v hv
  · rw [Lo.get_cons] at hj
    split at hj
    · rename_i hij
      subst hij
      simp only [Option.some.injEq] at hj
      subst hj
      refine ⟨l1, l2, fun k hk => ?_⟩
      unfold Mem.row
      rw [if_neg (by dsimp only at hk ⊢; omega)]
      exact l3 k (Nat.le_trans hmn hk)
    · rename_i hij
      obtain ⟨m1, m2, m3⟩ := h.loc j y hj
      refine ⟨m1, m2, fun k hk => ?_⟩
      have hb : y.b ≠ b := fun e => h.dist i j _ y hij hi hj e.symm
      unfold Mem.row
      rw [if_neg (fun e => hb e.1)]
      exact m3 k hk
  · rw [Lo.get_cons] at e1 e2
    split at e1 <;> split at e2
    · omega
    · rename_i hij hik
      simp only [Option.some.injEq] at e1
      subst e1
      exact h.dist i k ⟨b, .cells c t (0, 0), m⟩ z hik hi e2
    · rename_i hij hik
      simp only [Option.some.injEq] at e2
      subst e2
      exact h.dist j i y ⟨b, .cells c t (0, 0), m⟩ (fun e => hij e.symm) e1 hi
    · exact h.dist j k _ _ hne e1 e2
/-- A block of the call's own takes another name. -/
theorem St.rekey {i j : Nat} {x : Option Ow} (h : St w0 G0 G L w) (hi : L.get i = x) (h0 : w0.L.get i = none) : St w0 G0 G ((j, x) :: (i, none) :: L) w := by
  have key : ∀ k y, Lo.get ((j, x) :: (i, none) :: L) k = some y → (k = j ∧ L.get i = some y) ∨ (k ≠ j ∧ k ≠ i ∧ L.get k = some y) := by
    intro k y hk
    rw [Lo.get_cons] at hk
    split at hk
    · rename_i e; exact .inl ⟨e.symm, by rw [hi]; exact hk⟩
    · rename_i e
      rw [Lo.get_cons] at hk
      split at hk
      · cases hk
      · rename_i e'; exact .inr ⟨fun q => e q.symm, fun q => e' q.symm, hk⟩
  refine ⟨h.os, h.tape, h.output, h.drawn, h.size, h.block, h.base, h.imm, h.fresh, fun k y hk => ?_, fun k l y z hne e1 e2 => ?_⟩
  · rcases key k y hk with ⟨rfl, hy⟩ | ⟨_, _, hy⟩
    · obtain ⟨m1, m2, m3⟩ := h.loc i y hy
      exact ⟨m1, .inr (m2.resolve_left (fun ⟨y, e, _⟩ => by rw [h0] at e; cases e)), m3⟩
    · exact h.loc k y hy
  · rcases key k y e1 with ⟨rfl, hy⟩ | ⟨k1, k2, hy⟩ <;> rcases key l z e2 with ⟨rfl, hz⟩ | ⟨l1, l2, hz⟩
    · omega
    · exact h.dist i l y z (fun e => l2 e.symm) hy hz
    · exact h.dist k i y z k2 hy hz
    · exact h.dist k l y z hne hy hz
end

section
variable {P : Program} {N : Nat} {Q : Post} {fr : Fr} {S : Asrt} {ops : Array Oper} {l : List Oper} {dst : Option Nat} {ty : TypeId} {pos : String} {af : Array Edge} {g : Option (Nat × Bool)}
variable {w0 : Bs} {G0 G : Mem} {L : Lo}

theorem run_loadVar_scal {t : TypeId} {a : Addr} {v : Value} {w : World} (ht : ScalT P t) (hc : w.cell? a = some v) : (loadVar t a).run P w = .ok v w := by
  simp [loadVar, ht.run, load, Sem.run, hc]
theorem run_loadVar_list {t : TypeId} {b off n : Nat} {vs : List Value} {w : World} (ht : AggT P t n) (hl : vs.length = n) (hc : ∀ j v, vs[j]? = some v → w.cell? ⟨b, off + j, none⟩ = some v) :
    (loadVar t ⟨b, off, none⟩).run P w = .ok (.agg vs.toArray) w := by
  have := run_loadCells_list (P := P) w ⟨b, off, none⟩ vs (fun j v hv => by rw [add_none]; exact hc j v hv)
  subst hl
  simp [loadVar, ht.run, run_sizeOf ht.2, this]

/-- A load of one cell of a block of the call's own. -/
theorem Y0.loadL {t t' : TypeId} {x : Operand} {b off m : Nat} {c : Array Value} {v : Value} (i : Nat) (ht : ScalT P t) (hx : fr.ev x = some (.pointer (some ⟨b, off, none⟩)))
    (hi : L.get i = some ⟨b, .cells c t' (0, 0), m⟩) (hv : c[off]? = some v) : Y0 P N ⟨dst, .load t x, ty, pos, af, g⟩ fr (St w0 G0 G L) v := fun a w ha hs => by
  have hc := cell_of_row w b off c t' (0, 0) (hs.loc i _ hi).1
  rw [hv] at hc
  simp [execOp, ha.ev hx, Instr.loadAt, Instr.sureAddr, run_loadVar_scal ht hc]
/-- A load of a whole block of the call's own. -/
theorem Y0.loadLA {t t' : TypeId} {x : Operand} {b n m : Nat} {c : Array Value} (i : Nat) (ht : AggT P t n) (hx : fr.ev x = some (.pointer (some ⟨b, 0, none⟩)))
    (hi : L.get i = some ⟨b, .cells c t' (0, 0), m⟩) (hn : c.size = n) : Y0 P N ⟨dst, .load t x, ty, pos, af, g⟩ fr (St w0 G0 G L) (.agg c) := fun a w ha hs => by
  have hc := run_loadVar_list (P := P) (w := w) (b := b) (off := 0) (vs := c.toList) ht (by simpa using hn) (fun j v hj => by
    rw [cell_of_row w b (0 + j) c t' (0, 0) (hs.loc i _ hi).1]
    simpa using hj)
  simp [execOp, ha.ev hx, Instr.loadAt, Instr.sureAddr, hc]
/-- A load of some cells of a block of the call's own. -/
theorem Y0.loadLP {t t' : TypeId} {x : Operand} {b off n m : Nat} {c : Array Value} (vs : Array Value) (i : Nat) (ht : AggT P t n) (hx : fr.ev x = some (.pointer (some ⟨b, off, none⟩)))
    (hi : L.get i = some ⟨b, .cells c t' (0, 0), m⟩) (hn : vs.size = n) (hv : ∀ j v, vs[j]? = some v → c[off + j]? = some v) : Y0 P N ⟨dst, .load t x, ty, pos, af, g⟩ fr (St w0 G0 G L) (.agg vs) := fun a w ha hs => by
  have hc := run_loadVar_list (P := P) (w := w) (b := b) (off := off) (vs := vs.toList) ht (by simpa using hn) (fun j v hj => by
    rw [cell_of_row w b (off + j) c t' (0, 0) (hs.loc i _ hi).1]
    exact hv j v (by simpa using hj))
  simp [execOp, ha.ev hx, Instr.loadAt, Instr.sureAddr, hc]
/-- A load of a known cell. -/
theorem Y0.loadG {t : TypeId} {x : Operand} {b off : Nat} {v : Value} (ht : ScalT P t) (hx : fr.ev x = some (.pointer (some ⟨b, off, none⟩)))
    (hv : G b off = some v) : Y0 P N ⟨dst, .load t x, ty, pos, af, g⟩ fr (St w0 G0 G L) v := fun a w ha hs => by
  have hc := hs.imm b off v hv
  simp [execOp, ha.ev hx, Instr.loadAt, Instr.sureAddr, run_loadVar_scal ht hc]
theorem Y0.loadGA {t : TypeId} {x : Operand} {b off n : Nat} (vs : Array Value) (ht : AggT P t n) (hx : fr.ev x = some (.pointer (some ⟨b, off, none⟩)))
    (hn : vs.size = n) (hv : ∀ j v, vs[j]? = some v → G b (off + j) = some v) : Y0 P N ⟨dst, .load t x, ty, pos, af, g⟩ fr (St w0 G0 G L) (.agg vs) := fun a w ha hs => by
  have hc := run_loadVar_list (P := P) (w := w) (b := b) (off := off) (vs := vs.toList) ht (by simpa using hn) (fun j v hj => hs.imm _ _ _ (hv j v (by simpa using hj)))
  simp [execOp, ha.ev hx, Instr.loadAt, Instr.sureAddr, hc]

theorem run_alloc {t : TypeId} {z : Value} (hz : (P.info? t).map (·.zero) = some (some z)) (a : Act) (w : World) : (execOp a.eval ⟨dst, .alloc t, ty, pos, af, g⟩).run P w = .ok (.value (.pointer (some ⟨w.heap.size, 0, none⟩))) (w.alloc (.cells z.cells t)) := by
  cases hq : P.info? t with
  | none => simp [hq] at hz
  | some inf =>
    simp only [hq, Option.map_some, Option.some.injEq] at hz
    simp [execOp, Instr.alloc, zeroValue, typeInfo, hq, hz, newVar, newRow]
/-- A new variable with the zero value. -/
theorem WL.alloc {t : TypeId} {z : Value} (i : Nat) (hg : guardOK ops fr ⟨dst, .alloc t, ty, pos, af, g⟩ true) (hz : (P.info? t).map (·.zero) = some (some z)) (hd : dstOK N dst)
    (k : ∀ b, WL P N ops Q l (putFr dst (.pointer (some ⟨b, 0, none⟩)) fr) (St w0 G0 G ((i, some ⟨b, .cells z.cells t (0, 0), 0⟩) :: L))) : WL P N ops Q (⟨dst, .alloc t, ty, pos, af, g⟩ :: l) fr (St w0 G0 G L) := by
  refine WL.yr (Φ := fun v w => ∃ b, v = .pointer (some ⟨b, 0, none⟩) ∧ St w0 G0 G ((i, some ⟨b, .cells z.cells t (0, 0), 0⟩) :: L) w) hg (fun a w ha hs => ?_) hd (fun v a w ha ⟨b, hb, hs⟩ => ?_)
  · cases hq : P.info? t with
    | none => simp [hq] at hz
    | some inf =>
      simp only [hq, Option.map_some, Option.some.injEq] at hz
      have : (execOp a.eval ⟨dst, .alloc t, ty, pos, af, g⟩).run P w = .ok (.value (.pointer (some ⟨w.heap.size, 0, none⟩))) (w.alloc (.cells z.cells t)) := by
        simp [execOp, Instr.alloc, zeroValue, typeInfo, hq, hz, newVar, newRow]
      rw [this]
      exact ⟨_, rfl, hs.push i _⟩
  · subst hb
    exact k b a w ha hs
/-- A new variable with a value. -/
theorem WL.box {t : TypeId} {x : Operand} {v : Value} (i : Nat) (hg : guardOK ops fr ⟨dst, .box t x, ty, pos, af, g⟩ true) (hx : fr.ev x = some v) (hd : dstOK N dst)
    (k : ∀ b, WL P N ops Q l (putFr dst (.pointer (some ⟨b, 0, none⟩)) fr) (St w0 G0 G ((i, some ⟨b, .cells v.cells t (0, 0), 0⟩) :: L))) : WL P N ops Q (⟨dst, .box t x, ty, pos, af, g⟩ :: l) fr (St w0 G0 G L) := by
  refine WL.yr (Φ := fun v' w => ∃ b, v' = .pointer (some ⟨b, 0, none⟩) ∧ St w0 G0 G ((i, some ⟨b, .cells v.cells t (0, 0), 0⟩) :: L) w) hg (fun a w ha hs => ?_) hd (fun v a w ha ⟨b, hb, hs⟩ => ?_)
  · have : (execOp a.eval ⟨dst, .box t x, ty, pos, af, g⟩).run P w = .ok (.value (.pointer (some ⟨w.heap.size, 0, none⟩))) (w.alloc (.cells v.cells t)) := by
      simp [execOp, Instr.box, ha.ev hx, newVar, newRow]
    rw [this]
    exact ⟨_, rfl, hs.push i _⟩
  · subst hb
    exact k b a w ha hs

theorem setCell_heap {w : World} {b off : Nat} {c : Array Value} {t : TypeId} {v : Value} (h : w.heap[b]? = some (.cells c t (0, 0))) : (w.setCell ⟨b, off, none⟩ v).heap[b]? = some (.cells (c.setIfInBounds off v) t (0, 0)) := heap_setCell_same w b off c t v h

/-- A store of one cell into a block of the call's own. -/
theorem WL.storeL {t t' : TypeId} {x y : Operand} {b off : Nat} {c : Array Value} {v : Value} (i : Nat) (c' : Array Value) (hg : guardOK ops fr ⟨none, .store t x y, ty, pos, af, g⟩ true) (ht : (P.info? t).map (·.size) = some 1)
    (hx : fr.ev x = some (.pointer (some ⟨b, off, none⟩))) (hy : fr.ev y = some v) (hi : L.get i = some ⟨b, .cells c t' (0, 0), 0⟩) (ho : off < c.size) (h1 : v.oneCell' = true) (hc' : c.setIfInBounds off v = c')
    (k : WL P N ops Q l fr (St w0 G0 G ((i, some ⟨b, .cells c' t' (0, 0), 0⟩) :: L))) : WL P N ops Q (⟨none, .store t x y, ty, pos, af, g⟩ :: l) fr (St w0 G0 G L) := by
  subst hc'
  refine WL.ys' hg (fun a w ha hs => ?_) k
  have hb := (hs.loc i _ hi).1
  refine ⟨w.setCell ⟨b, off, none⟩ v, ?_, hs.upd hi (setCell_heap hb) (Nat.le_refl _) (fun k _ hk _ => absurd hk (Nat.not_lt_zero k)) (fun k hk => Below.heap_setCell w ⟨b, off, none⟩ v k hk) rfl rfl rfl rfl (by simp)⟩
  have hc := cell_of_row w b off c t' (0, 0) hb
  rw [Array.getElem?_eq_getElem ho] at hc
  have hf := frozen_of_row w b off c t' hb
  have hcl : v.cells = #[v] := by cases v <;> first | rfl | simp [Value.oneCell'] at h1
  simp [execOp, ha.ev hx, ha.ev hy, Instr.storeAt, Instr.sureAddr, storeVar, run_sizeOf ht, hcl, storeCells, run_store P w _ v _ h1, add_none, hc, hf]
/-- A store of a whole block. -/
theorem WL.storeLA {t t' : TypeId} {x y : Operand} {b n : Nat} {c c' : Array Value} (i : Nat) (hg : guardOK ops fr ⟨none, .store t x y, ty, pos, af, g⟩ true) (ht : (P.info? t).map (·.size) = some n)
    (hx : fr.ev x = some (.pointer (some ⟨b, 0, none⟩))) (hy : fr.ev y = some (.agg c')) (hi : L.get i = some ⟨b, .cells c t' (0, 0), 0⟩) (hn : c.size = n) (hn' : c'.size = n) (h1 : ∀ u ∈ c'.toList, u.oneCell' = true)
    (k : WL P N ops Q l fr (St w0 G0 G ((i, some ⟨b, .cells c' t' (0, 0), 0⟩) :: L))) : WL P N ops Q (⟨none, .store t x y, ty, pos, af, g⟩ :: l) fr (St w0 G0 G L) := by
  refine WL.ys' hg (fun a w ha hs => ?_) k
  have hb := (hs.loc i _ hi).1
  have hr := run_storeVar_row (P := P) w b t' t c c' hb (by rw [ht, hn']) (by omega) (by rw [Array.all_eq_true]; intro i hi; exact h1 _ (by simp))
  refine ⟨w.setRow b c', ?_, hs.upd hi ?_ (Nat.le_refl _) (fun k _ hk _ => absurd hk (Nat.not_lt_zero k)) (fun k hk => ?_) rfl rfl rfl rfl (by simp [World.setRow])⟩
  · simp [execOp, ha.ev hx, ha.ev hy, Instr.storeAt, Instr.sureAddr, hr]
  · simp [World.setRow, Array.getElem?_modify, hb]
  · simp only [World.setRow, Array.getElem?_modify]
    rw [if_neg (fun e => hk e.symm)]
/-- A store of several cells into the middle of a block of the call's own. -/
theorem WL.storeLP {t t' : TypeId} {x y : Operand} {b off n : Nat} {c vs : Array Value} (i : Nat) (c' : Array Value) (hg : guardOK ops fr ⟨none, .store t x y, ty, pos, af, g⟩ true) (ht : (P.info? t).map (·.size) = some n)
    (hx : fr.ev x = some (.pointer (some ⟨b, off, none⟩))) (hy : fr.ev y = some (.agg vs)) (hi : L.get i = some ⟨b, .cells c t' (0, 0), 0⟩) (hn : vs.size = n) (ho : off + n ≤ c.size) (h1 : ∀ u ∈ vs.toList, u.oneCell' = true)
    (hc' : (c.toList.take off ++ vs.toList ++ c.toList.drop (off + n)).toArray = c')
    (k : WL P N ops Q l fr (St w0 G0 G ((i, some ⟨b, .cells c' t' (0, 0), 0⟩) :: L))) : WL P N ops Q (⟨none, .store t x y, ty, pos, af, g⟩ :: l) fr (St w0 G0 G L) := by
  subst hc'
  refine WL.ys' hg (fun a w ha hs => ?_) k
  have hb := (hs.loc i _ hi).1
  have hr := run_storeCells_at P b off t' vs.toList 0 c w hb (by simp; omega) h1
  simp only [Nat.add_zero, Array.length_toList, hn] at hr
  refine ⟨w.setRow b (c.toList.take off ++ vs.toList ++ c.toList.drop (off + n)).toArray, ?_, hs.upd hi ?_ (Nat.le_refl _) (fun k _ hk _ => absurd hk (Nat.not_lt_zero k)) (fun k hk => ?_) rfl rfl rfl rfl (by simp [World.setRow])⟩
  · simp [execOp, ha.ev hx, ha.ev hy, Instr.storeAt, Instr.sureAddr, storeVar, Value.cells, run_sizeOf ht, hn, hr]
  · simp [World.setRow, Array.getElem?_modify, hb]
  · simp only [World.setRow, Array.getElem?_modify]
    rw [if_neg (fun e => hk e.symm)]

/-- A call by its contract. -/
theorem YC.of {f : FuncId} {args : Array Operand} {ats : Array TypeId} {vs : List Value} (he : Enters P f) (hv : fr.evs args.toList = some vs) : YC P N ⟨dst, .call ⟨.value (.func f), args, ats⟩, ty, pos, af, g⟩ fr S f vs.toArray := fun a w ha _ => by
  have e1 : args.map a.eval = vs.toArray := by apply Array.ext'; simpa using ha.evs _ _ hv
  simpa [execOp, resolve, e1, Act.eval, Deferred.ofValue, invoke] using he vs.toArray w
/-- A call of a function value. -/
theorem YC.ofV {f : FuncId} {x : Operand} {args : Array Operand} {ats : Array TypeId} {vs : List Value} {cap : Array Value} (he : Enters P f) (hx : fr.ev x = some (.func (.func f) #[] cap)) (hv : fr.evs args.toList = some vs) :
    YC P N ⟨dst, .call ⟨.value x, args, ats⟩, ty, pos, af, g⟩ fr S f (vs.toArray ++ cap) := fun a w ha _ => by
  have e1 : args.map a.eval = vs.toArray := by apply Array.ext'; simpa using ha.evs _ _ hv
  simpa [execOp, resolve, e1, ha.ev hx, Deferred.ofValue, invoke] using he (vs.toArray ++ cap) w

theorem St.hp {L1 : Lo} {w : World} (h : St w0 G0 G L w) (hs : Lo.sub L1 L) : Hp G L1 w :=
  ⟨h.imm, fun i x e => ⟨(h.loc i x (hs _ _ e)).1, (h.loc i x (hs _ _ e)).2.2⟩, fun i j x y hne e e' => h.dist i j x y hne (hs _ _ e) (hs _ _ e')⟩
theorem Ext.nil {w w' : World} {G' : Mem} {L' : Lo} (h : Ext w G [] w' G' L') : Ext w G [] w' G' [] := { h with loc := fun i x hh => by simp [Lo.get] at hh, dist := fun i j x y _ hh => by simp [Lo.get] at hh }
/-- The entries of names that are not in the list. -/
def Lo.without (L : Lo) (ks : List Nat) : Lo := ks.map (fun k => (k, none)) ++ L
theorem Lo.get_without {L : Lo} {i : Nat} : ∀ {ks : List Nat} {x : Ow}, (L.without ks).get i = some x → L.get i = some x ∧ i ∉ ks
  | [], _, h => ⟨h, by simp⟩
  | k :: ks, x, h => by
    simp only [Lo.without, List.map_cons, List.cons_append] at h
    rw [Lo.get_cons] at h
    split at h
    · cases h
    · rename_i hne
      obtain ⟨h1, h2⟩ := Lo.get_without (ks := ks) h
      exact ⟨h1, by simp only [List.mem_cons, not_or]; exact ⟨fun e => hne e.symm, h2⟩⟩
theorem Lo.get_append (A B : Lo) (i : Nat) (x : Ow) (h : Lo.get (A ++ B) i = some x) : A.get i = some x ∨ B.get i = some x := by
  induction A with
  | nil => exact .inr h
  | cons p A ih =>
    obtain ⟨k, q⟩ := p
    simp only [List.cons_append] at h
    rw [Lo.get_cons] at h
    rw [Lo.get_cons]
    split at h
    · rename_i e; rw [if_pos e]; exact .inl h
    · rename_i e
      rw [if_neg e]
      exact ih h
/-- A call to which the blocks L1 are lent; what comes back of them stands ahead of the others. -/
theorem YC.yrL {o : Oper} {f : FuncId} {args args' : Array Value} {L1 : Lo} {pre : Mem → Prop} {post : Mem → Lo → Value → Prop} (h : YC P N o fr (St w0 G0 G L) f args') (sp : CtrL P f args L1 pre post) (e : args' = args) (hp : pre G)
    (h1 : Lo.sub L1 L) (h0 : ∀ i, i ∈ L1.map (·.1) → w0.L.get i = none) :
    YR P N o fr (St w0 G0 G L) (fun v w' => ∃ G' L', Mem.le G G' ∧ St w0 G0 G' (L' ++ L.without (L1.map (·.1))) w' ∧ post G' L' v) := fun a w ha hs => by
  rw [h a w ha hs]
  subst e
  have mem : ∀ (L1 : Lo) i x, L1.get i = some x → i ∈ L1.map (·.1) := by
    intro L1
    induction L1 with
    | nil => intro i x h; simp [Lo.get] at h
    | cons p L1 ih =>
      intro i x h
      obtain ⟨k, q⟩ := p
      rw [Lo.get_cons] at h
      split at h
      · rename_i e; simp [e]
      · have := ih i x h; simp only [List.map_cons, List.mem_cons]; exact .inr this
  refine (sp w G (hs.hp h1) hp).mono fun e' w' ⟨r, G', L', q1, q2, q3⟩ => ⟨r, q1, G', L', q2.le, hs.ext (R := L.without (L1.map (·.1))) q2 h1 (fun i x hx => (Lo.get_without hx).1) (fun i x hx => ?_) (fun i x y hi _ z hz => ?_) (fun i x hx => Lo.get_append _ _ i x hx), q3⟩
  · cases hg : L1.get i with
    | none => rfl
    | some y => exact absurd (mem L1 i y hg) (Lo.get_without hx).2
  · rw [h0 i (mem L1 i x hi)] at hz; cases hz
theorem YC.yr {o : Oper} {f : FuncId} {args args' : Array Value} {pre : Mem → Prop} {post : Mem → Value → Prop} (h : YC P N o fr (St w0 G0 G L) f args') (sp : Ctr P f args pre post) (e : args' = args) (hp : pre G) :
    YR P N o fr (St w0 G0 G L) (fun v w' => ∃ G', Mem.le G G' ∧ St w0 G0 G' L w' ∧ post G' v) := fun a w ha hs => by
  rw [h a w ha hs]
  subst e
  exact (sp w G (hs.hp (Lo.sub_nil _)) hp).mono fun e' w' ⟨r, G', L', q1, q2, q3⟩ => ⟨r, q1, G', q2.le, hs.ext q2.nil (Lo.sub_nil _) (fun _ _ h => h) (fun _ _ _ => rfl) (fun i x y hi => by simp [Lo.get] at hi) (fun _ _ h => .inr h), q3⟩

theorem WL.callL {op : Op} {f : FuncId} {args args' : Array Value} {L1 : Lo} {pre : Mem → Prop} {post : Mem → Lo → Value → Prop} (hg : guardOK ops fr ⟨dst, op, ty, pos, af, g⟩ true) (hd : dstOK N dst) (h : YC P N ⟨dst, op, ty, pos, af, g⟩ fr (St w0 G0 G L) f args')
    (sp : CtrL P f args L1 pre post) (e : args' = args) (hp : pre G) (h1 : Lo.sub L1 L) (h0 : ∀ i, i ∈ L1.map (·.1) → w0.L.get i = none)
    (k : ∀ v G' L', Mem.le G G' → post G' L' v → WL P N ops Q l (putFr dst v fr) (St w0 G0 G' (L' ++ L.without (L1.map (·.1))))) : WL P N ops Q (⟨dst, op, ty, pos, af, g⟩ :: l) fr (St w0 G0 G L) :=
  WL.yr hg (h.yrL sp e hp h1 h0) hd (fun v a w ha ⟨G', L', q1, q2, q3⟩ => k v G' L' q1 q3 a w ha q2)
theorem WL.call {op : Op} {f : FuncId} {args args' : Array Value} {pre : Mem → Prop} {post : Mem → Value → Prop} (hg : guardOK ops fr ⟨dst, op, ty, pos, af, g⟩ true) (hd : dstOK N dst) (h : YC P N ⟨dst, op, ty, pos, af, g⟩ fr (St w0 G0 G L) f args')
    (sp : Ctr P f args pre post) (e : args' = args) (hp : pre G) (k : ∀ v G', Mem.le G G' → post G' v → WL P N ops Q l (putFr dst v fr) (St w0 G0 G' L)) : WL P N ops Q (⟨dst, op, ty, pos, af, g⟩ :: l) fr (St w0 G0 G L) :=
  WL.yr hg (h.yr sp e hp) hd (fun v a w ha ⟨G', h1, h2, h3⟩ => k v G' h1 h3 a w ha h2)
/-- A call whose contract says the very value, and whose new memory is of no account. -/
theorem YC.y0 {o : Oper} {f : FuncId} {args args' : Array Value} {pre : Mem → Prop} {c : Value} (h : YC P N o fr (St w0 G0 G L) f args') (sp : Ctr P f args pre (fun _ r => r = c)) (e : args' = args) (hp : pre G) :
    YR P N o fr (St w0 G0 G L) (fun v w' => v = c ∧ St w0 G0 G L w') := fun a w ha hs => (h.yr sp e hp a w ha hs).mono fun _ _ ⟨_, h1, h2, h3⟩ => ⟨h3, h2.memLe hs.base h1⟩
theorem WL.call0 {op : Op} {f : FuncId} {args args' : Array Value} {pre : Mem → Prop} {c : Value} (hg : guardOK ops fr ⟨dst, op, ty, pos, af, g⟩ true) (hd : dstOK N dst) (h : YC P N ⟨dst, op, ty, pos, af, g⟩ fr (St w0 G0 G L) f args')
    (sp : Ctr P f args pre (fun _ r => r = c)) (e : args' = args) (hp : pre G) (k : WL P N ops Q l (putFr dst c fr) (St w0 G0 G L)) : WL P N ops Q (⟨dst, op, ty, pos, af, g⟩ :: l) fr (St w0 G0 G L) :=
  WL.yr hg (h.y0 sp e hp) hd (fun v a w ha ⟨h1, h2⟩ => by subst h1; exact k a w ha h2)

/-! ### Premises of a chain -/
theorem StX.ext {g : Gx} {G' : Mem} {w w' : World} (h : StX w0 G0 g L w) (e : Ext w g.m [] w' G' []) : StX w0 G0 ⟨G', g.x⟩ L w' where
  st := h.st.ext e (Lo.sub_nil _) (fun _ _ h => h) (fun _ _ _ => rfl) (fun i x y hi => by simp [Lo.get] at hi) (fun _ _ h => .inr h)
  own := fun b i o hb => by
    obtain ⟨h1, h2, h3, h4⟩ := h.own b i o hb
    have hlt : b < w.heap.size := (Array.getElem?_eq_some_iff.1 h1).1
    refine ⟨by rw [e.block b hlt (fun _ _ h => by simp [Lo.get] at h)]; exact h1, h2, fun k => ?_, h4⟩
    cases hk : G' b k with
    | none => exact hk
    | some v =>
      rcases e.fresh b k v hk with hh | hh | hh
      · rw [h3 k] at hh; cases hh
      · omega
      · exact (Lo.own_nil hh).elim
theorem YC.yrX {o : Oper} {F : Fr} {g : Gx} {f : FuncId} {args args' : Array Value} {pre : Mem → Prop} {post : Mem → Value → Prop} (h : YC P N o F (StX w0 G0 g L) f args') (sp : Ctr P f args pre post) (e : args' = args) (hp : pre g.m) :
    YR P N o F (StX w0 G0 g L) (fun v w' => ∃ g' : Gx, Gx.le g g' ∧ StX w0 G0 g' L w' ∧ post g'.m v) := fun a w ha hs => by
  rw [h a w ha hs]
  subst e
  exact (sp w g.m (hs.st.hp (Lo.sub_nil _)) hp).mono fun e' w' ⟨r, G', L', q1, q2, q3⟩ => ⟨r, q1, ⟨G', g.x⟩, ⟨q2.le, fun _ _ h => h⟩, hs.ext q2.nil, q3⟩
theorem YC.y0X {o : Oper} {F : Fr} {g : Gx} {f : FuncId} {args args' : Array Value} {pre : Mem → Prop} {c : Value} (h : YC P N o F (StX w0 G0 g L) f args') (sp : Ctr P f args pre (fun _ r => r = c)) (e : args' = args) (hp : pre g.m) :
    YR P N o F (StX w0 G0 g L) (fun v w' => ∃ g' : Gx, Gx.le g g' ∧ StX w0 G0 g' L w' ∧ v = c) := h.yrX sp e hp
theorem OpOK.y0 {F : Fr} {G' : Gx} {o : Oper} {c : Value} (hg : guardOK ops F o true) (h : Y0 P N o F (St w0 G0 G'.m L) c) : OpOK P N w0 G0 L ops F G' o (fun v _ => v = c) :=
  .inr ⟨hg, fun a w ha hs => by rw [h a w ha hs.st]; exact ⟨G', Gx.le_refl _, hs, rfl⟩⟩
theorem OpOK.call0 {F : Fr} {G' : Gx} {o : Oper} {f : FuncId} {args args' : Array Value} {pre : Mem → Prop} {c : Value} (hg : guardOK ops F o true) (h : YC P N o F (StX w0 G0 G' L) f args') (sp : Ctr P f args pre (fun _ r => r = c)) (e : args' = args) (hp : pre G'.m) :
    OpOK P N w0 G0 L ops F G' o (fun v _ => v = c) := .inr ⟨hg, h.y0X sp e hp⟩
theorem OpOK.call {F : Fr} {G' : Gx} {o : Oper} {f : FuncId} {args args' : Array Value} {pre : Mem → Prop} {post : Mem → Value → Prop} (hg : guardOK ops F o true) (h : YC P N o F (StX w0 G0 G' L) f args') (sp : Ctr P f args pre post) (e : args' = args) (hp : pre G'.m) :
    OpOK P N w0 G0 L ops F G' o (fun v G'' => post G''.m v) := .inr ⟨hg, h.yrX sp e hp⟩
theorem OpOK.skip {F : Fr} {G' : Gx} {o : Oper} (hg : guardOK ops F o false) : OpOK P N w0 G0 L ops F G' o (fun v _ => v = undef) := .inl ⟨hg, rfl⟩
/-- A block that an operation laid. -/
def Laid (d : Nat) (ob : Obj) : Value → Gx → Prop := fun v g => ∃ b, v = .pointer (some ⟨b, 0, none⟩) ∧ g.x b = some (d, ob)
theorem Laid.mono {d : Nat} {ob : Obj} (v : Value) (g g' : Gx) (h : Gx.le g g') : Laid d ob v g → Laid d ob v g' := fun ⟨b, h1, h2⟩ => ⟨b, h1, h.2 _ _ h2⟩
theorem OpOK.laid {F : Fr} {G' : Gx} {o : Oper} (d : Nat) (ob : Obj) (hg : guardOK ops F o true) (h : ∀ a w, Rel N F a → (execOp a.eval o).run P w = .ok (.value (.pointer (some ⟨w.heap.size, 0, none⟩))) (w.alloc ob)) : OpOK P N w0 G0 L ops F G' o (Laid d ob) :=
  .inr ⟨hg, fun a w ha hs => by
    rw [h a w ha]
    refine ⟨⟨G'.m, fun b => if b = w.heap.size then some (d, ob) else G'.x b⟩, ⟨Mem.le_refl _, fun b y hb => ?_⟩, ⟨?_, fun b i o' hb => ?_⟩, w.heap.size, rfl, by simp⟩
    · obtain ⟨i, o'⟩ := y
      have hlt : b < w.heap.size := (Array.getElem?_eq_some_iff.1 (hs.own b i o' hb).1).1
      simp only [if_neg (show b ≠ w.heap.size by omega)]
      exact hb
    · have hnm : ∀ (L : Lo) (n : Nat), ∃ K, n ≤ K ∧ L.get K = none := by
        intro L
        induction L with
        | nil => intro n; exact ⟨n, Nat.le_refl _, rfl⟩
        | cons p L ih =>
          intro n
          obtain ⟨K, h1, h2⟩ := ih (max n (p.1 + 1))
          refine ⟨K, by omega, ?_⟩
          rw [Lo.get_cons, if_neg (by omega)]
          exact h2
      obtain ⟨K, _, hK⟩ := hnm L 0
      refine (hs.st.push K ob).weaken fun i x hx => ?_
      rw [Lo.get_cons, if_neg (fun e => by subst e; rw [hK] at hx; cases hx)]
      exact hx
    · have hsz := hs.st.size
      dsimp only at hb
      split at hb
      · rename_i e
        cases hb
        subst e
        refine ⟨by unfold World.alloc; rw [Array.getElem?_push, if_pos rfl], hsz, fun k => ?_, fun j y hj => ?_⟩
        · cases hk : G'.m w.heap.size k with
          | none => rfl
          | some v =>
            have := hs.st.imm _ _ _ hk
            simp [World.cell?] at this
        · have := (Array.getElem?_eq_some_iff.1 (hs.st.loc j y hj).1).1
          omega
      · obtain ⟨h1, h2, h3, h4⟩ := hs.own b i o' hb
        have hlt : b < w.heap.size := (Array.getElem?_eq_some_iff.1 h1).1
        refine ⟨?_, h2, h3, h4⟩
        simp only [World.alloc, Array.getElem?_push, if_neg (show b ≠ w.heap.size by omega)]
        exact h1⟩
/-- A block that the region laid becomes one of the call's own. -/
theorem StX.adopt {g : Gx} {w : World} {d b : Nat} {ob : Obj} (h : StX w0 G0 g L w) (hb : g.x b = some (d, ob)) : StX w0 G0 ⟨g.m, fun k => if k = b then none else g.x k⟩ ((d, some ⟨b, ob, 0⟩) :: L) w := by
  obtain ⟨h1, h2, h3, h4⟩ := h.own b d ob hb
  have hs := h.st
  refine ⟨⟨hs.os, hs.tape, hs.output, hs.drawn, hs.size, hs.block, hs.base, hs.imm, hs.fresh, fun j y hj => ?_, fun j k y z hne e1 e2 => ?_⟩, fun b' i o' hb' => ?_⟩
  · rw [Lo.get_cons] at hj
    split at hj
    · cases hj
      exact ⟨h1, .inr h2, fun k _ => h3 k⟩
    · exact hs.loc j y hj
  · rw [Lo.get_cons] at e1 e2
    split at e1
    · cases e1
      split at e2
      · omega
      · exact fun e => h4 k z e2 e.symm
    · split at e2
      · cases e2
        exact h4 j y e1
      · exact hs.dist j k _ _ hne e1 e2
  · dsimp only at hb'
    split at hb'
    · cases hb'
    · rename_i hne
      obtain ⟨k1, k2, k3, k4⟩ := h.own b' i o' hb'
      refine ⟨k1, k2, k3, fun j y hj => ?_⟩
      rw [Lo.get_cons] at hj
      split at hj
      · cases hj; exact fun e => hne e.symm
      · exact k4 j y hj

section
variable {fs : List Bool} {r : List Oper} {det : Fr} {und : Und} {o : Oper}
theorem Chain.cdet {c : Value} (h : ∀ u G', Gx.le (Gx.of G) G' → undLook ops o und u G' → OpOK P N w0 G0 L ops (undFr und u ++ (det ++ fr)) G' o (fun v _ => v = c)) (k : Chain P N Q fr w0 G0 G L ops fs r (putFr o.dst c det) und) :
    Chain P N Q fr w0 G0 G L ops (false :: fs) (o :: r) det und := .inl ⟨c, h, k⟩
theorem Chain.cund (d : Nat) (φ : Value → Gx → Prop) (hd : o.dst = some d) (hm : ∀ v G₁ G₂, Gx.le G₁ G₂ → φ v G₁ → φ v G₂)
    (h : ∀ u G', Gx.le (Gx.of G) G' → undLook ops o und u G' → OpOK P N w0 G0 L ops (undFr und u ++ (det ++ fr)) G' o φ) (k : Chain P N Q fr w0 G0 G L ops fs r det ((d, φ) :: und)) :
    Chain P N Q fr w0 G0 G L ops (false :: fs) (o :: r) det und := .inr ⟨d, φ, hd, hm, h, k⟩
theorem Chain.tail (k : ∀ u G', Gx.le (Gx.of G) G' → undAll und u G' → WL P N ops (NX Q) r (undFr und u ++ (det ++ fr)) (StX w0 G0 G' L)) : Chain P N Q fr w0 G0 G L ops [] r det und := k
/-- Where all values are determined the new memory is of no account. -/
theorem Chain.tail0 (hb : Mem.le G0 G) (k : WL P N ops (NX Q) r (det ++ fr) (St w0 G0 G L)) : Chain P N Q fr w0 G0 G L ops [] r det [] := fun _ _ hle _ a w ha hs => k a w ha (hs.st.memLe hb hle.1)
/-- .. where one block was laid. -/
theorem Chain.tail1 {d : Nat} {ob : Obj} (hb : Mem.le G0 G) (k : ∀ b, WL P N ops (NX Q) r ((d, .pointer (some ⟨b, 0, none⟩)) :: (det ++ fr)) (St w0 G0 G ((d, some ⟨b, ob, 0⟩) :: L))) : Chain P N Q fr w0 G0 G L ops [] r det [(d, Laid d ob)] := fun u g hle hu a w ha hs => by
  obtain ⟨b, h1, h2⟩ := hu.1
  refine k b a w ?_ ((hs.adopt h2).st.memLe hb hle.1)
  have : undFr [(d, Laid d ob)] u = [(d, .pointer (some ⟨b, 0, none⟩))] := by simp [undFr, h1]
  rw [this] at ha
  exact ha
/-- .. where two blocks were laid. -/
theorem Chain.tail2 {d d' : Nat} {ob ob' : Obj} (hb : Mem.le G0 G) (hne : Nat.beq d d' = false) (k : ∀ b b', WL P N ops (NX Q) r ((d, .pointer (some ⟨b, 0, none⟩)) :: (d', .pointer (some ⟨b', 0, none⟩)) :: (det ++ fr)) (St w0 G0 G ((d, some ⟨b, ob, 0⟩) :: (d', some ⟨b', ob', 0⟩) :: L))) : Chain P N Q fr w0 G0 G L ops [] r det [(d, Laid d ob), (d', Laid d' ob')] := fun u g hle hu a w ha hs => by
  obtain ⟨b, h1, h2⟩ := hu.1
  obtain ⟨b', h1', h2'⟩ := hu.2.1
  have hbb : b ≠ b' := fun e => by subst e; rw [h2] at h2'; simp only [Option.some.injEq, Prod.mk.injEq] at h2'; rw [h2'.1] at hne; simp at hne
  refine k b b' a w ?_ (((hs.adopt h2').adopt (d := d) (b := b) (ob := ob) (by simp only [if_neg hbb]; exact h2)).st.memLe hb hle.1)
  have : undFr [(d, Laid d ob), (d', Laid d' ob')] u = [(d, .pointer (some ⟨b, 0, none⟩)), (d', .pointer (some ⟨b', 0, none⟩))] := by simp [undFr, h1, h1']
  rw [this] at ha
  exact ha
/-- The premise of an operation that yields its value in whatever memory. -/
theorem Chain.y0 {c : Value} (hg : guardOK ops (det ++ fr) o true) (h : ∀ G', Mem.le G G' → Y0 P N o (det ++ fr) (St w0 G0 G' L) c) (k : Chain P N Q fr w0 G0 G L ops fs r (putFr o.dst c det) []) :
    Chain P N Q fr w0 G0 G L ops (false :: fs) (o :: r) det [] := .inl ⟨c, fun _ G' hle _ => OpOK.y0 hg (h G'.m hle.1), k⟩
/-- An operation that floats: it looks at no memory. -/
theorem Chain.float {c : Value} (hg : guardOK ops (det ++ fr) o true) (h : Y0 P N o (det ++ fr) (fun _ => True) c) (k : Chain P N Q fr w0 G0 G L ops fs r (putFr o.dst c det) []) :
    Chain P N Q fr w0 G0 G L ops (true :: fs) (o :: r) det [] := ⟨c, fun _ => ⟨hg, h⟩, k⟩
theorem Chain.call0 {f : FuncId} {args args' : Array Value} {pre : Mem → Prop} {c : Value} (hg : guardOK ops (det ++ fr) o true) (h : ∀ S, YC P N o (det ++ fr) S f args') (sp : Ctr P f args pre (fun _ r => r = c)) (e : args' = args) (hp : ∀ G', Mem.le G G' → pre G')
    (k : Chain P N Q fr w0 G0 G L ops fs r (putFr o.dst c det) []) : Chain P N Q fr w0 G0 G L ops (false :: fs) (o :: r) det [] := .inl ⟨c, fun _ G' hle _ => OpOK.call0 hg (h _) sp e (hp G'.m hle.1), k⟩
theorem Chain.skip (hg : guardOK ops (det ++ fr) o false) (k : Chain P N Q fr w0 G0 G L ops fs r (putFr o.dst undef det) []) : Chain P N Q fr w0 G0 G L ops (false :: fs) (o :: r) det [] := .inl ⟨undef, fun _ _ _ _ => OpOK.skip hg, k⟩
theorem Chain.alloc {t : TypeId} {z : Value} {d : Nat} (hg : ∀ u, guardOK ops (undFr und u ++ (det ++ fr)) ⟨some d, .alloc t, ty, pos, af, g⟩ true) (hz : (P.info? t).map (·.zero) = some (some z))
    (k : Chain P N Q fr w0 G0 G L ops fs r det ((d, Laid d (.cells z.cells t (0, 0))) :: und)) : Chain P N Q fr w0 G0 G L ops (false :: fs) (⟨some d, .alloc t, ty, pos, af, g⟩ :: r) det und :=
  Chain.cund d _ rfl (fun v _ _ h => Laid.mono v _ _ h) (fun u _ _ _ => OpOK.laid d _ (hg u) (fun a w _ => run_alloc hz a w)) k
end
end

/-! ### Entry and return -/
def argFr : List Value → Nat → Fr
  | [], _ => []
  | v :: r, k => (k, v) :: argFr r (k + 1)
theorem argFr_get : ∀ (l : List Value) (k t : Nat) (v : Value), Fr.get (argFr l k) t = some v → k ≤ t ∧ l[t - k]? = some v
  | [], k, t, v, h => by simp [argFr, Fr.get] at h
  | x :: r, k, t, v, h => by
    simp only [argFr] at h
    rw [Fr.get_cons] at h
    split at h
    · rename_i e
      subst e
      simpa using h
    · have := argFr_get r (k + 1) t v h
      refine ⟨by omega, ?_⟩
      rw [show t - k = (t - (k + 1)) + 1 by omega]
      simpa using this.2

section
variable {P : Program} {fn : Func} {fr : Fr} {w0 : Bs} {G0 G : Mem} {L : Lo} {N : Nat}
theorem CtrL.enter {f : FuncId} {c : Code} {args : List Value} {L0 : Lo} {pre : Mem → Prop} {post : Mem → Lo → Value → Prop} (hf : P.funcs[f]? = some fn) (hb : fn.body = some c) (hN : fn.ntmps = N) (ha : Nat.ble args.length N = true)
    (h : ∀ w0 G0, w0.L = L0 → pre G0 → WC P N c (bodyPost P fn (RetL w0 G0 post)) (argFr args 0) (St w0 G0 G0 L0)) : CtrL P f args.toArray L0 pre post := by
  intro w G hi hp
  refine calls_of_wp hf hb (h ⟨w, L0⟩ G rfl hp _ w ⟨rfl, ?_, fun t v hv => ?_⟩ ⟨rfl, rfl, rfl, Nat.le_refl _, Nat.le_refl _, fun _ _ _ => rfl, Mem.le_refl _, hi.imm, fun _ _ _ h => .inl h, fun i x hh => ⟨(hi.loc i x hh).1, .inl ⟨x, hh, rfl⟩, (hi.loc i x hh).2⟩, hi.dist⟩)
  · have := Nat.le_of_ble_eq_true ha
    simp only [Array.size_append, List.size_toArray, Array.size_replicate]
    omega
  · obtain ⟨_, h2⟩ := argFr_get args 0 t v hv
    simp only [Nat.sub_zero] at h2
    have hlt := (List.getElem?_eq_some_iff.1 h2).1
    rw [Array.getElem?_append_left (by simpa using hlt)]
    simpa using h2
theorem Ctr.enter {f : FuncId} {c : Code} {args : List Value} {pre : Mem → Prop} {post : Mem → Value → Prop} (hf : P.funcs[f]? = some fn) (hb : fn.body = some c) (hN : fn.ntmps = N) (ha : Nat.ble args.length N = true)
    (h : ∀ w0 G0, w0.L = [] → pre G0 → WC P N c (bodyPost P fn (RetTo w0 G0 post)) (argFr args 0) (St w0 G0 G0 [])) : Ctr P f args.toArray pre post := CtrL.enter hf hb hN ha h

/-- What a result variable holds. -/
def RV (P : Program) (fr : Fr) (L : Lo) : ResultVar → Value → Prop
  | .tmp t, v => fr.get t = some v
  | .cell t ty, v => ∃ i b c t' m, fr.get t = some (.pointer (some ⟨b, 0, none⟩)) ∧ L.get i = some ⟨b, .cells c t' (0, 0), m⟩ ∧ ((∃ n, AggT P ty n ∧ c.size = n ∧ v = .agg c) ∨ (ScalT P ty ∧ c[0]? = some v))
theorem RV.cellA {t ty t' i b n m : Nat} {c : Array Value} (ht : AggT P ty n) (h1 : fr.get t = some (.pointer (some ⟨b, 0, none⟩))) (h2 : L.get i = some ⟨b, .cells c t' (0, 0), m⟩) (hn : c.size = n) : RV P fr L (.cell t ty) (.agg c) :=
  ⟨i, b, c, t', m, h1, h2, .inl ⟨n, ht, hn, rfl⟩⟩
theorem RV.cellS {t ty t' i b m : Nat} {c : Array Value} {v : Value} (ht : ScalT P ty) (h1 : fr.get t = some (.pointer (some ⟨b, 0, none⟩))) (h2 : L.get i = some ⟨b, .cells c t' (0, 0), m⟩) (hv : c[0]? = some v) : RV P fr L (.cell t ty) v :=
  ⟨i, b, c, t', m, h1, h2, .inr ⟨ht, hv⟩⟩
def rvRun (tmps : Array Value) : ResultVar → Sem Value
  | .tmp t => pure (tmps.getD t undef)
  | .cell a t => do loadVar t (← asAddr (tmps.getD a undef))
theorem RV.run {rv : ResultVar} {v : Value} {a : Act} {w : World} (h : RV P fr L rv v) (ha : Rel N fr a) (hs : St w0 G0 G L w) : (rvRun a.tmps rv).run P w = .ok v w := by
  cases rv with
  | tmp t => simp [rvRun, ha.here t v h]
  | cell t ty =>
    obtain ⟨i, b, c, t', m, h1, h2, h3⟩ := h
    have hb := (hs.loc i _ h2).1
    have h0 : a.tmps.getD t undef = .pointer (some ⟨b, 0, none⟩) := by simp [ha.here t _ h1]
    rcases h3 with ⟨n, h4, h5, rfl⟩ | ⟨h4, h5⟩
    · have := run_loadVar_list (P := P) (w := w) (b := b) (off := 0) (vs := c.toList) h4 (by simpa using h5) (fun j v hj => by
        rw [cell_of_row w b (0 + j) c t' (0, 0) hb]
        simpa using hj)
      simp only [rvRun, h0, asAddr]
      simpa using this
    · have hc := cell_of_row w b 0 c t' (0, 0) hb
      rw [h5] at hc
      have := run_loadVar_scal (P := P) h4 hc
      simp only [rvRun, h0, asAddr]
      simpa using this
theorem results_eq (fn : Func) (tmps : Array Value) : results fn tmps = (do let vs ← fn.results.mapM (rvRun tmps); pure (if h : vs.size = 1 then vs[0] else .tuple vs)) := by
  unfold results
  congr 2
theorem run_results {rvs : List ResultVar} {vs : List Value} {a : Act} {w : World} (hr : fn.results = rvs.toArray) (hl : rvs.length = vs.length) (h : ∀ (i : Nat) (rv : ResultVar) (v : Value), rvs[i]? = some rv → vs[i]? = some v → (rvRun a.tmps rv).run P w = .ok v w) :
    (results fn a.tmps).run P w = .ok (if h : vs.toArray.size = 1 then vs.toArray[0] else .tuple vs.toArray) w := by
  have key : ∀ (rvs : List ResultVar) (vs : List Value), rvs.length = vs.length → (∀ (i : Nat) (rv : ResultVar) (v : Value), rvs[i]? = some rv → vs[i]? = some v → (rvRun a.tmps rv).run P w = .ok v w) → (rvs.mapM (rvRun a.tmps)).run P w = .ok vs w := by
    intro rvs
    induction rvs with
    | nil => intro vs hl _; cases vs with | nil => simp | cons => simp at hl
    | cons rv rvs ih =>
      intro vs hl h
      cases vs with
      | nil => simp at hl
      | cons v vs =>
        have h0 := h 0 rv v rfl rfl
        have h1 := ih vs (by simpa using hl) (fun i rv' v' e1 e2 => h (i + 1) rv' v' (by simpa using e1) (by simpa using e2))
        simp [List.mapM_cons, h0, h1]
  rw [results_eq, hr]
  have hm := key rvs vs hl h
  rw [List.mapM_toArray]
  simp [hm]

theorem WE.ret {rvs : List ResultVar} {post : Mem → Lo → Value → Prop} (vs : List Value) (hr : fn.results = rvs.toArray) (hl : rvs.length = vs.length) (h : ∀ (i : Nat) (rv : ResultVar) (v : Value), rvs[i]? = some rv → vs[i]? = some v → RV P fr L rv v)
    (hp : post G L (if h : vs.toArray.size = 1 then vs.toArray[0] else .tuple vs.toArray)) : WE N (bodyPost P fn (RetL w0 G0 post)) .ret fr (St w0 G0 G L) := fun a w ha hs =>
  ⟨ha.defers, _, run_results hr hl (fun i rv v e1 e2 => (h i rv v e1 e2).run ha hs), _, G, L, rfl, ⟨hs.os, hs.tape, hs.output, hs.drawn, hs.size, hs.block, hs.base, hs.imm, hs.fresh, hs.loc, hs.dist⟩, hp⟩
theorem WE.retN {post : Mem → Lo → Value → Prop} (h : WE N (bodyPost P fn (RetL w0 G0 post)) .ret fr (St w0 G0 G L)) : WE N (bodyPost P fn (RetL w0 G0 post)) .normal fr (St w0 G0 G L) := h
theorem WE.ret1 {r1 : ResultVar} {v1 : Value} {post : Mem → Lo → Value → Prop} (hr : fn.results = #[r1]) (h1 : RV P fr L r1 v1) (hp : post G L v1) : WE N (bodyPost P fn (RetL w0 G0 post)) .ret fr (St w0 G0 G L) :=
  WE.ret (rvs := [r1]) [v1] hr rfl (fun i rv v e1 e2 => by
    match i with
    | 0 => simp at e1 e2; subst e1 e2; exact h1
    | i + 1 => simp at e1) hp
theorem WE.ret2 {r1 r2 : ResultVar} {v1 v2 : Value} {post : Mem → Lo → Value → Prop} (hr : fn.results = #[r1, r2]) (h1 : RV P fr L r1 v1) (h2 : RV P fr L r2 v2) (hp : post G L (.tuple #[v1, v2])) : WE N (bodyPost P fn (RetL w0 G0 post)) .ret fr (St w0 G0 G L) :=
  WE.ret (rvs := [r1, r2]) [v1, v2] hr rfl (fun i rv v e1 e2 => by
    match i with
    | 0 => simp at e1 e2; subst e1 e2; exact h1
    | 1 => simp at e1 e2; subst e1 e2; exact h2
    | i + 2 => simp at e1) hp
theorem WE.ret3 {r1 r2 r3 : ResultVar} {v1 v2 v3 : Value} {post : Mem → Lo → Value → Prop} (hr : fn.results = #[r1, r2, r3]) (h1 : RV P fr L r1 v1) (h2 : RV P fr L r2 v2) (h3 : RV P fr L r3 v3) (hp : post G L (.tuple #[v1, v2, v3])) :
    WE N (bodyPost P fn (RetL w0 G0 post)) .ret fr (St w0 G0 G L) :=
  WE.ret (rvs := [r1, r2, r3]) [v1, v2, v3] hr rfl (fun i rv v e1 e2 => by
    match i with
    | 0 => simp at e1 e2; subst e1 e2; exact h1
    | 1 => simp at e1 e2; subst e1 e2; exact h2
    | 2 => simp at e1 e2; subst e1 e2; exact h3
    | i + 3 => simp at e1) hp
theorem WE.ret0 {post : Mem → Lo → Value → Prop} (hr : fn.results = #[]) (hp : post G L (.tuple #[])) : WE N (bodyPost P fn (RetL w0 G0 post)) .ret fr (St w0 G0 G L) :=
  WE.ret (rvs := []) [] hr rfl (fun i rv v e1 e2 => by simp at e1) hp
end
end Go.EL
/- More rules: cases, spellings. No condition. -/
namespace Go.EL
open Go Go.RowKit Go.Proofs

section
variable {P : Program} {N : Nat} {Q : Post} {fr : Fr} {S : Asrt} {ops : Array Oper} {l : List Oper} {dst : Option Nat} {ty : TypeId} {pos : String} {af : Array Edge} {g : Option (Nat × Bool)}
variable {w0 : Bs} {G0 G : Mem} {L : Lo}

theorem WL.caseY0 {op : Op} {p : Prop} [Decidable p] (hg : guardOK ops fr ⟨dst, op, ty, pos, af, g⟩ true) (h : Y0 P N ⟨dst, op, ty, pos, af, g⟩ fr S (.bool (decide p))) (hd : dstOK N dst)
    (kt : p → WL P N ops Q l (putFr dst (.bool true) fr) S) (kf : ¬ p → WL P N ops Q l (putFr dst (.bool false) fr) S) : WL P N ops Q (⟨dst, op, ty, pos, af, g⟩ :: l) fr S := by
  by_cases hp : p
  · exact WL.y0' hg (h.eq (congrArg Value.bool (decide_eq_true hp))) hd (kt hp)
  · exact WL.y0' hg (h.eq (congrArg Value.bool (decide_eq_false hp))) hd (kf hp)
theorem Chain.caseY0 {fs : List Bool} {r : List Oper} {det : Fr} {o : Oper} {p : Prop} [Decidable p] (hg : guardOK ops (det ++ fr) o true) (h : ∀ G', Mem.le G G' → Y0 P N o (det ++ fr) (St w0 G0 G' L) (.bool (decide p)))
    (kt : p → Chain P N Q fr w0 G0 G L ops fs r (putFr o.dst (.bool true) det) []) (kf : ¬ p → Chain P N Q fr w0 G0 G L ops fs r (putFr o.dst (.bool false) det) []) : Chain P N Q fr w0 G0 G L ops (false :: fs) (o :: r) det [] := by
  by_cases hp : p
  · exact Chain.y0 hg (fun G' hle => (h G' hle).eq (congrArg Value.bool (decide_eq_true hp))) (kt hp)
  · exact Chain.y0 hg (fun G' hle => (h G' hle).eq (congrArg Value.bool (decide_eq_false hp))) (kf hp)

theorem Y0.notD {t : TypeId} {x : Operand} {p : Prop} [Decidable p] (hx : fr.ev x = some (.bool (decide p))) : Y0 P N ⟨dst, .unOp .not t x, ty, pos, af, g⟩ fr S (.bool (decide (¬ p))) :=
  (Y0.not hx).eq (by by_cases h : p <;> simp [h])
theorem Y0.convI {s d : TypeId} {x : Operand} {ds : TypeDesc} {k : IntKind} {n : Int} (hs : P.underlying s = some ds) (hd : P.underlying d = some (.int .i64)) (hx : fr.ev x = some (.int k n)) (hb : -9223372036854775808 ≤ n ∧ n ≤ 9223372036854775807) :
    Y0 P N ⟨dst, .convert s d x, ty, pos, af, g⟩ fr S (.int .i64 n) := (Y0.conv hs hd hx).eq (by rw [IntWalk.i64_in _ hb])
/-- The address of an element of one cell of an array at its block's head; the index a natural number. -/
theorem Y0.idxArr1 {t e : TypeId} {x y : Operand} {len b i : Nat} {k : IntKind} (ht : P.underlying t = some (.array len e)) (hsz : (P.info? e).map (·.size) = some 1)
    (hx : fr.ev x = some (.pointer (some ⟨b, 0, none⟩))) (hy : fr.ev y = some (.int k (i : Int))) (hi : i < len) : Y0 P N ⟨dst, .indexAddr t x y, ty, pos, af, g⟩ fr S (.pointer (some ⟨b, i, none⟩)) :=
  (Y0.idxArr ht hsz hx hy (by omega)).eq (by simp)
theorem Y0.idxSlN {t e : TypeId} {x y : Operand} {len cap b off sz i : Nat} {k : IntKind} (ht : P.underlying t = some (.slice e)) (hsz : (P.info? e).map (·.size) = some sz)
    (hx : fr.ev x = some (.slice (some ⟨b, off, none⟩) len cap)) (hy : fr.ev y = some (.int k (i : Int))) (hi : i < len) : Y0 P N ⟨dst, .indexAddr t x y, ty, pos, af, g⟩ fr S (.pointer (some ⟨b, off + i * sz, none⟩)) :=
  (Y0.idxSl ht hsz hx hy (by omega)).eq (by simp)

/-- Where ways meet: a ghost state. -/
def Mid {X : Type} (N : Nat) (F : X → Fr) (I : X → Asrt) : Act → World → Prop := fun a w => ∃ x, Rel N (F x) a ∧ I x w
theorem WC.seqC {X : Type} {x y : Code} (F : X → Fr) (I : X → Asrt) (h1 : WC P N x (Exit.then (Mid N F I) Q) fr S) (h2 : ∀ x, WC P N y Q (F x) (I x)) : WC P N (.seq x y) Q fr S :=
  fun a w ha hs => wp_seq (Code.wp_mono (fun e a' w' hq => by
    cases e <;> first | exact hq | (obtain ⟨x', q1, q2⟩ := hq; exact h2 x' a' w' q1 q2)) (h1 a w ha hs))
theorem WE.mid {X : Type} {F : X → Fr} {I : X → Asrt} (x : X) (hF : Fr.sub (F x) fr) (hI : ∀ w, S w → I x w) : WE N (Exit.then (Mid N F I) Q) .normal fr S := fun _ w ha hs => ⟨x, ha.weaken hF, hI w hs⟩
/-- A loop with a ghost state x: what is known of the frame, a plain fact, an assertion, a measure. -/
def BackH {X : Type} (N : Nat) (F : X → Fr) (H : X → Prop) (I : X → Asrt) (m : X → Nat) (x : X) : Act → World → Prop := fun a w => ∃ x', H x' ∧ Rel N (F x') a ∧ I x' w ∧ m x' < m x
theorem WC.loopH {c : Code} {X : Type} (F : X → Fr) (H : X → Prop) (I : X → Asrt) (m : X → Nat) (x₀ : X) (hF : Fr.sub (F x₀) fr) (hH : H x₀) (hI : ∀ w, S w → I x₀ w)
    (round : ∀ x, H x → WC P N c (Exit.then (BackH N F H I m x) Q) (F x) (I x)) : WC P N (.loop c) Q fr S :=
  WC.loop (fun x : { x : X // H x } => F x.1) (fun x => I x.1) (fun x => m x.1) ⟨x₀, hH⟩ hF hI fun x a w ha hs => Code.wp_mono (fun e a' w' hq => by
    cases e <;> first | exact hq | (obtain ⟨x', q1, q2, q3, q4⟩ := hq; exact ⟨⟨x', q1⟩, q2, q3, q4⟩)) (round x.1 x.2 a w ha hs)
theorem WE.backH {X : Type} {F : X → Fr} {H : X → Prop} {I : X → Asrt} {m : X → Nat} {x : X} (x' : X) (hH : H x') (hF : Fr.sub (F x') fr) (hI : ∀ w, S w → I x' w) (hm : m x' < m x) :
    WE N (Exit.then (BackH N F H I m x) Q) .normal fr S := fun _ w ha hs => ⟨x', hH, ha.weaken hF, hI w hs, hm⟩
/-- A fact on the known cells that the state itself gives. -/
theorem WC.base {c : Code} (h : Mem.le G0 G → WC P N c Q fr (St w0 G0 G L)) : WC P N c Q fr (St w0 G0 G L) := fun a w ha hs => h hs.base a w ha hs
theorem St.conseqL {L' : Lo} (hs : Lo.sub L' L) : ∀ w, St w0 G0 G L w → St w0 G0 G L' w := fun _ h => h.weaken hs
end
end Go.EL
/- Plain computations, and the rules that carry them through code: loops and places where ways meet. No condition. -/
namespace Go.EL
open Go

/-- A plain computation: what holds of all that it returns, for sure, and a way to run it. -/
structure Comp (α : Type) where
  wp : (α → Prop) → Prop
  mono : ∀ {p q : α → Prop}, (∀ a, p a → q a) → wp p → wp q
  ev : Nat → Option α
  sound : ∀ n a, ev n = some a → ∀ p : α → Prop, p a → wp p
/-- It surely returns this. -/
def Comp.Ret {α : Type} (c : Comp α) (r : α) : Prop := c.wp fun a => a = r
/-- How a round ends: the loop goes on, or it is left. -/
def Out {σ ρ : Type} (A : σ → Prop) (Φ : ρ → Prop) : σ ⊕ ρ → Prop
  | .inl s => A s
  | .inr r => Φ r
theorem Out.mono {σ ρ : Type} {A A' : σ → Prop} {Φ Φ' : ρ → Prop} (h : ∀ s, A s → A' s) (k : ∀ r, Φ r → Φ' r) : ∀ o, Out A Φ o → Out A' Φ' o
  | .inl s, x => h s x
  | .inr r, x => k r x

namespace Comp
variable {α β σ ρ : Type}
def ret (a : α) : Comp α := ⟨fun p => p a, fun h => h a, fun _ => some a, fun n b h p hp => by cases h; exact hp⟩
def fail : Comp α := ⟨fun _ => False, fun _ h => h, fun _ => none, fun _ _ h => by cases h⟩
/-- A call: what it returns is one thing. -/
def bind (c : Comp α) (k : α → Comp β) : Comp β :=
  ⟨fun p => ∃ a, c.Ret a ∧ (k a).wp p, fun h ⟨a, h1, h2⟩ => ⟨a, h1, (k a).mono h h2⟩, fun n => (c.ev n).bind fun a => (k a).ev n, fun n b h p hp => by
    cases hc : c.ev n with
    | none => rw [hc] at h; cases h
    | some a => rw [hc] at h; exact ⟨a, c.sound n a hc _ rfl, (k a).sound n b h p hp⟩⟩
/-- One after the other. -/
def next (c : Comp α) (k : α → Comp β) : Comp β :=
  ⟨fun p => c.wp fun a => (k a).wp p, fun h => c.mono fun a => (k a).mono h, fun n => (c.ev n).bind fun a => (k a).ev n, fun n b h p hp => by
    cases hc : c.ev n with
    | none => rw [hc] at h; cases h
    | some a => rw [hc] at h; exact c.sound n a hc _ ((k a).sound n b h p hp)⟩
/-- A condition without which the program stops. -/
def chk (p : Prop) [Decidable p] (c : Comp α) : Comp α := ⟨fun q => p ∧ c.wp q, fun h ⟨h1, h2⟩ => ⟨h1, c.mono h h2⟩, fun n => if p then c.ev n else none, fun n a h q hq => by
  by_cases hp : p
  · rw [if_pos hp] at h; exact ⟨hp, c.sound n a h q hq⟩
  · rw [if_neg hp] at h; cases h⟩
/-- A way for the slice that is nil, and one for all others. -/
def nilCase {β : Type} (l : List β) (c d : Comp α) : Comp α := ⟨fun p => (l = [] → c.wp p) ∧ d.wp p, fun h ⟨h1, h2⟩ => ⟨fun e => c.mono h (h1 e), d.mono h h2⟩, fun _ => none, fun _ _ h => by cases h⟩
/-- An element of a list. -/
def at' (l : List α) (i : Int) (k : α → Comp β) : Comp β := ⟨fun p => ∃ a, (0 ≤ i ∧ l[i.toNat]? = some a) ∧ (k a).wp p, fun h ⟨a, h1, h2⟩ => ⟨a, h1, (k a).mono h h2⟩,
  fun n => if 0 ≤ i then (l[i.toNat]?).bind fun a => (k a).ev n else none, fun n b h p hp => by
  by_cases hi : 0 ≤ i
  · rw [if_pos hi] at h
    cases hl : l[i.toNat]? with
    | none => rw [hl] at h; cases h
    | some a => rw [hl] at h; exact ⟨a, ⟨hi, rfl⟩, (k a).sound n b h p hp⟩
  · rw [if_neg hi] at h; cases h⟩
/-- Whatever of these comes. -/
def any (q : α → Prop) (k : α → Comp β) : Comp β := ⟨fun p => ∀ a, q a → (k a).wp p, fun h h1 a ha => (k a).mono h (h1 a ha), fun _ => none, fun _ _ h => by cases h⟩
def loopEv (step : σ → Comp (σ ⊕ ρ)) (n : Nat) : Nat → σ → Option ρ
  | 0, _ => none
  | k + 1, s => match (step s).ev n with
    | none => none
    | some (.inr r) => some r
    | some (.inl s') => loopEv step n k s'
theorem loopEv_sound (step : σ → Comp (σ ⊕ ρ)) (n : Nat) (p : ρ → Prop) : ∀ k s r, loopEv step n k s = some r → p r → ∀ A : σ → Prop, (∀ s, (step s).wp (Out A p) → A s) → A s
  | 0, _, _, h => by cases h
  | k + 1, s, r, h => by
    intro hp A hA
    simp only [loopEv] at h
    split at h
    · cases h
    · rename_i r' hr
      simp only [Option.some.injEq] at h
      subst h
      exact hA s ((step s).sound n _ hr _ hp)
    · rename_i s' hs
      exact hA s ((step s).sound n _ hs _ (loopEv_sound step n p k s' r h hp A hA))
/-- Rounds until it is left; it ends for sure. -/
def loop (step : σ → Comp (σ ⊕ ρ)) (s : σ) : Comp ρ := ⟨fun p => ∀ A : σ → Prop, (∀ s, (step s).wp (Out A p) → A s) → A s, fun h h1 A hA => h1 A fun s hs => hA s ((step s).mono (Out.mono (fun _ x => x) h) hs),
  fun n => loopEv step n n s, fun n a h p hp => loopEv_sound step n p n s a h hp⟩
theorem loop_fold {step : σ → Comp (σ ⊕ ρ)} {s : σ} {p : ρ → Prop} (h : (step s).wp (Out (fun s' => (loop step s').wp p) p)) : (loop step s).wp p :=
  fun A hA => hA s ((step s).mono (Out.mono (fun s' h' => h' A hA) (fun _ x => x)) h)
/-- A loop by an invariant and a measure. -/
theorem loop_inv {step : σ → Comp (σ ⊕ ρ)} {p : ρ → Prop} (I : σ → Prop) (m : σ → Nat) (h : ∀ s, I s → (step s).wp (Out (fun s' => I s' ∧ m s' < m s) p)) : ∀ s, I s → (loop step s).wp p := by
  have key : ∀ n s, m s = n → I s → (loop step s).wp p := by
    intro n
    induction n using Nat.strongRecOn with
    | _ n ih =>
      intro s hn hI
      exact loop_fold ((step s).mono (Out.mono (fun s' ⟨h1, h2⟩ => ih (m s') (by omega) s' rfl h1) (fun _ x => x)) (h s hI))
  exact fun s => key _ s rfl
theorem Ret.of_ev {c : Comp α} {a : α} (n : Nat) (h : c.ev n = some a) : c.Ret a := c.sound n a h _ rfl
theorem wp.pos {p : Prop} [Decidable p] {A B : Comp α} {q : α → Prop} (h : (if p then A else B).wp q) (hp : p) : A.wp q := by rwa [if_pos hp] at h
theorem wp.neg {p : Prop} [Decidable p] {A B : Comp α} {q : α → Prop} (h : (if p then A else B).wp q) (hp : ¬ p) : B.wp q := by rwa [if_neg hp] at h
theorem Ret.pos {p : Prop} [Decidable p] {A B : Comp α} {r : α} (h : (if p then A else B).Ret r) (hp : p) : A.Ret r := by rwa [if_pos hp] at h
theorem Ret.neg {p : Prop} [Decidable p] {A B : Comp α} {r : α} (h : (if p then A else B).Ret r) (hp : ¬ p) : B.Ret r := by rwa [if_neg hp] at h
theorem wp.yes {p : Prop} [Decidable p] {A B : Comp α} {q : α → Prop} (hp : p) (h : A.wp q) : (if p then A else B).wp q := by rwa [if_pos hp]
theorem wp.no {p : Prop} [Decidable p] {A B : Comp α} {q : α → Prop} (hp : ¬ p) (h : B.wp q) : (if p then A else B).wp q := by rwa [if_neg hp]
end Comp

section
variable {P : Program} {N : Nat} {Q : Post} {fr : Fr} {S : Asrt}
/-- The code of a loop, in the midst of it. -/
def LoopIn (P : Program) (c : Code) (Q : Post) (a : Act) (w : World) : Prop :=
  ∀ (b : Frame) (k : List Item) (cs : List Frame), ∃ e a' w', Q e a' w' ∧ Arrives P (lone (b.at a (.code c :: .inLoop c :: k)) cs w) b k cs e a' w'
theorem LoopIn.fold {c : Code} {a : Act} {w : World} (h : c.wp P (Exit.then (LoopIn P c Q) Q) a w) : LoopIn P c Q a w := by
  intro b k cs
  obtain ⟨e, a₁, w₁, hq, harr⟩ := h b (.inLoop c :: k) cs
  cases e with
  | normal =>
    obtain ⟨e₂, a₂, w₂, hq₂, harr₂⟩ := hq b k cs
    exact ⟨e₂, a₂, w₂, hq₂, .of_steps (Steps.trans harr (.one step_inLoop)) harr₂⟩
  | exit id => exact ⟨_, a₁, w₁, hq, .pass (x := .inLoop c) rfl (fun _ _ => .inl (by simp)) harr⟩
  | goto l => exact ⟨_, a₁, w₁, hq, .pass (x := .inLoop c) rfl (fun _ _ => .inl (by simp)) harr⟩
  | ret => exact ⟨_, a₁, w₁, hq, .pass (x := .inLoop c) rfl (fun _ _ => .inl (by simp)) harr⟩
  | panic ch => exact ⟨_, a₁, w₁, hq, .pass (x := .inLoop c) rfl (fun _ _ => .inl (by simp)) harr⟩
  | outgrown => exact ⟨_, a₁, w₁, hq, .pass (x := .inLoop c) rfl (fun _ _ => .inl (by simp)) harr⟩
theorem LoopIn.wp {c : Code} {a : Act} {w : World} (h : LoopIn P c Q a w) : (Code.loop c).wp P Q a w := by
  intro b k cs
  obtain ⟨e, a', w', hq, harr⟩ := h b k cs
  exact ⟨e, a', w', hq, .of_steps (.one step_loop) harr⟩

def BackR {X σ : Type} (N : Nat) (F : X → Fr) (H : X → Prop) (I : X → Asrt) (π : X → σ) (A : σ → Prop) : Act → World → Prop := fun a w => ∃ x', H x' ∧ A (π x') ∧ Rel N (F x') a ∧ I x' w
theorem WC.loopR {c : Code} {X σ ρ : Type} {step : σ → Comp (σ ⊕ ρ)} {Φ : ρ → Prop} (π : X → σ) (F : X → Fr) (H : X → Prop) (I : X → Asrt) (x₀ : X) (hl : (Comp.loop step (π x₀)).wp Φ) (hF : Fr.sub (F x₀) fr) (hH : H x₀) (hI : ∀ w, S w → I x₀ w)
    (round : ∀ (A : σ → Prop) x, H x → (step (π x)).wp (Out A Φ) → WC P N c (Exit.then (BackR N F H I π A) Q) (F x) (I x)) : WC P N (.loop c) Q fr S := by
  have key := hl (fun s => ∀ x, π x = s → H x → ∀ a w, Rel N (F x) a → I x w → LoopIn P c Q a w) (fun s hs x hx hH a w ha hI => by
    subst hx
    refine LoopIn.fold (Code.wp_mono (fun e a' w' hq => ?_) (round _ x hH hs a w ha hI))
    cases e <;> first | exact hq | skip
    obtain ⟨x', h1, h2, h3, h4⟩ := hq
    exact h2 x' rfl h1 a' w' h3 h4)
  exact fun a w ha hs => (key x₀ rfl hH a w (ha.weaken hF) (hI w hs)).wp
theorem WE.backR {X σ : Type} {F : X → Fr} {H : X → Prop} {I : X → Asrt} {π : X → σ} {A : σ → Prop} (x' : X) (hA : A (π x')) (hH : H x') (hF : Fr.sub (F x') fr) (hI : ∀ w, S w → I x' w) : WE N (Exit.then (BackR N F H I π A) Q) .normal fr S :=
  fun _ w ha hs => ⟨x', hH, hA, ha.weaken hF, hI w hs⟩

/-- Where ways meet: a ghost state and a plain fact. -/
def MidH {X : Type} (N : Nat) (F : X → Fr) (H : X → Prop) (I : X → Asrt) : Act → World → Prop := fun a w => ∃ x, H x ∧ Rel N (F x) a ∧ I x w
theorem WC.seqH {X : Type} {x y : Code} (F : X → Fr) (H : X → Prop) (I : X → Asrt) (h1 : WC P N x (Exit.then (MidH N F H I) Q) fr S) (h2 : ∀ x, H x → WC P N y Q (F x) (I x)) : WC P N (.seq x y) Q fr S :=
  fun a w ha hs => wp_seq (Code.wp_mono (fun e a' w' hq => by
    cases e <;> first | exact hq | (obtain ⟨x', q0, q1, q2⟩ := hq; exact h2 x' q0 a' w' q1 q2)) (h1 a w ha hs))
theorem WE.midH {X : Type} {F : X → Fr} {H : X → Prop} {I : X → Asrt} (x : X) (hH : H x) (hF : Fr.sub (F x) fr) (hI : ∀ w, S w → I x w) : WE N (Exit.then (MidH N F H I) Q) .normal fr S := fun _ w ha hs => ⟨x, hH, ha.weaken hF, hI w hs⟩
/-- The same at the end of a block. -/
def EndH {X : Type} (N : Nat) (F : X → Fr) (H : X → Prop) (I : X → Asrt) (Q : Post) : Post := fun e a w => match e with
  | .normal => ∃ x, H x ∧ Rel N (F x) a ∧ I x w
  | e => Q e a w
theorem WC.meetH {X : Type} {x : Code} (F : X → Fr) (H : X → Prop) (I : X → Asrt) (h1 : WC P N x (EndH N F H I Q) fr S) (h2 : ∀ x, H x → WE N Q .normal (F x) (I x)) : WC P N x Q fr S :=
  fun a w ha hs => Code.wp_mono (fun e a' w' hq => by
    cases e <;> first | exact hq | (obtain ⟨x', q0, q1, q2⟩ := hq; exact h2 x' q0 a' w' q1 q2)) (h1 a w ha hs)
theorem WE.endH {X : Type} {F : X → Fr} {H : X → Prop} {I : X → Asrt} (x : X) (hH : H x) (hF : Fr.sub (F x) fr) (hI : ∀ w, S w → I x w) : WE N (EndH N F H I Q) .normal fr S := fun _ w ha hs => ⟨x, hH, ha.weaken hF, hI w hs⟩
theorem WE.endRet {X : Type} {F : X → Fr} {H : X → Prop} {I : X → Asrt} (h : WE N Q .ret fr S) : WE N (EndH N F H I Q) .ret fr S := h
theorem WE.endExit {X : Type} {F : X → Fr} {H : X → Prop} {I : X → Asrt} {id : Nat} (h : WE N Q (.exit id) fr S) : WE N (EndH N F H I Q) (.exit id) fr S := h
end
end Go.EL
/- How plain data lie in memory: representations, lists in slices. No condition. -/
namespace Go.EL
open Go Go.RowKit Go.Proofs

/-- A representation of plain data by cells. -/
structure Rp (α : Type) where
  size : Nat
  rep : Mem → List Value → α → Prop
  len : ∀ {G cs x}, rep G cs x → cs.length = size
  mono : ∀ {G G' cs x}, Mem.le G G' → rep G cs x → rep G' cs x
  one : ∀ {G cs x}, rep G cs x → ∀ u ∈ cs, u.oneCell' = true

def Rp.int (k : IntKind) : Rp Int := ⟨1, fun _ cs x => cs = [.int k x], fun h => by rw [h]; rfl, fun _ h => h, fun h u hu => by rw [h] at hu; simp at hu; subst hu; rfl⟩
def Rp.bool : Rp Bool := ⟨1, fun _ cs x => cs = [.bool x], fun h => by rw [h]; rfl, fun _ h => h, fun h u hu => by rw [h] at hu; simp at hu; subst hu; rfl⟩
def Rp.str : Rp ByteArray := ⟨1, fun _ cs x => cs = [.string x], fun h => by rw [h]; rfl, fun _ h => h, fun h u hu => by rw [h] at hu; simp at hu; subst hu; rfl⟩
/-- The cells of an array of one-cell data. -/
def vecG {α : Type} (mk : α → Value) (n : Nat) (f : Fin n → α) : List Value := List.ofFn fun i => mk (f i)
abbrev vecL (k : IntKind) (n : Nat) (f : Fin n → Int) : List Value := vecG (Value.int k) n f
section
variable {α : Type} (mk : α → Value) (n : Nat) (f : Fin n → α)
theorem vecG_length : (vecG mk n f).length = n := by simp [vecG]
theorem vecG_get {i : Nat} (h : i < n) : (vecG mk n f)[i]? = some (mk (f ⟨i, h⟩)) := by simp [vecG, h]
theorem vecG_one (hm : ∀ x, (mk x).oneCell' = true) : ∀ u ∈ vecG mk n f, u.oneCell' = true := by
  intro u hu
  simp only [vecG, List.mem_ofFn] at hu
  obtain ⟨i, rfl⟩ := hu
  exact hm _
end
def setF {α : Type} {n : Nat} (f : Fin n → α) (i : Nat) (x : α) : Fin n → α := fun j => if j.val = i then x else f j
def getF {α : Type} [Inhabited α] {n : Nat} (f : Fin n → α) (i : Int) : α := if h : i.toNat < n then f ⟨i.toNat, h⟩ else default
theorem getF_eq {α : Type} [Inhabited α] {n : Nat} (f : Fin n → α) {i : Int} (h : i.toNat < n) : getF f i = f ⟨i.toNat, h⟩ := by simp [getF, h]
theorem vecG_set {α : Type} (mk : α → Value) (n : Nat) (f : Fin n → α) (i : Nat) (x : α) : (vecG mk n f).set i (mk x) = vecG mk n (setF f i x) := by
  apply List.ext_getElem
  · simp [vecG]
  · intro j h1 h2
    simp only [vecG, List.getElem_set, List.getElem_ofFn, setF]
    by_cases e : i = j
    · subst e; simp
    · rw [if_neg e, if_neg (fun e' => e e'.symm)]
theorem vecG_at {α : Type} [Inhabited α] (mk : α → Value) (n : Nat) (f : Fin n → α) {i : Int} (h : 0 ≤ i ∧ i < (n : Int)) : (vecG mk n f).toArray[i.toNat]? = some (mk (getF f i)) := by
  have hi : i.toNat < n := by omega
  rw [getF_eq f hi, List.getElem?_toArray, vecG_get mk n f hi]
theorem vecG_put {α : Type} (mk : α → Value) (n : Nat) (f : Fin n → α) (i : Nat) (x : α) : (vecG mk n f).toArray.setIfInBounds i (mk x) = (vecG mk n (setF f i x)).toArray := by
  rw [List.setIfInBounds_toArray, vecG_set]
def Rp.vecG {α : Type} (mk : α → Value) (hm : ∀ x, (mk x).oneCell' = true) (n : Nat) : Rp (Fin n → α) := ⟨n, fun _ cs f => cs = EL.vecG mk n f, fun h => by rw [h]; exact vecG_length _ _ _, fun _ h => h, fun h => by rw [h]; exact vecG_one _ _ _ hm⟩
abbrev Rp.vec (k : IntKind) (n : Nat) : Rp (Fin n → Int) := Rp.vecG (Value.int k) (fun _ => rfl) n
abbrev Rp.vecB (n : Nat) : Rp (Fin n → Bool) := Rp.vecG Value.bool (fun _ => rfl) n
/-- Two data, one behind the other. -/
def Rp.pair {α β : Type} (a : Rp α) (b : Rp β) : Rp (α × β) where
  size := a.size + b.size
  rep G cs x := ∃ c d, cs = c ++ d ∧ a.rep G c x.1 ∧ b.rep G d x.2
  len := by rintro G cs x ⟨c, d, rfl, h1, h2⟩; rw [List.length_append, a.len h1, b.len h2]
  mono := by rintro G G' cs x hle ⟨c, d, rfl, h1, h2⟩; exact ⟨c, d, rfl, a.mono hle h1, b.mono hle h2⟩
  one := by
    rintro G cs x ⟨c, d, rfl, h1, h2⟩ u hu
    rcases List.mem_append.1 hu with hu | hu
    · exact a.one h1 u hu
    · exact b.one h2 u hu
/-- The same cells, read as other data. -/
def Rp.via {α β : Type} (a : Rp α) (f : β → α) : Rp β := ⟨a.size, fun G cs x => a.rep G cs (f x), a.len, a.mono, a.one⟩

/-- A list, element by element. -/
def RepL {α : Type} (r : Rp α) (G : Mem) : List Value → List α → Prop
  | cs, [] => cs = []
  | cs, x :: l => ∃ c d, cs = c ++ d ∧ r.rep G c x ∧ RepL r G d l
namespace RepL
variable {α : Type} {r : Rp α} {G G' : Mem}
theorem len : ∀ {l : List α} {cs : List Value}, RepL r G cs l → cs.length = l.length * r.size
  | [], cs, h => by simp only [RepL] at h; simp [h]
  | x :: l, cs, ⟨c, d, e, h1, h2⟩ => by
    have := len h2
    subst e
    simp only [List.length_append, r.len h1, this, List.length_cons, Nat.add_mul]
    omega
theorem mono (hle : Mem.le G G') : ∀ {l : List α} {cs : List Value}, RepL r G cs l → RepL r G' cs l
  | [], _, h => h
  | _ :: _, _, ⟨c, d, e, h1, h2⟩ => ⟨c, d, e, r.mono hle h1, mono hle h2⟩
theorem one : ∀ {l : List α} {cs : List Value}, RepL r G cs l → ∀ u ∈ cs, u.oneCell' = true
  | [], cs, h => by simp only [RepL] at h; simp [h]
  | _ :: _, _, ⟨c, d, e, h1, h2⟩ => by
    subst e
    intro u hu
    rcases List.mem_append.1 hu with hu | hu
    · exact r.one h1 u hu
    · exact one h2 u hu
theorem single {x : α} {c : List Value} (h : r.rep G c x) : RepL r G c [x] := ⟨c, [], by simp, h, rfl⟩
theorem append : ∀ {l m : List α} {cs ds : List Value}, RepL r G cs l → RepL r G ds m → RepL r G (cs ++ ds) (l ++ m)
  | [], m, cs, ds, h, k => by simp only [RepL] at h; subst h; exact k
  | _ :: _, m, _, ds, ⟨c, d, e, h1, h2⟩, k => by subst e; exact ⟨c, d ++ ds, by simp, h1, append h2 k⟩
theorem get : ∀ {l : List α} {cs : List Value}, RepL r G cs l → ∀ {i : Nat} {x : α}, l[i]? = some x → ∃ c, r.rep G c x ∧ ∀ j u, c[j]? = some u → cs[i * r.size + j]? = some u
  | [], _, _, i, x, hx => by simp at hx
  | y :: l, _, ⟨c, d, e, h1, h2⟩, 0, x, hx => by
    simp only [List.getElem?_cons_zero, Option.some.injEq] at hx
    subst hx e
    refine ⟨c, h1, fun j u hu => ?_⟩
    rw [Nat.zero_mul, Nat.zero_add, List.getElem?_append_left (List.getElem?_eq_some_iff.1 hu).1]
    exact hu
  | y :: l, _, ⟨c, d, e, h1, h2⟩, i + 1, x, hx => by
    simp only [List.getElem?_cons_succ] at hx
    subst e
    obtain ⟨c', h3, h4⟩ := get h2 hx
    refine ⟨c', h3, fun j u hu => ?_⟩
    rw [List.getElem?_append_right (by rw [r.len h1, Nat.add_mul]; omega)]
    rw [show (i + 1) * r.size + j - c.length = i * r.size + j by rw [r.len h1, Nat.add_mul]; omega]
    exact h4 j u hu
theorem split : ∀ {l m : List α} {cs : List Value}, RepL r G cs (l ++ m) → ∃ c d, cs = c ++ d ∧ RepL r G c l ∧ RepL r G d m
  | [], m, cs, h => ⟨[], cs, rfl, rfl, h⟩
  | x :: l, m, _, ⟨c, d, e, h1, h2⟩ => by
    obtain ⟨c', d', e', h3, h4⟩ := split h2
    exact ⟨c ++ c', d', by rw [e, e', List.append_assoc], ⟨c, c', rfl, h1, h3⟩, h4⟩
end RepL

/-- Where a slice's first element lies. -/
def pb : Option Addr → Nat
  | some a => a.block
  | none => 0
def po : Option Addr → Nat
  | some a => a.off
  | none => 0
/-- A slice that reads as a list. -/
def SlR {α : Type} (r : Rp α) (G : Mem) (v : Value) (l : List α) : Prop :=
  ∃ p cap cs, v = .slice p l.length cap ∧ (l.length ≤ cap ∧ cap ≤ 9223372036854775807) ∧ (∀ a, p = some a → a.spot = none) ∧ (0 < l.length → p.isSome = true) ∧ RepL r G cs l ∧ ∀ j u, cs[j]? = some u → G (pb p) (po p + j) = some u
theorem SlR.mono {α : Type} {r : Rp α} {G G' : Mem} {v : Value} {l : List α} (h : SlR r G v l) (hle : Mem.le G G') : SlR r G' v l := by
  obtain ⟨p, cap, cs, h1, h5, h2, h3, h4, h6⟩ := h
  exact ⟨p, cap, cs, h1, h5, h2, h3, h4.mono hle, fun j u hu => hle _ _ _ (h6 j u hu)⟩
theorem SlR.nil {α : Type} (r : Rp α) (G : Mem) : SlR r G (.slice none 0 0) [] := ⟨none, 0, [], rfl, by simp, fun _ h => (by cases h), fun h => (by simp at h), rfl, fun j u h => (by simp at h)⟩
theorem SlR.one {α : Type} {r : Rp α} {G : Mem} {v : Value} {l : List α} (h : SlR r G v l) : v.oneCell' = true := by
  obtain ⟨p, cap, cs, h1, _⟩ := h
  rw [h1]; rfl
def Rp.sl {α : Type} (r : Rp α) : Rp (List α) := ⟨1, fun G cs l => ∃ v, cs = [v] ∧ SlR r G v l, fun ⟨v, h, _⟩ => by rw [h]; rfl, fun hle ⟨v, h, k⟩ => ⟨v, h, k.mono hle⟩, fun ⟨v, h, k⟩ u hu => by rw [h] at hu; simp at hu; subst hu; exact k.one⟩

section
variable {P : Program} {N : Nat} {Q : Post} {fr : Fr} {S : Asrt} {ops : Array Oper} {l : List Oper} {dst : Option Nat} {ty : TypeId} {pos : String} {af : Array Edge} {g : Option (Nat × Bool)}
variable {w0 : Bs} {G0 G : Mem} {L : Lo} {α : Type} {r : Rp α}

theorem Y0.lenR {x : Operand} {t e : TypeId} {v : Value} {xs : List α} (ht : P.underlying t = some (.slice e)) (h : SlR r G v xs) (hx : fr.ev x = some v) : Y0 P N ⟨dst, .call ⟨.builtin .len, #[x], #[t]⟩, ty, pos, af, g⟩ fr S (.int .i64 (xs.length : Int)) := by
  obtain ⟨p, cap, cs, h1, _⟩ := h
  subst h1
  exact Y0.lenSl ht hx
/-- A datum lies at a place: K says what the cells hold. -/
def AtK (r : Rp α) (G : Mem) (K : Nat → Value → Prop) (o : Nat) (x : α) : Prop := ∃ c, r.rep G c x ∧ ∀ j u, c[j]? = some u → K (o + j) u
abbrev At (r : Rp α) (G : Mem) (b o : Nat) (x : α) : Prop := AtK r G (fun k u => G b k = some u) o x
theorem At.mono {G' : Mem} {b o : Nat} {x : α} (h : At r G b o x) (hle : Mem.le G G') : At r G' b o x := by
  obtain ⟨c, h1, h2⟩ := h
  exact ⟨c, r.mono hle h1, fun j u hu => hle _ _ _ (h2 j u hu)⟩
theorem AtK.mono {G' : Mem} {K : Nat → Value → Prop} {o : Nat} {x : α} (h : AtK r G K o x) (hle : Mem.le G G') : AtK r G' K o x := by
  obtain ⟨c, h1, h2⟩ := h
  exact ⟨c, r.mono hle h1, h2⟩
theorem SlR.at {p : Option Addr} {n cap : Nat} {xs : List α} (h : SlR r G (.slice p n cap) xs) {i : Int} {x : α} (hi : 0 ≤ i ∧ xs[i.toNat]? = some x) : At r G (pb p) (po p + i.toNat * r.size) x := by
  obtain ⟨p', cap', cs, h1, _, _, h3, h4, h5⟩ := h
  cases h1
  obtain ⟨c, hc1, hc2⟩ := h4.get hi.2
  exact ⟨c, hc1, fun j u hu => by rw [Nat.add_assoc]; exact h5 _ _ (hc2 j u hu)⟩
theorem Y0.idxR {t e : TypeId} {x y : Operand} {n cap sz : Nat} {p : Option Addr} {k : IntKind} {i : Int} {xs : List α} {z : α} (ht : P.underlying t = some (.slice e)) (hsz : (P.info? e).map (·.size) = some sz) (h : SlR r G (.slice p n cap) xs)
    (hx : fr.ev x = some (.slice p n cap)) (hy : fr.ev y = some (.int k i)) (hi : 0 ≤ i ∧ xs[i.toNat]? = some z) : Y0 P N ⟨dst, .indexAddr t x y, ty, pos, af, g⟩ fr S (.pointer (some ⟨pb p, po p + i.toNat * sz, none⟩)) := by
  obtain ⟨p', cap', cs, h1, _, h2, h3, h4, h5⟩ := h
  cases h1
  have hlt := (List.getElem?_eq_some_iff.1 hi.2).1
  have hp := h3 (by omega)
  cases p with
  | none => cases hp
  | some a =>
    obtain ⟨ab, ao, ap⟩ := a
    have := h2 _ rfl
    dsimp only at this
    subst this
    exact Y0.idxSl ht hsz hx hy (by omega)
variable {K : Nat → Value → Prop}
theorem AtK.fst {β : Type} {q : Rp β} {o : Nat} {x : α × β} (h : AtK (Rp.pair r q) G K o x) : AtK r G K o x.1 := by
  obtain ⟨c, ⟨c1, c2, rfl, h1, h2⟩, h3⟩ := h
  exact ⟨c1, h1, fun j u hu => h3 j u (by rw [List.getElem?_append_left (List.getElem?_eq_some_iff.1 hu).1]; exact hu)⟩
theorem AtK.snd {β : Type} {q : Rp β} {o : Nat} {x : α × β} (h : AtK (Rp.pair r q) G K o x) : AtK q G K (o + r.size) x.2 := by
  obtain ⟨c, ⟨c1, c2, rfl, h1, h2⟩, h3⟩ := h
  refine ⟨c2, h2, fun j u hu => ?_⟩
  have := h3 (r.size + j) u (by rw [List.getElem?_append_right (by rw [r.len h1]; omega), r.len h1, Nat.add_sub_cancel_left]; exact hu)
  rwa [← Nat.add_assoc] at this
theorem AtK.via {β : Type} {f : β → α} {o : Nat} {x : β} (h : AtK (Rp.via r f) G K o x) : AtK r G K o (f x) := h
theorem AtK.int {k : IntKind} {o : Nat} {x : Int} (h : AtK (Rp.int k) G K o x) : K o (.int k x) := by
  obtain ⟨c, h1, h2⟩ := h
  have h1 : c = [.int k x] := h1
  subst h1
  exact h2 0 _ rfl
theorem AtK.bool {o : Nat} {x : Bool} (h : AtK Rp.bool G K o x) : K o (.bool x) := by
  obtain ⟨c, h1, h2⟩ := h
  have h1 : c = [.bool x] := h1
  subst h1
  exact h2 0 _ rfl
theorem AtK.str {o : Nat} {x : ByteArray} (h : AtK Rp.str G K o x) : K o (.string x) := by
  obtain ⟨c, h1, h2⟩ := h
  have h1 : c = [.string x] := h1
  subst h1
  exact h2 0 _ rfl
theorem AtK.sl {o : Nat} {x : List α} (h : AtK (Rp.sl r) G K o x) : ∃ p cap, K o (.slice p x.length cap) ∧ SlR r G (.slice p x.length cap) x := by
  obtain ⟨c, ⟨v, h1, h3⟩, h2⟩ := h
  subst h1
  have h4 := h2 0 _ rfl
  obtain ⟨p, cap, cs, h5, h6⟩ := h3
  subst h5
  exact ⟨p, cap, h4, p, cap, cs, rfl, h6⟩
theorem AtK.vec {α : Type} {mk : α → Value} {hm : ∀ x, (mk x).oneCell' = true} {n o : Nat} {x : Fin n → α} (h : AtK (Rp.vecG mk hm n) G K o x) : ∀ j u, (EL.vecG mk n x).toArray[j]? = some u → K (o + j) u := by
  obtain ⟨c, h1, h2⟩ := h
  have h1 : c = EL.vecG mk n x := h1
  subst h1
  intro j u hu
  exact h2 j u (by simpa using hu)
/-- One element of an array of one-cell data. -/
theorem AtK.vecAt {α : Type} [Inhabited α] {mk : α → Value} {hm : ∀ x, (mk x).oneCell' = true} {n o : Nat} {x : Fin n → α} (h : AtK (Rp.vecG mk hm n) G K o x) {i : Int} (hi : 0 ≤ i ∧ i < (n : Int)) : K (o + i.toNat) (mk (getF x i)) :=
  h.vec _ _ (vecG_at mk n x hi)
end
end Go.EL
/- Slices: appending, literals, parts of slices; what calls return. No condition. -/
namespace Go.EL
open Go Go.RowKit Go.Proofs

/-- The right to append to a slice: no room behind it, or the room is the call's own. -/
def Tok (size : Nat) (e : TypeId) (v : Value) (n : Nat) : Option Ow → Prop
  | none => ∃ p, v = .slice p n n
  | some x => ∃ cap c, v = .slice (some ⟨x.b, 0, none⟩) n cap ∧ x.o = .cells c e (0, 0) ∧ x.m = n * size ∧ c.size = cap * size ∧ cap ≤ maxLen ∧ n ≤ cap
/-- An element type: its zero, its cells, its bytes. -/
def ElT (P : Program) (e : TypeId) (z : Value) (size bytes : Nat) : Prop := (P.info? e).map (fun i => (i.zero, i.size, i.bytes)) = some (some z, size, bytes)
theorem ElT.parts {P : Program} {e : TypeId} {z : Value} {size bytes : Nat} (h : ElT P e z size bytes) : ∃ i, P.info? e = some i ∧ i.zero = some z ∧ i.size = size ∧ i.bytes = bytes := by
  unfold ElT at h
  cases hi : P.info? e with
  | none => rw [hi] at h; cases h
  | some i => rw [hi] at h; simp at h; exact ⟨i, rfl, h.1, h.2.1, h.2.2⟩
def small : Nat := 1000000000
theorem Lo.sub_dup {L : Lo} {i : Nat} {x y : Option Ow} : Lo.sub ((i, x) :: L) ((i, x) :: (i, y) :: L) := by
  intro k z hk
  rw [Lo.get_cons] at hk ⊢
  split at hk
  · rename_i e; rw [if_pos e]; exact hk
  · rename_i e; rw [if_neg e, Lo.get_cons, if_neg e]; exact hk

section
variable {P : Program} {N : Nat} {Q : Post} {fr : Fr} {S : Asrt} {ops : Array Oper} {l : List Oper} {dst : Option Nat} {ty : TypeId} {pos : String} {af : Array Edge} {g : Option (Nat × Bool)}
variable {w0 : Bs} {G0 G : Mem} {L : Lo} {α : Type} {r : Rp α}

theorem SlR.form {v : Value} {xs : List α} (h : SlR r G v xs) : ∃ p cap, v = .slice p xs.length cap := by
  obtain ⟨p, cap, cs, h1, _⟩ := h
  exact ⟨p, cap, h1⟩
theorem Mem.row_new {b : Nat} {cs : List Value} {rest : Array Value} {j : Nat} {u : Value} {n : Nat} (hn : cs.length = n) (h : cs[j]? = some u) : Mem.row G b (cs.toArray ++ rest) 0 n b (0 + j) = some u := by
  have hj := (List.getElem?_eq_some_iff.1 h).1
  rw [Nat.zero_add, Mem.row_at (Nat.zero_le _) (by omega), Array.getElem?_append_left (by simpa using hj)]
  simpa using h

theorem run_append_R {t e : TypeId} {z : Value} {bytes m c : Nat} {xs ys : List α} {v : Value} {p : Option Addr} {id : Nat} {tk : Option Ow} (ty : TypeId) (ht : P.underlying t = some (.slice e)) (hE : ElT P e z r.size bytes) (hzs : z.cells.size = r.size) (hby : bytes ≤ 100000)
    (hv : SlR r G v xs) (hid : L.get id = tk) (h0 : w0.L.get id = none) (htk : Tok r.size e v xs.length tk) (hx : SlR r G (.slice p m c) ys) (hsm : (xs ++ ys).length ≤ small)
    (w : World) (hs : St w0 G0 G L w) :
    ∃ v' tk' G' w', (Builtin.append_ #[t, t] ty #[v, .slice p m c]).run P w = .ok v' w' ∧ Mem.le G G' ∧ SlR r G' v' (xs ++ ys) ∧ Tok r.size e v' (xs ++ ys).length tk' ∧ St w0 G0 G' ((id, tk') :: L) w' := by
  obtain ⟨i, hi, hz, hsz, hbt⟩ := hE.parts
  obtain ⟨px, capx, ds, hx1, hx2, hx3, hx4, hx5, hx6⟩ := hx
  simp only [Value.slice.injEq] at hx1
  obtain ⟨rfl, rfl, rfl⟩ := hx1
  obtain ⟨pv, cap, cs, hv1, hv2, hv3, hv4, hv5, hv6⟩ := hv
  subst hv1
  have hlx := hx5.len
  have hlv := hv5.len
  simp only [List.length_append, small] at hsm
  have hmaxL : xs.length + ys.length ≤ maxLen := by simp only [maxLen]; omega
  have hall : RepL r G (cs ++ ds) (xs ++ ys) := hv5.append hx5
  have hb1 : (xs.length + ys.length) * bytes ≤ 140737488355328 := by
    have : (xs.length + ys.length) * bytes ≤ 1000000000 * 100000 := Nat.mul_le_mul (by omega) hby
    omega
  by_cases hm : ys.length = 0
  · -- nothing is appended
    have hy : ys = [] := List.eq_nil_of_length_eq_zero hm
    subst hy
    simp only [List.length_nil, List.append_nil] at *
    have hnc : tk = none → xs.length = cap := fun e => by subst e; obtain ⟨q, hq⟩ := htk; cases hq; rfl
    have hle : xs.length ≤ cap := by
      cases tk with
      | none => exact Nat.le_of_eq (hnc rfl)
      | some x => obtain ⟨cap', c', h1, _, _, _, _, h6⟩ := htk; cases h1; exact h6
    refine ⟨_, tk, G, w, ?_, Mem.le_refl G, ⟨pv, cap, cs, rfl, hv2, hv3, hv4, hv5, hv6⟩, htk, hs.weaken (Lo.sub_cons hid (Lo.sub_refl _))⟩
    cases hpv : pv with
    | none =>
      have : ¬ 0 < xs.length := fun h => by have := hv4 h; rw [hpv] at this; cases this
      cases p with
      | none =>
        by_cases hc0 : xs.length ≤ cap
        · simp [Builtin.append_, run_underlying ht, sizeOf, typeInfo, hi, Builtin.lenOf, Builtin.firstCells, show xs.length = 0 by omega]
        · omega
      | some a => simp [Builtin.append_, run_underlying ht, sizeOf, typeInfo, hi, Builtin.lenOf, Builtin.firstCells, loadCells, loadCellsFrom, show xs.length = 0 by omega]
    | some a =>
      cases p with
      | none => simp [Builtin.append_, run_underlying ht, sizeOf, typeInfo, hi, Builtin.lenOf, Builtin.firstCells, hle, storeCells]
      | some a => simp [Builtin.append_, run_underlying ht, sizeOf, typeInfo, hi, Builtin.lenOf, Builtin.firstCells, hle, storeCells, loadCells, loadCellsFrom]
  · have hp := hx4 (by omega)
    obtain ⟨pa, hpa⟩ := Option.isSome_iff_exists.1 hp
    subst hpa
    obtain ⟨sb, so, ss⟩ := pa
    have hss := hx3 _ rfl
    dsimp only at hss
    subst hss
    have hx6 : ∀ j u, ds[j]? = some u → G sb (so + j) = some u := hx6
    have hnews : ∀ j u, ds[j]? = some u → w.cell? ((⟨sb, so, none⟩ : Addr).add j) = some u := fun j u hu => by rw [add_none]; exact hs.imm _ _ _ (hx6 j u hu)
    have hone := hx5.one
    have hlx' : ds.length = ys.length * i.size := by rw [hsz]; exact hlx
    have hlv' : cs.length = xs.length * i.size := by rw [hsz]; exact hlv
    -- a new block holds all
    have new : ∀ (cap' : Nat), xs.length + ys.length ≤ cap' → cap' ≤ maxLen → ∃ tk' G', Mem.le G G' ∧ SlR r G' (.slice (some ⟨w.heap.size, 0, none⟩) (xs.length + ys.length) cap') (xs ++ ys) ∧ Tok r.size e (.slice (some ⟨w.heap.size, 0, none⟩) (xs.length + ys.length) cap') (xs ++ ys).length tk' ∧
        St w0 G0 G' ((id, tk') :: L) (w.drew.alloc (.cells ((cs ++ ds).toArray ++ Builtin.zeroCells z.cells (cap' - (xs.length + ys.length))) e)) := by
      intro cap' h1 h2
      have hsd : St w0 G0 G L w.drew := hs.drew
      have h3 := hsd.push id (.cells ((cs ++ ds).toArray ++ Builtin.zeroCells z.cells (cap' - (xs.length + ys.length))) e)
      obtain ⟨h4, h5⟩ := h3.know (i := id) (n := (xs.length + ys.length) * r.size) (by rw [Lo.get_cons, if_pos rfl]) h0 (Nat.zero_le _)
      have hlen : (cs ++ ds).length = (xs.length + ys.length) * r.size := by rw [List.length_append, hlv, hlx, Nat.add_mul]
      refine ⟨_, _, h5, ⟨_, _, cs ++ ds, by rw [List.length_append], by rw [List.length_append]; simp only [maxLen] at h2; omega, fun a ha => by cases ha; rfl, fun _ => rfl, hall.mono h5, fun j u hu => Mem.row_new hlen hu⟩, ?_, h4.weaken Lo.sub_dup⟩
      refine ⟨cap', _, by rw [List.length_append]; rfl, rfl, by rw [List.length_append], ?_, h2, by rw [List.length_append]; exact h1⟩
      simp only [Array.size_append, List.size_toArray, hlen, size_zeroCells, hzs, ← Nat.add_mul]
      congr 1; omega
    have grow : ∀ (hg : cap < xs.length + ys.length), ∃ v' tk' G' w', (Builtin.append_ #[t, t] ty #[.slice pv xs.length cap, .slice (some ⟨sb, so, none⟩) ys.length c]).run P w = .ok v' w' ∧ Mem.le G G' ∧ SlR r G' v' (xs ++ ys) ∧ Tok r.size e v' (xs ++ ys).length tk' ∧ St w0 G0 G' ((id, tk') :: L) w' := by
      intro hg
      have hcap := grownCap_ge w (xs.length + ys.length) cap e
      have hmax := grownCap_le_maxLen w (xs.length + ys.length) cap e hmaxL
      obtain ⟨tk', G', k1, k2, k3, k4⟩ := new _ hcap hmax
      refine ⟨_, tk', G', _, ?_, k1, k2, k3, k4⟩
      have hsrc := Src.ofSlice (P := P) w (size := i.size) ht ⟨sb, so, none⟩ ys.length c ds hlx' hnews hone
      have hold : (Builtin.firstCells i.size xs.length (.slice pv xs.length cap)).run P w.drew = .ok cs.toArray w.drew := by
        cases hpv : pv with
        | none =>
          have : ¬ 0 < xs.length := fun h => by have := hv4 h; rw [hpv] at this; cases this
          have hc0 : cs = [] := List.eq_nil_of_length_eq_zero (by rw [hlv, show xs.length = 0 by omega, Nat.zero_mul])
          rw [hc0]
          exact run_firstCells_none _ _ _ _ _
        | some a =>
          have ha := hv3 a hpv
          obtain ⟨ab, ao, ap⟩ := a
          dsimp only at ha
          subst ha
          subst hpv
          exact run_firstCells_some _ _ _ _ _ _ _ hlv' (fun j u hu => by rw [add_none]; exact hs.drew.imm _ _ _ (hv6 j u hu))
      have := run_append_grow_src (P := P) w t t ty e i z ht hi hz pv xs.length cap cs hold _ ys.length ds hsrc hg (by omega) (growslice_fits hg (by rw [hbt]; exact hb1))
      exact this
    cases tk with
    | none =>
      obtain ⟨q, hq⟩ := htk
      cases hq
      exact grow (by omega)
    | some x =>
      obtain ⟨cap', c', h1, h2, h3, h4, h5, h6⟩ := htk
      cases h1
      by_cases hroom : xs.length + ys.length ≤ cap
      · obtain ⟨xb, xo, xm⟩ := x
        dsimp only at h2 h3
        subst h2 h3
        have hblk := (hs.loc id _ hid).1
        dsimp only at hblk
        have hfit : xs.length * i.size + ds.length ≤ c'.size := by rw [hlx', h4, hsz, ← Nat.add_mul]; exact Nat.mul_le_mul_right _ hroom
        have hr := run_append_room (P := P) w t ty e i ht hi xb xs.length cap c' hblk ⟨sb, so, none⟩ ys.length c ds hlx' hnews hone hroom hfit
        rw [hsz] at hr hfit
        have hsl : (c'.toList.take (xs.length * r.size) ++ ds ++ c'.toList.drop (xs.length * r.size + ds.length)).length = c'.size := by
          simp only [List.length_append, List.length_take, List.length_drop, Array.length_toList]
          omega
        -- the block turned
        have hst1 := hs.upd (w' := w.setRow xb (c'.toList.take (xs.length * r.size) ++ ds ++ c'.toList.drop (xs.length * r.size + ds.length)).toArray) (o' := .cells (c'.toList.take (xs.length * r.size) ++ ds ++ c'.toList.drop (xs.length * r.size + ds.length)).toArray e (0, 0)) hid (by simp [World.setRow, Array.getElem?_modify, hblk]) (Nat.le_refl _)
          (fun k v' hk hv' => by
            have h1 := hs.imm _ _ _ hv'
            dsimp only at h1 hk
            rw [cell_of_row w xb k c' e (0, 0) hblk] at h1
            rw [cell_of_row _ xb k _ e (0, 0) (by simp [World.setRow, Array.getElem?_modify, hblk]; rfl)]
            rw [List.getElem?_toArray, List.getElem?_append_left (by simp only [List.length_take, Array.length_toList]; omega), List.getElem?_take, if_pos hk]
            simpa using h1)
          (fun k hk => by
            simp only [World.setRow, Array.getElem?_modify]
            rw [if_neg (fun e => hk e.symm)]) rfl rfl rfl rfl (by simp [World.setRow])
        obtain ⟨h7, h8⟩ := hst1.know (i := id) (n := (xs.length + ys.length) * r.size) (by rw [Lo.get_cons, if_pos rfl]) h0 (by dsimp only; rw [Nat.add_mul]; omega)
        refine ⟨_, _, _, _, hr, h8, ⟨_, _, cs ++ ds, by rw [List.length_append], by rw [List.length_append]; simp only [maxLen] at h5; omega, fun a ha => by cases ha; rfl, fun _ => rfl, hall.mono h8, fun j u hu => ?_⟩, ?_, h7.weaken Lo.sub_dup⟩
        · by_cases hj : j < cs.length
          · rw [List.getElem?_append_left hj] at hu
            exact h8 _ _ _ (hv6 j u hu)
          · have hj2 : j < (cs ++ ds).length := (List.getElem?_eq_some_iff.1 hu).1
            rw [List.length_append] at hj2
            rw [List.getElem?_append_right (by omega)] at hu
            show Mem.row G xb _ _ _ xb (0 + j) = some u
            rw [Nat.zero_add, Mem.row_at (by dsimp only; rw [← hlv]; omega) (by rw [Nat.add_mul, ← hlv, ← hlx]; exact hj2)]
            rw [List.getElem?_toArray, List.append_assoc, List.getElem?_append_right (by simp only [List.length_take, Array.length_toList]; omega), List.getElem?_append_left (by simp only [List.length_take, Array.length_toList]; omega)]
            rw [← hu]
            congr 1
            simp only [List.length_take, Array.length_toList]
            omega
        · exact ⟨cap, _, by rw [List.length_append], rfl, by rw [List.length_append], by rw [List.size_toArray, hsl, h4], h5, by rw [List.length_append]; exact hroom⟩
      · exact grow (by omega)

theorem WL.appendR {t e : TypeId} {z : Value} {s x : Operand} {bytes m c : Nat} {v : Value} {xs ys : List α} {p : Option Addr} {tk : Option Ow} (id : Nat) (hg : guardOK ops fr ⟨dst, .call ⟨.builtin .append, #[s, x], #[t, t]⟩, ty, pos, af, g⟩ true) (hd : dstOK N dst)
    (ht : P.underlying t = some (.slice e)) (hE : ElT P e z r.size bytes) (hzs : z.cells.size = r.size) (hby : bytes ≤ 100000) (hs : fr.ev s = some v) (hx : fr.ev x = some (.slice p m c)) (hv : SlR r G v xs) (hid : L.get id = tk) (h0 : w0.L.get id = none) (htk : Tok r.size e v xs.length tk)
    (hy : SlR r G (.slice p m c) ys) (hsm : (xs ++ ys).length ≤ small)
    (k : ∀ p' cap' tk' G', Mem.le G G' → SlR r G' (.slice p' (xs ++ ys).length cap') (xs ++ ys) → Tok r.size e (.slice p' (xs ++ ys).length cap') (xs ++ ys).length tk' → WL P N ops Q l (putFr dst (.slice p' (xs ++ ys).length cap') fr) (St w0 G0 G' ((id, tk') :: L))) :
    WL P N ops Q (⟨dst, .call ⟨.builtin .append, #[s, x], #[t, t]⟩, ty, pos, af, g⟩ :: l) fr (St w0 G0 G L) := by
  refine WL.yr (Φ := fun v' w => ∃ tk' G', Mem.le G G' ∧ SlR r G' v' (xs ++ ys) ∧ Tok r.size e v' (xs ++ ys).length tk' ∧ St w0 G0 G' ((id, tk') :: L) w) hg (fun a w ha hs' => ?_) hd (fun v a w ha ⟨tk', G', h1, h2, h3, h4⟩ => ?_)
  · obtain ⟨v', tk', G', w', hr, h1, h2, h3, h4⟩ := run_append_R (w0 := w0) (G0 := G0) ty ht hE hzs hby hv hid h0 htk hy hsm w hs'
    have : (execOp a.eval ⟨dst, .call ⟨.builtin .append, #[s, x], #[t, t]⟩, ty, pos, af, g⟩).run P w = .ok (.value v') w' := by
      simp [execOp, resolve, invoke, builtin, ha.ev hs, ha.ev hx, hr]
    rw [this]
    exact ⟨tk', G', h1, h2, h3, h4⟩
  · obtain ⟨p', cap', rfl⟩ := h2.form
    exact k p' cap' tk' G' h1 h2 h3 a w ha h4
/-- A slice literal. -/
theorem WL.litR {t e : TypeId} {len : Nat} {parts : Array (Nat × Operand)} {vs : Array (Nat × Value)} {cs : List Value} (xs : List α) (hg : guardOK ops fr ⟨dst, .buildSlice t len parts, ty, pos, af, g⟩ true) (hd : dstOK N dst)
    (hps : fr.evs (parts.toList.map (·.2)) = some (vs.toList.map (·.2))) (hix : parts.toList.map (·.1) = vs.toList.map (·.1)) (hlen : xs.length = len) (hsm : len ≤ small)
    (h : ∀ w, (Instr.buildSlice t len vs).run P w = .ok (.slice (some ⟨w.heap.size, 0, none⟩) len len) (w.alloc (.cells cs.toArray e))) (hrep : RepL r G cs xs) {key : Nat} (hkey : L.get key = none) (h0 : w0.L.get key = none)
    (k : ∀ p G', Mem.le G G' → SlR r G' (.slice p len len) xs → WL P N ops Q l (putFr dst (.slice p len len) fr) (St w0 G0 G' L)) : WL P N ops Q (⟨dst, .buildSlice t len parts, ty, pos, af, g⟩ :: l) fr (St w0 G0 G L) := by
  refine WL.yr (Φ := fun v w => ∃ p G', v = .slice p len len ∧ Mem.le G G' ∧ SlR r G' (.slice p len len) xs ∧ St w0 G0 G' L w) hg (fun a w ha hs => ?_) hd (fun v a w ha ⟨p, G', h1, h2, h3, h4⟩ => ?_)
  · have h1 := ha.evs _ _ hps
    have h2 : (parts.map fun p => (p.1, a.eval p.2)) = vs := by
      apply Array.ext'
      simp only [Array.toList_map]
      have hl : parts.toList.length = vs.toList.length := by have := congrArg List.length hix; simpa using this
      generalize parts.toList = ps at *
      generalize vs.toList = us at *
      clear h hps
      induction ps generalizing us with
      | nil => cases us <;> simp_all
      | cons p ps ih =>
        cases us with
        | nil => simp at hl
        | cons q us =>
          simp only [List.map_cons, List.cons.injEq] at hix h1 ⊢
          exact ⟨Prod.ext hix.1 h1.1, ih us hix.2 h1.2 (by simpa using hl)⟩
    have h3 : (parts.map fun (i, x) => (i, a.eval x)) = vs := h2
    have : (execOp a.eval ⟨dst, .buildSlice t len parts, ty, pos, af, g⟩).run P w = .ok (.value (.slice (some ⟨w.heap.size, 0, none⟩) len len)) (w.alloc (.cells cs.toArray e)) := by
      simp only [execOp, h3]
      simp [h w]
    rw [this]
    have hcs := hrep.len
    obtain ⟨h4, h5⟩ := (hs.push key (.cells cs.toArray e)).know (i := key) (n := len * r.size) (by rw [Lo.get_cons, if_pos rfl]) h0 (Nat.zero_le _)
    refine ⟨_, _, rfl, h5, ⟨_, _, cs, by rw [hlen], by rw [hlen]; simp only [small] at hsm; omega, fun a ha => by cases ha; rfl, fun _ => rfl, hrep.mono h5, fun j u hu => ?_⟩, h4.weaken (fun i x hx => ?_)⟩
    · have := Mem.row_new (G := G) (b := w.heap.size) (rest := #[]) (n := len * r.size) (by rw [hcs, hlen]) hu
      rw [Array.append_empty] at this
      exact this
    · have hne : key ≠ i := fun e => by subst e; rw [hkey] at hx; cases hx
      rw [Lo.get_cons, if_neg hne, Lo.get_cons, if_neg hne]
      exact hx
  · subst h1
    exact k p G' h2 h3 a w ha h4
theorem Tok.full {size : Nat} {e : TypeId} {p : Option Addr} {n : Nat} : Tok size e (.slice p n n) n none := ⟨p, rfl⟩

theorem SlR.take {p : Option Addr} {n cap : Nat} {xs : List α} {lo hi : Nat} (h : SlR r G (.slice p n cap) xs) (h1 : lo ≤ hi) (h2 : hi ≤ xs.length) {q : Option Addr} (hq : q = p.map (fun a => ⟨a.block, a.off + lo * r.size, none⟩) ∨ (lo = hi ∧ q = p)) {c : Nat} (hc : hi - lo ≤ c ∧ c ≤ 9223372036854775807) : SlR r G (.slice q (hi - lo) c) ((xs.take hi).drop lo) := by
  obtain ⟨p', cap', cs, e1, h3, h4, h5, h6, h7⟩ := h
  cases e1
  have hl : ((xs.take hi).drop lo).length = hi - lo := by simp; omega
  by_cases he : lo = hi
  · subst he
    have : (xs.take lo).drop lo = [] := by apply List.eq_nil_of_length_eq_zero; omega
    rw [this, Nat.sub_self]
    exact ⟨q, c, [], rfl, by simp; omega, fun a ha => by
      rcases hq with hq | ⟨_, hq⟩
      · cases p with
        | none => rw [hq] at ha; cases ha
        | some b => rw [hq] at ha; cases ha; rfl
      · rw [hq] at ha; exact h4 a ha, fun h => by simp at h, rfl, fun j u h => by simp at h⟩
  · have hq := hq.resolve_right (fun h => he h.1)
    have hsp : xs = xs.take lo ++ ((xs.take hi).drop lo ++ xs.drop hi) := by
      have : xs.take hi = (xs.take hi).take lo ++ (xs.take hi).drop lo := (List.take_append_drop lo (xs.take hi)).symm
      rw [List.take_take, Nat.min_eq_left h1] at this
      rw [← List.append_assoc, ← this, List.take_append_drop]
    rw [hsp] at h6
    obtain ⟨c1, d1, e2, k1, k2⟩ := h6.split
    obtain ⟨c2, d2, e3, k3, k4⟩ := k2.split
    have hc1 := k1.len
    have hlo : (xs.take lo).length = lo := by simp; omega
    refine ⟨q, c, c2, by rw [hl], by rw [hl]; exact hc, fun a ha => ?_, fun h => ?_, k3, fun j u hu => ?_⟩
    · cases p with
      | none => rw [hq] at ha; cases ha
      | some b => rw [hq] at ha; cases ha; rfl
    · have := h5 (by omega)
      rw [hq]; simpa using this
    · have hlt := (List.getElem?_eq_some_iff.1 hu).1
      have := h7 (lo * r.size + j) u (by
        subst e2 e3
        rw [List.getElem?_append_right (by rw [hc1, hlo]; omega), hc1, hlo, Nat.add_sub_cancel_left, List.getElem?_append_left hlt]
        exact hu)
      have hps := h5 (by omega)
      cases p with
      | none => cases hps
      | some b =>
        subst hq
        simp only [pb, po, Option.map_some] at this ⊢
        rw [Nat.add_assoc]
        exact this
end
end Go.EL
/- More rules: arrays, parts of slices, scopes. No condition. -/
namespace Go.EL
open Go Go.RowKit Go.Proofs

theorem vecG_size {α : Type} (mk : α → Value) (n : Nat) (f : Fin n → α) : (vecG mk n f).toArray.size = n := by simp [vecG_length]
theorem bdec (b : Bool) : b = decide (b = true) := by cases b <;> rfl
section
variable {P : Program} {N : Nat} {Q : Post} {fr : Fr} {S : Asrt} {ops : Array Oper} {l : List Oper} {dst : Option Nat} {ty : TypeId} {pos : String} {af : Array Edge} {g : Option (Nat × Bool)}
variable {w0 : Bs} {G0 G : Mem} {L : Lo} {α : Type} {r : Rp α}

theorem Y0.idxA {t e : TypeId} {x y : Operand} {len b off : Nat} {k : IntKind} {i : Int} (ht : P.underlying t = some (.array len e)) (hsz : (P.info? e).map (·.size) = some 1)
    (hx : fr.ev x = some (.pointer (some ⟨b, off, none⟩))) (hy : fr.ev y = some (.int k i)) (hi : 0 ≤ i ∧ i < len) : Y0 P N ⟨dst, .indexAddr t x y, ty, pos, af, g⟩ fr S (.pointer (some ⟨b, off + i.toNat, none⟩)) :=
  (Y0.idxArr ht hsz hx hy hi).eq (by simp)
theorem Y0.idxA0 {t e : TypeId} {x y : Operand} {len b : Nat} {k : IntKind} {i : Int} (ht : P.underlying t = some (.array len e)) (hsz : (P.info? e).map (·.size) = some 1)
    (hx : fr.ev x = some (.pointer (some ⟨b, 0, none⟩))) (hy : fr.ev y = some (.int k i)) (hi : 0 ≤ i ∧ i < len) : Y0 P N ⟨dst, .indexAddr t x y, ty, pos, af, g⟩ fr S (.pointer (some ⟨b, i.toNat, none⟩)) :=
  (Y0.idxArr ht hsz hx hy hi).eq (by simp)
theorem Y0.fieldA {s : TypeId} {x : Operand} {f n : Nat} {fs : Array Field} {fd : Field} {cs c : Array Value} (hs : P.underlying s = some (.struct fs)) (hf : fs[f]? = some fd) (he : AggT P fd.type n)
    (hx : fr.ev x = some (.agg cs)) (hv : cs.extract fd.offset (fd.offset + n) = c) : Y0 P N ⟨dst, .field s x f, ty, pos, af, g⟩ fr S (.agg c) := fun a w ha _ => by
  subst hv
  simp [execOp, ha.ev hx, Instr.field, run_underlying hs, hf, asAgg, run_part_agg he]
theorem Y0.lenS {x : Operand} {t : TypeId} {s : ByteArray} (ht : P.underlying t = some .string) (hx : fr.ev x = some (.string s)) : Y0 P N ⟨dst, .call ⟨.builtin .len, #[x], #[t]⟩, ty, pos, af, g⟩ fr S (.int .i64 (s.size : Int)) := fun a w ha _ => by
  simp [execOp, resolve, invoke, builtin, ha.ev hx, Builtin.len_, run_underlying ht, goInt]

theorem run_eqItems_vec {e : TypeId} {k : IntKind} (he : P.underlying e = some (.int k)) (hs : ScalT P e) (hc : P.cellsOf e = 1) {n : Nat} (a b : Fin n → Int) (w : World) (d : Nat) : ∀ (is : List Nat), (∀ i, i ∈ is → i < n) →
    (Op.eqItems (d + 1) e (P.cellsOf e) (vecL k n a).toArray (vecL k n b).toArray is).run P w = .ok (decide (∀ i : Fin n, i.val ∈ is → a i = b i)) w
  | [], _ => by simp [Op.eqItems]
  | i :: is, h => by
    have hi : i < n := h i (by simp)
    have ih := run_eqItems_vec he hs hc a b w d is (fun j hj => h j (by simp [hj]))
    have p1 : (part e (vecL k n a).toArray (i * P.cellsOf e)).run P w = .ok (.int k (a ⟨i, hi⟩)) w := run_part_scal hs (by rw [hc, Nat.mul_one, List.getElem?_toArray]; exact vecG_get _ n a hi) w
    have p2 : (part e (vecL k n b).toArray (i * P.cellsOf e)).run P w = .ok (.int k (b ⟨i, hi⟩)) w := run_part_scal hs (by rw [hc, Nat.mul_one, List.getElem?_toArray]; exact vecG_get _ n b hi) w
    have p3 := run_equalIn_int (P := P) w d e k k (a ⟨i, hi⟩) (b ⟨i, hi⟩) he
    simp only [Op.eqItems, Sem.run_bind, p1, p2, p3, Result.andThen_ok]
    by_cases hab : a ⟨i, hi⟩ = b ⟨i, hi⟩
    · simp only [hab, beq_self_eq_true, Bool.not_true, Bool.false_eq_true, if_false, ih]
      congr 1
      apply decide_eq_decide.2
      constructor
      · intro hh j hj
        rcases List.mem_cons.1 hj with e | e
        · have : j = ⟨i, hi⟩ := Fin.ext e
          rw [this]; exact hab
        · exact hh j e
      · exact fun hh j hj => hh j (by simp [hj])
    · have hb : (a ⟨i, hi⟩ == b ⟨i, hi⟩) = false := by simpa using hab
      have hd : decide (∀ j : Fin n, j.val ∈ i :: is → a j = b j) = false := decide_eq_false fun hh => hab (hh ⟨i, hi⟩ (by simp))
      rw [hd]
      simp [hb]
instance decF {n : Nat} : DecidableEq (Fin n → Int) := fun a b => decidable_of_iff (∀ i, a i = b i) ⟨fun h => funext h, fun h i => by rw [h]⟩
theorem run_equal_vec {t e : TypeId} {k : IntKind} {n : Nat} (ht : P.underlying t = some (.array n e)) (he : P.underlying e = some (.int k)) (hs : ScalT P e) (hz : (P.info? e).map (·.size) = some 1) (a b : Fin n → Int) (w : World) :
    (Op.equal t (.agg (vecL k n a).toArray) (.agg (vecL k n b).toArray)).run P w = .ok (decide (a = b)) w := by
  cases hi : P.info? e with
  | none => simp [hi] at hz
  | some i =>
    have hc : P.cellsOf e = 1 := by simp [Program.cellsOf, hz]
    have h1 := run_equalIn_array (P := P) w 9999 (vecL k n a).toArray (vecL k n b).toArray ht hi
    have h2 := run_eqItems_vec he hs hc a b w 9998 (List.range n) (by simp)
    unfold Op.equal
    show (Op.equalIn (9999 + 1) t _ _).run P w = _
    rw [h1, h2]
    congr 1
    apply decide_eq_decide.2
    constructor
    · intro h; funext j; exact h j (by simp)
    · intro h j _; rw [h]
theorem Y0.eqlV {t e yt : TypeId} {x y : Operand} {k : IntKind} {n : Nat} {a b : Fin n → Int} (ht : P.underlying t = some (.array n e)) (he : P.underlying e = some (.int k)) (hs : ScalT P e) (hz : (P.info? e).map (·.size) = some 1) (hgd : P.eqGuardType P.depth t = false)
    (hx : fr.ev x = some (.agg (vecL k n a).toArray)) (hy : fr.ev y = some (.agg (vecL k n b).toArray)) : Y0 P N ⟨dst, .binOp .eql t x y yt, ty, pos, af, g⟩ fr S (.bool (decide (a = b))) :=
  Y0.bin hx hy (fun w => run_eqGuard_agg w _ _ _ _ _ _ hgd) fun w => by simp [binOp, run_equal_vec ht he hs hz]
theorem Y0.neqV {t e yt : TypeId} {x y : Operand} {k : IntKind} {n : Nat} {a b : Fin n → Int} (ht : P.underlying t = some (.array n e)) (he : P.underlying e = some (.int k)) (hs : ScalT P e) (hz : (P.info? e).map (·.size) = some 1) (hgd : P.eqGuardType P.depth t = false)
    (hx : fr.ev x = some (.agg (vecL k n a).toArray)) (hy : fr.ev y = some (.agg (vecL k n b).toArray)) : Y0 P N ⟨dst, .binOp .neq t x y yt, ty, pos, af, g⟩ fr S (.bool (decide (¬ a = b))) :=
  Y0.bin hx hy (fun w => run_eqGuard_agg w _ _ _ _ _ _ hgd) fun w => by simp [binOp, run_equal_vec ht he hs hz]

theorem run_eqNil {t e : TypeId} {p : Option Addr} {n c : Nat} (ht : P.underlying t = some (.slice e)) (w : World) : (Op.equal t (.slice p n c) (.slice none 0 0)).run P w = .ok (decide (p = none)) w := by
  have h : ∀ d, (Op.equalIn (d + 1) t (.slice p n c) (.slice none 0 0)).run P w = .ok (decide (p = none)) w := fun d => by
    cases p <;> simp [Op.equalIn, run_underlying ht]
  exact h 9999
theorem Y0.eqlNil {t e yt : TypeId} {x y : Operand} {p : Option Addr} {n c : Nat} (ht : P.underlying t = some (.slice e)) (hx : fr.ev x = some (.slice p n c)) (hy : fr.ev y = some (.slice none 0 0)) : Y0 P N ⟨dst, .binOp .eql t x y yt, ty, pos, af, g⟩ fr S (.bool (decide (p = none))) :=
  Y0.bin hx hy (fun w => by simp [eqGuard]) fun w => by simp [binOp, run_eqNil ht]
theorem Y0.neqNil {t e yt : TypeId} {x y : Operand} {p : Option Addr} {n c : Nat} (ht : P.underlying t = some (.slice e)) (hx : fr.ev x = some (.slice p n c)) (hy : fr.ev y = some (.slice none 0 0)) : Y0 P N ⟨dst, .binOp .neq t x y yt, ty, pos, af, g⟩ fr S (.bool (decide (¬ p = none))) :=
  Y0.bin hx hy (fun w => by simp [eqGuard]) fun w => by simp [binOp, run_eqNil ht]
theorem SlR.nil_of {p : Option Addr} {n c : Nat} {xs : List α} (h : SlR r G (.slice p n c) xs) (hp : p = none) : xs = [] := by
  obtain ⟨p', cap, cs, h1, _, _, h3, _⟩ := h
  cases h1
  subst hp
  rcases Nat.eq_zero_or_pos xs.length with h | h
  · exact List.eq_nil_of_length_eq_zero h
  · have := h3 h; cases this

/-! ### Parts of slices -/
theorem run_sliceR {t e : TypeId} {n cap sz : Nat} {p : Option Addr} {xs : List α} (ht : P.underlying t = some (.slice e)) (hsz : (P.info? e).map (·.size) = some sz) (hsr : sz = r.size) (h : SlR r G (.slice p n cap) xs) {low high : Option Value} {lo hi : Int}
    (hlo : low = none ∧ lo = 0 ∨ ∃ k, low = some (.int k lo)) (hhi : high = none ∧ hi = (xs.length : Int) ∨ ∃ k, high = some (.int k hi)) (hb : 0 ≤ lo ∧ lo ≤ hi ∧ hi ≤ (xs.length : Int)) (w : World) :
    ∃ v, (Instr.slice t (.slice p n cap) low high none).run P w = .ok v w ∧ SlR r G v ((xs.take hi.toNat).drop lo.toNat) := by
  have hn : n = xs.length := by obtain ⟨p', cap', cs, h1, _⟩ := h; cases h1; rfl
  have hcap : n ≤ cap ∧ cap ≤ 9223372036854775807 := by obtain ⟨p', cap', cs, h1, h2, _⟩ := h; cases h1; exact h2
  have hspot : ∀ a, p = some a → a.spot = none := by obtain ⟨p', cap', cs, h1, _, h2, _⟩ := h; cases h1; exact h2
  have hbs : (Instr.sliceBounds true n cap low high none).run P w = .ok (lo.toNat, hi.toNat, cap) w := by
    rcases hlo with ⟨rfl, rfl⟩ | ⟨k, rfl⟩ <;> rcases hhi with ⟨rfl, rfl⟩ | ⟨k', rfl⟩
    · simp [Instr.sliceBounds, hn]
    · have h1 : 0 ≤ hi ∧ hi ≤ (cap : Int) := by omega
      simp [Instr.sliceBounds, Instr.sliceBound, asIntOf, h1]
    · have h1 : 0 ≤ lo ∧ lo ≤ (n : Int) := by omega
      simp [Instr.sliceBounds, Instr.sliceBound, asIntOf, h1, hn]
      intro h; omega
    · have h1 : 0 ≤ hi ∧ hi ≤ (cap : Int) := by omega
      have h2 : 0 ≤ lo ∧ lo ≤ ((hi.toNat : Nat) : Int) := by omega
      simp [Instr.sliceBounds, Instr.sliceBound, asIntOf, h1, h2]
      intro h; omega
  refine ⟨.slice (if cap = lo.toNat then p else p.map (·.add (lo.toNat * sz))) (hi.toNat - lo.toNat) (cap - lo.toNat), ?_, ?_⟩
  · simp [Instr.slice, run_underlying ht, hbs, run_sizeOf hsz]
  · refine h.take (by omega) (by omega) ?_ (by omega)
    by_cases hc : cap = lo.toNat
    · right
      rw [if_pos hc]
      exact ⟨by omega, rfl⟩
    · left
      rw [if_neg hc]
      cases p with
      | none => rfl
      | some a =>
        obtain ⟨ab, ao, ap⟩ := a
        have := hspot _ rfl
        dsimp only at this
        subst this
        simp only [Option.map_some, add_none, hsr]
theorem WL.sliceQ {t e : TypeId} {x : Operand} {lowo higho : Option Operand} {low high : Option Value} {n cap sz : Nat} {p : Option Addr} {xs : List α} {lo hi : Int} (hg : guardOK ops fr ⟨dst, .slice t x lowo higho none, ty, pos, af, g⟩ true) (hd : dstOK N dst)
    (ht : P.underlying t = some (.slice e)) (hsz : (P.info? e).map (·.size) = some sz) (hsr : sz = r.size) (h : SlR r G (.slice p n cap) xs) (hx : fr.ev x = some (.slice p n cap))
    (hl : ∀ a, Rel N fr a → lowo.map a.eval = low) (hh : ∀ a, Rel N fr a → higho.map a.eval = high)
    (hlo : low = none ∧ lo = 0 ∨ ∃ k, low = some (.int k lo)) (hhi : high = none ∧ hi = (xs.length : Int) ∨ ∃ k, high = some (.int k hi)) (hb : 0 ≤ lo ∧ lo ≤ hi ∧ hi ≤ (xs.length : Int))
    (k : ∀ p' cap', SlR r G (.slice p' ((xs.take hi.toNat).drop lo.toNat).length cap') ((xs.take hi.toNat).drop lo.toNat) → WL P N ops Q l (putFr dst (.slice p' ((xs.take hi.toNat).drop lo.toNat).length cap') fr) (St w0 G0 G L)) :
    WL P N ops Q (⟨dst, .slice t x lowo higho none, ty, pos, af, g⟩ :: l) fr (St w0 G0 G L) := by
  refine WL.yr (Φ := fun v w => SlR r G v ((xs.take hi.toNat).drop lo.toNat) ∧ St w0 G0 G L w) hg (fun a w ha hs => ?_) hd (fun v a w ha ⟨h1, h2⟩ => ?_)
  · obtain ⟨v, hr, hv⟩ := run_sliceR ht hsz hsr h hlo hhi hb w
    have : (execOp a.eval ⟨dst, .slice t x lowo higho none, ty, pos, af, g⟩).run P w = .ok (.value v) w := by
      have h1 := hl a ha
      have h2 := hh a ha
      simp only [execOp, ha.ev hx, h1, h2, Option.map_none]
      simp [Instr.sliceAt, run_underlying ht, hr]
    rw [this]
    exact ⟨hv, hs⟩
  · obtain ⟨p', cap', rfl⟩ := h1.form
    exact k p' cap' h1 a w ha h2
theorem WL.sliceR {t e : TypeId} {x : Operand} {n cap sz : Nat} {p : Option Addr} {xs : List α} (hg : guardOK ops fr ⟨dst, .slice t x none none none, ty, pos, af, g⟩ true) (hd : dstOK N dst)
    (ht : P.underlying t = some (.slice e)) (hsz : (P.info? e).map (·.size) = some sz) (hsr : sz = r.size) (h : SlR r G (.slice p n cap) xs) (hx : fr.ev x = some (.slice p n cap)) (hb : 0 ≤ (0 : Int) ∧ (0 : Int) ≤ (xs.length : Int) ∧ (xs.length : Int) ≤ (xs.length : Int))
    (k : ∀ p' cap', SlR r G (.slice p' ((xs.take (xs.length : Int).toNat).drop (0 : Int).toNat).length cap') ((xs.take (xs.length : Int).toNat).drop (0 : Int).toNat) → WL P N ops Q l (putFr dst (.slice p' ((xs.take (xs.length : Int).toNat).drop (0 : Int).toNat).length cap') fr) (St w0 G0 G L)) :
    WL P N ops Q (⟨dst, .slice t x none none none, ty, pos, af, g⟩ :: l) fr (St w0 G0 G L) :=
  WL.sliceQ (low := none) (high := none) hg hd ht hsz hsr h hx (fun a ha => rfl) (fun a ha => rfl) (.inl ⟨rfl, rfl⟩) (.inl ⟨rfl, rfl⟩) hb k
theorem WL.sliceRL {t e : TypeId} {x x1 : Operand} {k1 : IntKind} {n cap sz : Nat} {p : Option Addr} {xs : List α} {lo : Int} (hg : guardOK ops fr ⟨dst, .slice t x (some x1) none none, ty, pos, af, g⟩ true) (hd : dstOK N dst)
    (ht : P.underlying t = some (.slice e)) (hsz : (P.info? e).map (·.size) = some sz) (hsr : sz = r.size) (h : SlR r G (.slice p n cap) xs) (hx : fr.ev x = some (.slice p n cap)) (h1 : fr.ev x1 = some (.int k1 lo)) (hb : 0 ≤ lo ∧ lo ≤ (xs.length : Int) ∧ (xs.length : Int) ≤ (xs.length : Int))
    (k : ∀ p' cap', SlR r G (.slice p' ((xs.take (xs.length : Int).toNat).drop lo.toNat).length cap') ((xs.take (xs.length : Int).toNat).drop lo.toNat) → WL P N ops Q l (putFr dst (.slice p' ((xs.take (xs.length : Int).toNat).drop lo.toNat).length cap') fr) (St w0 G0 G L)) :
    WL P N ops Q (⟨dst, .slice t x (some x1) none none, ty, pos, af, g⟩ :: l) fr (St w0 G0 G L) :=
  WL.sliceQ (low := some (.int k1 lo)) (high := none) hg hd ht hsz hsr h hx (fun a ha => by simp [ha.ev h1]) (fun a ha => rfl) (.inr ⟨_, rfl⟩) (.inl ⟨rfl, rfl⟩) hb k
theorem WL.sliceRH {t e : TypeId} {x x2 : Operand} {k2 : IntKind} {n cap sz : Nat} {p : Option Addr} {xs : List α} {hi : Int} (hg : guardOK ops fr ⟨dst, .slice t x none (some x2) none, ty, pos, af, g⟩ true) (hd : dstOK N dst)
    (ht : P.underlying t = some (.slice e)) (hsz : (P.info? e).map (·.size) = some sz) (hsr : sz = r.size) (h : SlR r G (.slice p n cap) xs) (hx : fr.ev x = some (.slice p n cap)) (h2 : fr.ev x2 = some (.int k2 hi)) (hb : 0 ≤ (0 : Int) ∧ (0 : Int) ≤ hi ∧ hi ≤ (xs.length : Int))
    (k : ∀ p' cap', SlR r G (.slice p' ((xs.take hi.toNat).drop (0 : Int).toNat).length cap') ((xs.take hi.toNat).drop (0 : Int).toNat) → WL P N ops Q l (putFr dst (.slice p' ((xs.take hi.toNat).drop (0 : Int).toNat).length cap') fr) (St w0 G0 G L)) :
    WL P N ops Q (⟨dst, .slice t x none (some x2) none, ty, pos, af, g⟩ :: l) fr (St w0 G0 G L) :=
  WL.sliceQ (low := none) (high := some (.int k2 hi)) hg hd ht hsz hsr h hx (fun a ha => rfl) (fun a ha => by simp [ha.ev h2]) (.inl ⟨rfl, rfl⟩) (.inr ⟨_, rfl⟩) hb k
theorem WL.sliceRLH {t e : TypeId} {x x1 x2 : Operand} {k1 : IntKind} {k2 : IntKind} {n cap sz : Nat} {p : Option Addr} {xs : List α} {lo : Int} {hi : Int} (hg : guardOK ops fr ⟨dst, .slice t x (some x1) (some x2) none, ty, pos, af, g⟩ true) (hd : dstOK N dst)
    (ht : P.underlying t = some (.slice e)) (hsz : (P.info? e).map (·.size) = some sz) (hsr : sz = r.size) (h : SlR r G (.slice p n cap) xs) (hx : fr.ev x = some (.slice p n cap)) (h1 : fr.ev x1 = some (.int k1 lo)) (h2 : fr.ev x2 = some (.int k2 hi)) (hb : 0 ≤ lo ∧ lo ≤ hi ∧ hi ≤ (xs.length : Int))
    (k : ∀ p' cap', SlR r G (.slice p' ((xs.take hi.toNat).drop lo.toNat).length cap') ((xs.take hi.toNat).drop lo.toNat) → WL P N ops Q l (putFr dst (.slice p' ((xs.take hi.toNat).drop lo.toNat).length cap') fr) (St w0 G0 G L)) :
    WL P N ops Q (⟨dst, .slice t x (some x1) (some x2) none, ty, pos, af, g⟩ :: l) fr (St w0 G0 G L) :=
  WL.sliceQ (low := some (.int k1 lo)) (high := some (.int k2 hi)) hg hd ht hsz hsr h hx (fun a ha => by simp [ha.ev h1]) (fun a ha => by simp [ha.ev h2]) (.inr ⟨_, rfl⟩) (.inr ⟨_, rfl⟩) hb k
end

section
variable {P : Program} {N : Nat} {Q : Post} {fr : Fr} {S : Asrt}
theorem WC.label {i : Nat} (h : WE N Q .normal fr S) : WC P N (.label i) Q fr S := fun a w ha hs => wp_label (h a w ha hs)
theorem WC.scope {c : Code} (h : WC P N c (Exit.noGoto Q) fr S) : WC P N (.scope c) Q fr S := fun a w ha hs => wp_scope_straight (h a w ha hs)
theorem WE.scopeN (h : WE N Q .normal fr S) : WE N (Exit.noGoto Q) .normal fr S := fun a w ha hs => by simpa [Exit.noGoto] using h a w ha hs
theorem WE.scopeRet (h : WE N Q .ret fr S) : WE N (Exit.noGoto Q) .ret fr S := fun a w ha hs => by simpa [Exit.noGoto] using h a w ha hs
theorem WE.scopeExit {id : Nat} (h : WE N Q (.exit id) fr S) : WE N (Exit.noGoto Q) (.exit id) fr S := fun a w ha hs => by simpa [Exit.noGoto] using h a w ha hs
end
end Go.EL
