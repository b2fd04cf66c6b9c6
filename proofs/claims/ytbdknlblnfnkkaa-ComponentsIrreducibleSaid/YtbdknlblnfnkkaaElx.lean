/- Slices that are made. The conditions stand in each statement. -/
import Derived.Test.YtbdknlblnfnkkaaElw
import Derived.Laws.MakeOwn
namespace Go.EL
open Go Go.RowKit Go.Proofs
theorem made_flat {z : Array Value} (h0 : 0 < z.size) : ∀ n : Nat, (madeCells z (n * z.size)).toList = (List.replicate n z.toList).flatten
  | 0 => by simp [madeCells]
  | n + 1 => by
    rw [List.replicate_succ', List.flatten_append, List.flatten_cons, List.flatten_nil, List.append_nil, ← made_flat h0 n]
    apply List.ext_getElem?
    intro i
    have hlen : (madeCells z (n * z.size)).toList.length = n * z.size := by simp [madeCells]
    rw [List.getElem?_append, hlen]
    split
    · rename_i h
      have h1 : i < (n + 1) * z.size := by rw [Nat.add_mul]; omega
      simp [madeCells, h, h1]
    · rename_i h
      by_cases h2 : i < (n + 1) * z.size
      · have h3 : i - n * z.size < z.size := by rw [Nat.add_mul] at h2; omega
        have h4 : i % z.size = i - n * z.size := by
          have : i = (i - n * z.size) + z.size * n := by rw [Nat.mul_comm z.size n]; omega
          rw [this, Nat.add_mul_mod_self_left, Nat.mod_eq_of_lt (by omega)]
          rw [Nat.mul_comm z.size n]; omega
        simp [madeCells, h2, h4, h3]
      · have h3 : ¬ i - n * z.size < z.size := by rw [Nat.add_mul] at h2; omega
        rw [List.getElem?_eq_none (by simp [madeCells]; omega), List.getElem?_eq_none (by simp; omega)]
theorem RepL.replicate {α : Type} {r : Rp α} {G : Mem} {c : List Value} {x : α} (h : r.rep G c x) : ∀ n : Nat, RepL r G (List.replicate n c).flatten (List.replicate n x)
  | 0 => rfl
  | n + 1 => by rw [List.replicate_succ, List.replicate_succ, List.flatten_cons]; exact ⟨c, _, rfl, h, RepL.replicate h n⟩
section
variable {P : Program} {N : Nat} {Q : Post} {fr : Fr} {ops : Array Oper} {l : List Oper} {dst : Option Nat} {ty : TypeId} {pos : String} {af : Array Edge} {g : Option (Nat × Bool)}
variable {w0 : Bs} {G0 G : Mem} {L : Lo} {α : Type} {r : Rp α} {e : TypeId}
theorem WL.makeT {t : TypeId} {z : Value} {x y : Operand} {bytes : Nat} {k k' : IntKind} {n : Int} {zx : α} (key : Nat) (hg : guardOK ops fr ⟨dst, .makeSlice t x y, ty, pos, af, g⟩ true) (hd : dstOK N dst) (ht : P.underlying t = some (.slice e)) (hE : ElT P e z r.size bytes) (hzs : z.cells.size = r.size) (hby : bytes ≤ 100000) (h0 : 0 < r.size)
    (hrep : r.rep G z.cells.toList zx) (hx : fr.ev x = some (.int k n)) (hy : fr.ev y = some (.int k' n)) (hn : 0 ≤ n ∧ n ≤ 1000000)
    (kk : ∀ p tk, RowR r e G (.slice p n.toNat n.toNat) (List.replicate n.toNat zx) tk → WL P N ops Q l (putFr dst (.slice p n.toNat n.toNat) fr) (St w0 G0 G ((key, tk) :: L))) : WL P N ops Q (⟨dst, .makeSlice t x y, ty, pos, af, g⟩ :: l) fr (St w0 G0 G L) := by
  obtain ⟨i, hi, hz, hsz, hbt⟩ := hE.parts
  refine WL.yr (Φ := fun v w => ∃ p tk, v = .slice p n.toNat n.toNat ∧ RowR r e G (.slice p n.toNat n.toNat) (List.replicate n.toNat zx) tk ∧ St w0 G0 G ((key, tk) :: L) w) hg (fun a w ha hs => ?_) hd (fun v a w ha ⟨p, tk, h1, h2, h3⟩ => by subst h1; exact kk p tk h2 a w ha h3)
  have hbn : (i.bytes : Int) * n ≤ 281474976710656 := by
    have h1 : (i.bytes : Int) ≤ 100000 := by omega
    have : (i.bytes : Int) * n ≤ 100000 * 1000000 := Int.mul_le_mul h1 hn.2 hn.1 (by omega)
    omega
  have hr := run_make w t e i z ht hi hz k k' n n hn.1 (Int.le_refl _) hbn (by omega)
  have : (execOp a.eval ⟨dst, .makeSlice t x y, ty, pos, af, g⟩).run P w = .ok (.value (.slice (some ⟨w.heap.size, 0, none⟩) n.toNat n.toNat)) (w.alloc (.cells (madeCells z.cells (n.toNat * i.size)) e)) := by
    simp [execOp, ha.ev hx, ha.ev hy, hr]
  rw [this]
  refine ⟨_, some ⟨w.heap.size, .cells (madeCells z.cells (n.toNat * i.size)) e (0, 0), 0⟩, rfl, ?_, hs.push key _⟩
  rw [hsz, ← hzs]
  refine ⟨n.toNat, (madeCells z.cells (n.toNat * z.cells.size)).toList, [], by simp, by simp, rfl, ?_, by simp [madeCells, hzs], by simp only [maxLen]; omega, by simp⟩
  rw [made_flat (by omega)]
  exact RepL.replicate hrep _
end
end Go.EL
