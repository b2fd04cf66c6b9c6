/- Small rules for calls whose arguments are written out, slices that are written out; the sorted list is the only one. The conditions stand in each statement. -/
import Derived.Test.YtdpmpefjplfgbaaEll
namespace Go.EL
open Go Go.RowKit
theorem Ctr.eqv {P : Program} {f : FuncId} {args : Array Value} {pre : Mem → Prop} {c c' : Value} (h : Ctr P f args pre (fun _ r => r = c)) (e : c = c') : Ctr P f args pre (fun _ r => r = c') := by subst e; exact h
theorem Ctr.eqvB {P : Program} {f : FuncId} {args : Array Value} {pre : Mem → Prop} {b b' : Bool} (h : Ctr P f args pre (fun _ r => r = .bool b)) (e : b = b') : Ctr P f args pre (fun _ r => r = .bool b') := by subst e; exact h
theorem Ctr.eqvI {P : Program} {f : FuncId} {args : Array Value} {pre : Mem → Prop} {k : IntKind} {b b' : Int} (h : Ctr P f args pre (fun _ r => r = .int k b)) (e : b = b') : Ctr P f args pre (fun _ r => r = .int k b') := by subst e; exact h
theorem Ctr.eqvM {P : Program} {f : FuncId} {args : Array Value} {pre : Mem → Prop} {b b' : M} (h : Ctr P f args pre (fun _ r => r = .agg (vecA b))) (e : b = b') : Ctr P f args pre (fun _ r => r = .agg (vecA b')) := by subst e; exact h
theorem Ctr.yes {P : Program} {f : FuncId} {args : Array Value} {pre : Mem → Prop} {c : Prop} [Decidable c] {x y : Value} (h : Ctr P f args pre (fun _ r => r = if c then x else y)) (hc : c) : Ctr P f args pre (fun _ r => r = x) := h.eqv (if_pos hc)
theorem Ctr.no {P : Program} {f : FuncId} {args : Array Value} {pre : Mem → Prop} {c : Prop} [Decidable c] {x y : Value} (h : Ctr P f args pre (fun _ r => r = if c then x else y)) (hc : ¬ c) : Ctr P f args pre (fun _ r => r = y) := h.eqv (if_neg hc)
/-- A slice literal is given away. -/
theorem WL.giveHead {P : Program} {N : Nat} {Q : Post} {fr : Fr} {w0 : Bs} {G0 G : Mem} {ops : Array Oper} {rest : List Oper} {L : Lo} {i b : Nat} {e : TypeId} {c : Array Value} (l : List M) (hc : c = (flat l).toArray) (hid : L.get i = none) (h0 : w0.L.get i = none) (hl : l.length ≤ 1000000)
    (k : ∀ G', Mem.le G G' → SlM G' (.slice (some ⟨b, 0, none⟩) l.length l.length) l → WL P N ops Q rest fr (St w0 G0 G' L)) : WL P N ops Q rest fr (St w0 G0 G ((i, b, .cells c e (0, 0)) :: L)) := by
  subst hc
  refine WL.conseq (S' := St w0 G0 G (L ++ rowL i e (some ⟨b, l.length, (flat l).toArray⟩))) (fun w hs => hs.weaken ?_) ?_
  · intro j x hx
    rw [Lo.get_append] at hx
    rw [Lo.get_cons]
    by_cases hj : i = j
    · subst hj; rw [hid] at hx; simpa [rowL, Lo.get] using hx
    · rw [if_neg hj]
      cases h2 : L.get j with
      | some y => rw [h2] at hx; simpa using hx
      | none => rw [h2] at hx; simp only [rowL, Option.none_or, Lo.get] at hx
                cases hb : Nat.beq i j with
                | true => exact absurd (Nat.eq_of_beq_eq_true hb) hj
                | false => rw [hb] at hx; cases hx
  · exact WL.give hid h0 (ov := some ⟨b, l.length, (flat l).toArray⟩) ⟨flat_length l, Nat.le_refl _, by simp only [maxLen]; omega, by simp [flat_length], by simp [List.take_of_length_le, flat_length]⟩ k
theorem sortM_unique {l l' : List M} (hp : l'.Perm l) (hs : l'.Pairwise fun x y => cmpM x y ≤ 0) : sortM l = l' := by
  refine List.Perm.eq_of_pairwise (le := fun x y => cmpM x y ≤ 0) ?_ (sortM_sorted l) hs ((sortM_perm l).trans hp.symm)
  intro a b _ _ h1 h2
  have := cmpM_neg a b
  exact cmpM_zero (by omega)
theorem sane_min : minimalM [mono3 1 2 0, mono3 2 0 0, mono3 1 1 0, mono3 2 0 0, mono3 1 2 0] = [mono3 2 0 0, mono3 1 1 0] := by
  have : sortM [mono3 1 2 0, mono3 2 0 0, mono3 1 1 0, mono3 2 0 0, mono3 1 2 0] = [mono3 1 1 0, mono3 1 2 0, mono3 1 2 0, mono3 2 0 0, mono3 2 0 0] := sortM_unique (by decide) (by decide)
  unfold minimalM
  rw [this]
  decide
end Go.EL
