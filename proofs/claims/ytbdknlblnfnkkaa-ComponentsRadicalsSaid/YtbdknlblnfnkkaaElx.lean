/- Slices that are made. The conditions stand in each statement. -/
import Derived.Test.YtbdknlblnfnkkaaElw
import Derived.Laws.MakeOwn
namespace Go.EL
open Go Go.RowKit Go.Proofs
theorem made_flat {z : Array Value} (h0 : 0 < z.size) : ∀ n : Nat, (madeCells z (n * z.size)).toList = (List.replicate n z.toList).flatten
  | 0 => by simp [madeCells]
  | n + 1 => by
    rw [List.replicate_succ', List.flatten_append, List.flatten_cons, List.flatten_nil, List.append_nil, ← made_flat h0 n]
    apply List.ext_getElem?
    intro i
    have hlen : (madeCells z (n * z.size)).toList.length = n * z.size := by simp [madeCells]
    rw [List.getElem?_append, hlen]
    split
    · rename_i h
      have h1 : i < (n + 1) * z.size := by rw [Nat.add_mul]; omega
      simp [madeCells, h, h1]
    · rename_i h
      by_cases h2 : i < (n + 1) * z.size
      · have h3 : i - n * z.size < z.size := by rw [Nat.add_mul] at h2; omega
        have h4 : i % z.size = i - n * z.size := by
          have : i = (i - n * z.size) + z.size * n := by rw [Nat.mul_comm z.size n]; omega
          rw [this, Nat.add_mul_mod_self_left, Nat.mod_eq_of_lt (by omega)]
          rw [Nat.mul_comm z.size n]; omega
        simp [madeCells, h2, h4, h3]
      · have h3 : ¬ i - n * z.size < z.size := by rw [Nat.add_mul] at h2; omega
        rw [List.getElem?_eq_none (by simp [madeCells]; omega), List.getElem?_eq_none (by simp; omega)]
theorem RepL.replicate {α : Type} {r : Rp α} {G : Mem} {c : List Value} {x : α} (h : r.rep G c x) : ∀ n : Nat, RepL r G (List.replicate n c).flatten (List.replicate n x)
  | 0 => rfl
  | n + 1 => by rw [List.replicate_succ, List.replicate_succ, List.flatten_cons]; exact ⟨c, _, rfl, h, RepL.replicate h n⟩
section
variable {P : Program} {N : Nat} {Q : Post} {fr : Fr} {ops : Array Oper} {l : List Oper} {dst : Option Nat} {ty : TypeId} {pos : String} {af : Array Edge} {g : Option (Nat × Bool)}
variable {w0 : Bs} {G0 G : Mem} {L : Lo} {α : Type} {r : Rp α} {e : TypeId} {w : World}
theorem WL.makeT {t : TypeId} {z : Value} {x y : Operand} {bytes : Nat} {k k' : IntKind} {n : Int} {zx : α} (key : Nat) (hg : guardOK ops fr ⟨dst, .makeSlice t x y, ty, pos, af, g⟩ true) (hd : dstOK N dst) (ht : P.underlying t = some (.slice e)) (hE : ElT P e z r.size bytes) (hzs : z.cells.size = r.size) (hby : bytes ≤ 100000) (h0 : 0 < r.size)
    (hrep : r.rep G z.cells.toList zx) (hx : fr.ev x = some (.int k n)) (hy : fr.ev y = some (.int k' n)) (hn : 0 ≤ n ∧ n ≤ 1000000)
    (kk : ∀ p tk, RowR r e G (.slice p n.toNat n.toNat) (List.replicate n.toNat zx) tk → WL P N ops Q l (putFr dst (.slice p n.toNat n.toNat) fr) (St w0 G0 G ((key, tk) :: L))) : WL P N ops Q (⟨dst, .makeSlice t x y, ty, pos, af, g⟩ :: l) fr (St w0 G0 G L) := by
  obtain ⟨i, hi, hz, hsz, hbt⟩ := hE.parts
  refine WL.yr (Φ := fun v w => ∃ p tk, v = .slice p n.toNat n.toNat ∧ RowR r e G (.slice p n.toNat n.toNat) (List.replicate n.toNat zx) tk ∧ St w0 G0 G ((key, tk) :: L) w) hg (fun a w ha hs => ?_) hd (fun v a w ha ⟨p, tk, h1, h2, h3⟩ => by subst h1; exact kk p tk h2 a w ha h3)
  have hbn : (i.bytes : Int) * n ≤ 281474976710656 := by
    have h1 : (i.bytes : Int) ≤ 100000 := by omega
    have : (i.bytes : Int) * n ≤ 100000 * 1000000 := Int.mul_le_mul h1 hn.2 hn.1 (by omega)
    omega
  have hr := run_make w t e i z ht hi hz k k' n n hn.1 (Int.le_refl _) hbn (by omega)
  have : (execOp a.eval ⟨dst, .makeSlice t x y, ty, pos, af, g⟩).run P w = .ok (.value (.slice (some ⟨w.heap.size, 0, none⟩) n.toNat n.toNat)) (w.alloc (.cells (madeCells z.cells (n.toNat * i.size)) e)) := by
    simp [execOp, ha.ev hx, ha.ev hy, hr]
  rw [this]
  refine ⟨_, some ⟨w.heap.size, .cells (madeCells z.cells (n.toNat * i.size)) e (0, 0), 0⟩, rfl, ?_, hs.push key _⟩
  rw [hsz, ← hzs]
  refine ⟨n.toNat, (madeCells z.cells (n.toNat * z.cells.size)).toList, [], by simp, by simp, rfl, ?_, by simp [madeCells, hzs], by simp only [maxLen]; omega, by simp⟩
  rw [made_flat (by omega)]
  exact RepL.replicate hrep _
theorem Y0.nilCheck {S : Asrt} {x : Operand} {a : Addr} (hx : fr.ev x = some (.pointer (some a))) : Y0 P N ⟨dst, .nilCheck x, ty, pos, af, g⟩ fr S (.pointer (some a)) := fun b w hb _ => by simp [execOp, hb.ev hx]
theorem St.knowZ {i b m n : Nat} {c : Array Value} {t : TypeId} (h : St w0 G0 G L w) (hi : L.get i = some ⟨b, .cells c t (0, 0), m⟩) (h0 : w0.L.zero) (hmn : m ≤ n) :
    St w0 G0 (Mem.row G b c m n) ((i, some ⟨b, .cells c t (0, 0), n⟩) :: L) w ∧ Mem.le G (Mem.row G b c m n) := by
  obtain ⟨l1, l2, l3⟩ := h.loc i _ hi
  have hle := Mem.le_row (c := c) (n := n) l3
  refine ⟨⟨h.os, h.tape, h.output, h.drawn, h.size, h.block, Mem.le_trans h.base hle, fun b' o v hv => ?_, fun b' o v hv => ?_, fun j y hj => ?_, fun j k y z hne e1 e2 => ?_⟩, hle⟩
  · unfold Mem.row at hv
    split at hv
    · rename_i e
      obtain ⟨e1, _, _⟩ := e
      subst e1
      rw [cell_of_row w b' o c t (0, 0) l1]; exact hv
    · exact h.imm b' o v hv
  · unfold Mem.row at hv
    split at hv
    · rename_i e
      obtain ⟨e1, _, _⟩ := e
      subst e1
      exact .inr (l2.elim (fun ⟨y, e, eb⟩ => .inr ⟨i, y, e, eb, by rw [Lo.zero_get h0 e]; exact Nat.zero_le _⟩) (fun h => .inl h))
    · exact h.fresh b' o v hv
  · rw [Lo.get_cons] at hj
    split at hj
    · rename_i hij
      subst hij
      simp only [Option.some.injEq] at hj
      subst hj
      refine ⟨l1, l2, fun k hk => ?_⟩
      unfold Mem.row
      rw [if_neg (by dsimp only at hk ⊢; omega)]
      exact l3 k (Nat.le_trans hmn hk)
    · rename_i hij
      obtain ⟨m1, m2, m3⟩ := h.loc j y hj
      refine ⟨m1, m2, fun k hk => ?_⟩
      have hb : y.b ≠ b := fun e => h.dist i j _ y hij hi hj e.symm
      unfold Mem.row
      rw [if_neg (fun e => hb e.1)]
      exact m3 k hk
  · rw [Lo.get_cons] at e1 e2
    split at e1 <;> split at e2
    · omega
    · rename_i hij hik
      simp only [Option.some.injEq] at e1
      subst e1
      exact h.dist i k ⟨b, .cells c t (0, 0), m⟩ z hik hi e2
    · rename_i hij hik
      simp only [Option.some.injEq] at e2
      subst e2
      exact h.dist j i y ⟨b, .cells c t (0, 0), m⟩ (fun e => hij e.symm) e1 hi
    · exact h.dist j k _ _ hne e1 e2
theorem RowR.freezeZ {v : Value} {xs : List α} {tk : Option Ow} {key : Nat} (h : RowR r e G v xs tk) (hid : L.get key = tk) (h0 : w0.L.zero) {w : World} (hs : St w0 G0 G L w) :
    ∃ G' tk', Mem.le G G' ∧ SlR r G' v xs ∧ Tok r.size e v xs.length tk' ∧ St w0 G0 G' ((key, tk') :: L) w ∧ (∀ Gx L' w', Mem.le G Gx → Mem.le G' Gx → St w0 G0 Gx ((key, tk') :: L') w' → St w0 G0 G ((key, tk) :: L') w') := by
  cases tk with
  | none =>
    obtain ⟨rfl, p, rfl, hp⟩ := h
    exact ⟨G, none, Mem.le_refl _, ⟨p, 0, [], rfl, by simp, hp, fun h => by simp at h, rfl, fun j u h => by simp at h⟩, ⟨p, rfl⟩, hs.weaken (Lo.sub_cons hid (Lo.sub_refl _)), fun Gx L' w' h1 _ h2 => h2.memLe hs.base h1⟩
  | some x =>
    obtain ⟨cap, cs, rest, rfl, h2, h3, h4, h5, h6, h7⟩ := h
    obtain ⟨xb, xo, xm⟩ := x
    dsimp only at h2 h3
    subst h2 h3
    have hl := h4.len
    obtain ⟨k1, k2⟩ := hs.knowZ (i := key) (n := xs.length * r.size) hid h0 (Nat.zero_le _)
    refine ⟨_, some ⟨xb, .cells (cs ++ rest).toArray e (0, 0), xs.length * r.size⟩, k2, ⟨_, cap, cs, rfl, by simp only [maxLen] at h6; omega, fun a ha => by cases ha; rfl, fun _ => rfl, h4.mono k2, fun j u hu => ?_⟩, ⟨cap, _, rfl, rfl, rfl, by simpa using h5, h6, h7⟩, k1, fun Gx L' w' e1 e2 e3 => ?_⟩
    · have hj := (List.getElem?_eq_some_iff.1 hu).1
      show Mem.row G xb _ 0 _ xb (0 + j) = some u
      rw [Nat.zero_add, Mem.row_at (Nat.zero_le _) (by rw [← hl]; exact hj), List.getElem?_toArray, List.getElem?_append_left hj]
      exact hu
    · exact (e3.memLe hs.base e1).unmark (fun k => (hs.loc key _ hid).2.2 k (Nat.zero_le _))
theorem WL.peekZ {op : Op} {v c : Value} {xs : List α} {tk : Option Ow} (key : Nat) (L' : Lo) (h : RowR r e G v xs tk) (hid : L.get key = tk) (h0 : w0.L.zero) (hg : guardOK ops fr ⟨dst, op, ty, pos, af, g⟩ true) (hd : dstOK N dst)
    (hy : ∀ tk' G', Mem.le G G' → SlR r G' v xs → YR P N ⟨dst, op, ty, pos, af, g⟩ fr (St w0 G0 G' ((key, tk') :: L)) (fun u w' => u = c ∧ ∃ G'', Mem.le G' G'' ∧ St w0 G0 G'' ((key, tk') :: L') w'))
    (k : WL P N ops Q l (putFr dst c fr) (St w0 G0 G ((key, tk) :: L'))) : WL P N ops Q (⟨dst, op, ty, pos, af, g⟩ :: l) fr (St w0 G0 G L) := by
  refine WL.yr (Φ := fun u w' => u = c ∧ St w0 G0 G ((key, tk) :: L') w') hg (fun a w ha hs => ?_) hd (fun u a w ha ⟨h1, h2⟩ => by subst h1; exact k a w ha h2)
  obtain ⟨G', tk', h1, h2, h3, h4, h5⟩ := h.freezeZ hid h0 hs
  exact (hy tk' G' h1 h2 a w ha h4).mono fun u w' ⟨q1, G'', q2, q3⟩ => ⟨q1, h5 G'' L' w' (Mem.le_trans h1 q2) q2 q3⟩
theorem WL.peekROZ {op : Op} {f : FuncId} {args args' : Array Value} {L1 : Lo} {pre : Mem → Prop} {v c : Value} {xs : List α} {tk : Option Ow} (key : Nat) (hrow : RowR r e G v xs tk) (hid : L.get key = tk) (h0 : w0.L.zero) (hg : guardOK ops fr ⟨dst, op, ty, pos, af, g⟩ true) (hd : dstOK N dst)
    (h : ∀ S, YC P N ⟨dst, op, ty, pos, af, g⟩ fr S f args') (sp : CtrL P f args L1 pre (fun _ L' v => L' = L1 ∧ v = c)) (e' : args' = args) (hp : ∀ G', Mem.le G G' → SlR r G' v xs → pre G')
    (h1 : Lo.sub L1 L) (hsame : ∀ i, i ∈ L1.map (·.1) → L1.get i = L.get i ∧ key ≠ i) (hz : w0.L.zero)
    (k : WL P N ops Q l (putFr dst c fr) (St w0 G0 G L)) : WL P N ops Q (⟨dst, op, ty, pos, af, g⟩ :: l) fr (St w0 G0 G L) := by
  refine WL.peekZ key L hrow hid h0 hg hd (fun tk' G' hle hsl a w ha hs => ?_) (WL.conseq (fun w hs => hs.weaken (fun i x hx => ?_)) k)
  · exact (YC.yrRO (h _) sp e' (hp G' hle hsl) (fun i x hx => by
      have hi := Lo.mem_of_get hx
      rw [Lo.get_cons, if_neg (hsame i hi).2]
      exact h1 i x hx) (fun i hi => by rw [Lo.get_cons, if_neg (hsame i hi).2]; exact (hsame i hi).1) hz a w ha hs).mono fun u w' ⟨G'', q1, q2, q3⟩ => ⟨q3, G'', q1, q2⟩
  · rw [Lo.get_cons]
    split
    · rename_i e2; subst e2; rw [← hid]; exact hx
    · exact hx
end
end Go.EL
