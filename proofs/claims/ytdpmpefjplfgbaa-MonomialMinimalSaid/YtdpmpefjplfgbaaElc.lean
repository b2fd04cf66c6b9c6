/- Memory: cells that never change, blocks of the call's own; contracts of functions; regions that draw their order, by a chain of premises. No condition. -/
import Derived.Test.YtdpmpefjplfgbaaElb
import Derived.Below
namespace Go.EL
open Go Go.RowKit

/-- Known cells that never change. -/
abbrev Mem := Nat → Nat → Option Value
def Mem.le (G G' : Mem) : Prop := ∀ b o v, G b o = some v → G' b o = some v
theorem Mem.le_refl (G : Mem) : Mem.le G G := fun _ _ _ h => h
theorem Mem.le_trans {A B C : Mem} (h : Mem.le A B) (k : Mem.le B C) : Mem.le A C := fun b o v e => k b o v (h b o v e)
def Imm (G : Mem) (w : World) : Prop := ∀ b o v, G b o = some v → w.cell? ⟨b, o, none⟩ = some v
theorem Imm.lt {G : Mem} {w : World} (h : Imm G w) {b o : Nat} {v : Value} (e : G b o = some v) : b < w.heap.size := World.block_lt_of_cell? w _ (h b o v e)

/-- Blocks of the call's own: a name, the block, what it holds. The first entry of a name counts. -/
abbrev Lo := List (Nat × Nat × Obj)
def Lo.get : Lo → Nat → Option (Nat × Obj)
  | [], _ => none
  | p :: r, i => bif Nat.beq p.1 i then some p.2 else Lo.get r i
def Lo.sub (L' L : Lo) : Prop := ∀ i x, L'.get i = some x → L.get i = some x
theorem Lo.sub_nil (L : Lo) : Lo.sub [] L := fun t v h => by simp [Lo.get] at h
theorem Lo.sub_cons {L' L : Lo} {i : Nat} {x : Nat × Obj} (h : L.get i = some x) (hs : Lo.sub L' L) : Lo.sub ((i, x) :: L') L := by
  intro u y hy
  simp only [Lo.get] at hy
  cases hb : Nat.beq i u with
  | true =>
    rw [hb] at hy
    simp only [cond_true, Option.some.injEq] at hy
    have := Nat.eq_of_beq_eq_true hb
    subst this hy
    exact h
  | false =>
    rw [hb] at hy
    simp only [cond_false] at hy
    exact hs u y hy
theorem Lo.get_cons {L : Lo} {i j : Nat} {x : Nat × Obj} : Lo.get ((i, x) :: L) j = if i = j then some x else L.get j := by
  simp only [Lo.get]
  by_cases e : i = j
  · subst e; simp
  · have : Nat.beq i j = false := by cases hb : Nat.beq i j; rfl; exact absurd (Nat.eq_of_beq_eq_true hb) e
    simp [this, e]

/-- The start of a call: its world, and the blocks that the caller lends it. -/
structure Bs where
  w : World
  L : Lo

structure St (w0 : Bs) (G0 G : Mem) (L : Lo) (w : World) : Prop where
  os : w.os = w0.w.os
  tape : w.tape = w0.w.tape
  output : w.output = w0.w.output
  drawn : w0.w.drawn ≤ w.drawn
  size : w0.w.heap.size ≤ w.heap.size
  block : ∀ k, k < w0.w.heap.size → (∀ i o, w0.L.get i ≠ some (k, o)) → w.heap[k]? = w0.w.heap[k]?
  base : Mem.le G0 G
  imm : Imm G w
  fresh : ∀ b o v, G b o = some v → G0 b o = some v ∨ w0.w.heap.size ≤ b
  loc : ∀ i b o, L.get i = some (b, o) → w.heap[b]? = some o ∧ ((∃ o', w0.L.get i = some (b, o')) ∨ w0.w.heap.size ≤ b) ∧ ∀ k, G b k = none
  dist : ∀ i j b o b' o', i ≠ j → L.get i = some (b, o) → L.get j = some (b', o') → b ≠ b'

theorem St.weaken {w0 : Bs} {G0 G : Mem} {L L' : Lo} {w : World} (h : St w0 G0 G L w) (hs : Lo.sub L' L) : St w0 G0 G L' w :=
  { h with loc := fun i b o e => h.loc i b o (hs _ _ e), dist := fun i j b o b' o' hne e e' => h.dist i j b o b' o' hne (hs _ _ e) (hs _ _ e') }
theorem St.memLe {w0 : Bs} {G0 G G' : Mem} {L : Lo} {w : World} (h : St w0 G0 G' L w) (hb : Mem.le G0 G) (hs : Mem.le G G') : St w0 G0 G L w :=
  { h with
    base := hb
    imm := fun b o v e => h.imm b o v (hs b o v e)
    fresh := fun b o v e => h.fresh b o v (hs b o v e)
    loc := fun i b o e => ⟨(h.loc i b o e).1, (h.loc i b o e).2.1, fun k => by
      have := (h.loc i b o e).2.2 k
      cases hk : G b k with
      | none => rfl
      | some v => rw [hs b k v hk] at this; cases this⟩ }
theorem St.drew {w0 : Bs} {G0 G : Mem} {L : Lo} {w : World} (h : St w0 G0 G L w) : St w0 G0 G L { w with drawn := w.drawn + 1 } :=
  ⟨h.os, h.tape, h.output, Nat.le_succ_of_le h.drawn, h.size, h.block, h.base, h.imm, h.fresh, h.loc, h.dist⟩

/-- What a caller knows ahead of a call: the cells, and the blocks that it lends. -/
structure Hp (G : Mem) (L : Lo) (w : World) : Prop where
  imm : Imm G w
  loc : ∀ i b o, L.get i = some (b, o) → w.heap[b]? = some o ∧ ∀ k, G b k = none
  dist : ∀ i j b o b' o', i ≠ j → L.get i = some (b, o) → L.get j = some (b', o') → b ≠ b'

/-- What a call leaves: the lent blocks and new ones turned; what is known of them. -/
structure Ext (w : World) (G : Mem) (L : Lo) (w' : World) (G' : Mem) (L' : Lo) : Prop where
  os : w'.os = w.os
  tape : w'.tape = w.tape
  output : w'.output = w.output
  drawn : w.drawn ≤ w'.drawn
  size : w.heap.size ≤ w'.heap.size
  block : ∀ k, k < w.heap.size → (∀ i o, L.get i ≠ some (k, o)) → w'.heap[k]? = w.heap[k]?
  le : Mem.le G G'
  imm : Imm G' w'
  fresh : ∀ b o v, G' b o = some v → G b o = some v ∨ w.heap.size ≤ b
  loc : ∀ i b o, L'.get i = some (b, o) → w'.heap[b]? = some o ∧ ((∃ o', L.get i = some (b, o')) ∨ w.heap.size ≤ b) ∧ ∀ k, G' b k = none
  dist : ∀ i j b o b' o', i ≠ j → L'.get i = some (b, o) → L'.get j = some (b', o') → b ≠ b'

theorem Lo.get_append (A B : Lo) (i : Nat) : Lo.get (A ++ B) i = (A.get i).or (B.get i) := by
  induction A with
  | nil => simp [Lo.get]
  | cons p A ih =>
    simp only [List.cons_append, Lo.get]
    cases Nat.beq p.1 i <;> simp [ih]

theorem St.ext {w0 : Bs} {G0 G G' : Mem} {L L1 L2 R : Lo} {w w' : World} (h : St w0 G0 G L w) (e : Ext w G L1 w' G' L2) (h1 : Lo.sub L1 L) (hR : Lo.sub R L) (hno : ∀ i x, R.get i = some x → L1.get i = none) : St w0 G0 G' (L2 ++ R) w' := by
  have lt : ∀ i b o, L.get i = some (b, o) → b < w.heap.size := fun i b o hi => (Array.getElem?_eq_some_iff.1 (h.loc i b o hi).1).1
  have rest : ∀ i b o, R.get i = some (b, o) → w'.heap[b]? = some o ∧ ((∃ o', w0.L.get i = some (b, o')) ∨ w0.w.heap.size ≤ b) ∧ ∀ k, G' b k = none := by
    intro i b o hi
    obtain ⟨m1, m2, m3⟩ := h.loc i b o (hR _ _ hi)
    have hb := lt i b o (hR _ _ hi)
    refine ⟨?_, m2, fun k => ?_⟩
    · rw [e.block b hb (fun j o' hj => ?_)]
      · exact m1
      · have hij : i ≠ j := fun e' => by subst e'; rw [hno i _ hi] at hj; cases hj
        exact h.dist i j b o b o' hij (hR _ _ hi) (h1 _ _ hj) rfl
    · cases hk : G' b k with
      | none => rfl
      | some v =>
        rcases e.fresh b k v hk with h' | h'
        · rw [m3 k] at h'; cases h'
        · omega
  refine ⟨e.os.trans h.os, e.tape.trans h.tape, e.output.trans h.output, Nat.le_trans h.drawn e.drawn, Nat.le_trans h.size e.size, fun k hk hn => ?_, Mem.le_trans h.base e.le, e.imm, fun b o v hv => (e.fresh b o v hv).elim (h.fresh b o v) (fun hb => .inr (Nat.le_trans h.size hb)), fun i b o hi => ?_, fun i j b o b' o' hne hi hj => ?_⟩
  · have hs := h.size
    rw [e.block k (by omega) (fun i o hi => ?_)]
    · exact h.block k hk hn
    · obtain ⟨m1, m2, _⟩ := h.loc i k o (h1 _ _ hi)
      rcases m2 with ⟨o', m2⟩ | m2
      · exact hn i o' m2
      · omega
  · rw [Lo.get_append] at hi
    cases h2 : L2.get i with
    | none => rw [h2] at hi; exact rest i b o (by simpa using hi)
    | some x =>
      rw [h2] at hi
      simp only [Option.some_or, Option.some.injEq] at hi
      subst hi
      obtain ⟨m1, m2, m3⟩ := e.loc i b o h2
      refine ⟨m1, ?_, m3⟩
      rcases m2 with ⟨o', m2⟩ | m2
      · exact (h.loc i b o' (h1 _ _ m2)).2.1
      · exact .inr (Nat.le_trans h.size m2)
  · rw [Lo.get_append] at hi hj
    cases h2 : L2.get i with
    | none =>
      rw [h2] at hi
      cases h3 : L2.get j with
      | none =>
        rw [h3] at hj
        exact h.dist i j b o b' o' hne (hR _ _ (by simpa using hi)) (hR _ _ (by simpa using hj))
      | some y =>
        rw [h3] at hj
        simp only [Option.some_or, Option.some.injEq] at hj
        subst hj
        have hri : R.get i = some (b, o) := by simpa using hi
        rcases (e.loc j b' o' h3).2.1 with ⟨o'', m⟩ | m
        · exact h.dist i j b o b' o'' hne (hR _ _ hri) (h1 _ _ m)
        · have := lt i b o (hR _ _ hri)
          omega
    | some x =>
      rw [h2] at hi
      simp only [Option.some_or, Option.some.injEq] at hi
      subst hi
      cases h3 : L2.get j with
      | none =>
        rw [h3] at hj
        have hrj : R.get j = some (b', o') := by simpa using hj
        rcases (e.loc i b o h2).2.1 with ⟨o'', m⟩ | m
        · exact h.dist i j b o'' b' o' hne (h1 _ _ m) (hR _ _ hrj)
        · have := lt j b' o' (hR _ _ hrj)
          omega
      | some y =>
        rw [h3] at hj
        simp only [Option.some_or, Option.some.injEq] at hj
        subst hj
        exact e.dist i j b o b' o' hne h2 h3

/-- A contract: from every world in which the known cells and the lent blocks lie. -/
def RetL (w0 : Bs) (G : Mem) (post : Mem → Lo → Value → Prop) (e : Ending) (w' : World) : Prop := ∃ r G' L', e = .returned r ∧ Ext w0.w G w0.L w' G' L' ∧ post G' L' r
abbrev RetTo (w0 : Bs) (G : Mem) (post : Mem → Value → Prop) := RetL w0 G (fun G' _ r => post G' r)
def CtrL (P : Program) (f : FuncId) (args : Array Value) (L : Lo) (pre : Mem → Prop) (post : Mem → Lo → Value → Prop) : Prop :=
  ∀ w G, Hp G L w → pre G → Calls P f args w (RetL ⟨w, L⟩ G post)
/-- .. of a function that nothing is lent, and of whose own blocks nothing is told. -/
abbrev Ctr (P : Program) (f : FuncId) (args : Array Value) (pre : Mem → Prop) (post : Mem → Value → Prop) : Prop := CtrL P f args [] pre (fun G _ r => post G r)

theorem CtrL.mono {P : Program} {f : FuncId} {args : Array Value} {L : Lo} {pre pre' : Mem → Prop} {post post' : Mem → Lo → Value → Prop} (h : CtrL P f args L pre post) (hp : ∀ G, pre' G → pre G)
    (hq : ∀ G L r, post G L r → post' G L r) : CtrL P f args L pre' post' := fun w G hi hG => (h w G hi (hp G hG)).mono fun _ _ ⟨r, G', L', h1, h2, h3⟩ => ⟨r, G', L', h1, h2, hq _ _ _ h3⟩

/-- What an operation comes to. -/
def OpRes (P : Program) : Result Next → (Value → World → Prop) → Prop
  | .ok (.value v) w', Φ => Φ v w'
  | .ok .skip w', Φ => Φ undef w'
  | .ok (.enter f args) w', Φ => Calls P f args w' (fun e w'' => ∃ r, e = .returned r ∧ Φ r w'')
  | _, _ => False
theorem OpRes.mono {P : Program} {r : Result Next} {Φ Φ' : Value → World → Prop} (h : OpRes P r Φ) (hk : ∀ v w, Φ v w → Φ' v w) : OpRes P r Φ' := by
  cases r with
  | ok n w =>
    cases n <;> simp only [OpRes] at h ⊢
    case value v => exact hk _ _ h
    case skip => exact hk _ _ h
    case enter f args => exact h.mono fun e w'' ⟨r, h1, h2⟩ => ⟨r, h1, hk _ _ h2⟩
  | halt x w => exact h
theorem OpRes.wp {P : Program} {o : Oper} {a : Act} {w : World} {Φ : Value → World → Prop} {K : Act → World → Prop} {Q : Post} (h : OpRes P ((execOp a.eval o).run P w) Φ) (hk : ∀ v w', Φ v w' → K (a.put o.dst v) w') : o.wp P a w K Q := by
  unfold Oper.wp
  generalize (execOp a.eval o).run P w = r at h ⊢
  cases r with
  | ok n w' =>
    cases n <;> simp only [OpRes] at h <;> simp only [Oper.upon]
    case value v => exact hk _ _ h
    case skip => exact hk _ _ h
    case enter f args => exact h.mono fun e w'' ⟨r, h1, h2⟩ => by subst h1; exact hk _ _ h2
  | halt x w => exact h.elim

/-- An operation from every frame and world that fit. -/
def YR (P : Program) (N : Nat) (o : Oper) (fr : Fr) (S : Asrt) (Φ : Value → World → Prop) : Prop := ∀ a w, Rel N fr a → S w → OpRes P ((execOp a.eval o).run P w) Φ

section
variable {P : Program} {N : Nat} {Q : Post} {fr : Fr} {S : Asrt} {ops : Array Oper} {l : List Oper}
theorem Y0.yr {o : Oper} {v : Value} (h : Y0 P N o fr S v) : YR P N o fr S (fun v' w' => v' = v ∧ S w') := fun a w ha hs => by rw [h a w ha hs]; exact ⟨rfl, hs⟩
theorem WL.yr {dst : Option Nat} {op : Op} {ty : TypeId} {pos : String} {af : Array Edge} {g : Option (Nat × Bool)} {Φ : Value → Asrt}
    (hg : guardOK ops fr ⟨dst, op, ty, pos, af, g⟩ true) (h : YR P N ⟨dst, op, ty, pos, af, g⟩ fr S Φ) (hd : dstOK N dst) (k : ∀ v, WL P N ops Q l (putFr dst v fr) (Φ v)) : WL P N ops Q (⟨dst, op, ty, pos, af, g⟩ :: l) fr S := by
  intro a w ha hs
  unfold wpList
  rw [if_pos (ha.wanted hg)]
  exact .inl ((h a w ha hs).wp fun v w' hv => k v _ w' (ha.putFr v hd) hv)
end

/-! ### Regions that draw their order -/
/-- Q, but no other way out. -/
def NX (Q : Post) : Post := fun e a w => match e with | .normal => Q .normal a w | _ => False
theorem WE.nx {N : Nat} {Q : Post} {fr : Fr} {S : Asrt} (h : WE N Q .normal fr S) : WE N (NX Q) .normal fr S := h
/-- The known memory of a region that draws, and the blocks that its operations laid (by their numbers: the slot, the object). -/
abbrev Xm := Nat → Option (Nat × Obj)
structure Gx where
  m : Mem
  x : Xm
def Gx.of (G : Mem) : Gx := ⟨G, fun _ => none⟩
def Gx.le (g g' : Gx) : Prop := Mem.le g.m g'.m ∧ ∀ b y, g.x b = some y → g'.x b = some y
theorem Gx.le_refl (g : Gx) : Gx.le g g := ⟨Mem.le_refl _, fun _ _ h => h⟩
theorem Gx.le_trans {a b c : Gx} (h : Gx.le a b) (k : Gx.le b c) : Gx.le a c := ⟨Mem.le_trans h.1 k.1, fun x y e => k.2 x y (h.2 x y e)⟩
structure StX (w0 : Bs) (G0 : Mem) (g : Gx) (L : Lo) (w : World) : Prop where
  st : St w0 G0 g.m L w
  own : ∀ b i o, g.x b = some (i, o) → w.heap[b]? = some o ∧ w0.w.heap.size ≤ b ∧ (∀ k, g.m b k = none) ∧ ∀ j b' o', L.get j = some (b', o') → b' ≠ b
theorem StX.of {w0 : Bs} {G0 G : Mem} {L : Lo} {w : World} (h : St w0 G0 G L w) : StX w0 G0 (Gx.of G) L w := ⟨h, fun b i o e => by cases e⟩
abbrev Und := List (Nat × (Value → Gx → Prop))
def undFr : Und → (Nat → Value) → Fr
  | [], _ => []
  | p :: r, u => (p.1, u p.1) :: undFr r u
def undAll : Und → (Nat → Value) → Gx → Prop
  | [], _, _ => True
  | p :: r, u, G => p.2 (u p.1) G ∧ undAll r u G
def undLook (ops : Array Oper) (o : Oper) : Und → (Nat → Value) → Gx → Prop
  | [], _, _ => True
  | p :: r, u, G => (bif (o.looksAt ops).contains p.1 then p.2 (u p.1) G else True) ∧ undLook ops o r u G

section
variable (P : Program) (N : Nat) (Q : Post) (fr : Fr) (w0 : Bs) (G0 G : Mem) (L : Lo) (ops : Array Oper)
/-- Operation o, from every frame and world that fit, yields what meets Ψ. -/
def OpOK (F : Fr) (G' : Gx) (o : Oper) (Ψ : Value → Gx → Prop) : Prop :=
  (guardOK ops F o false ∧ Ψ undef G') ∨
  (guardOK ops F o true ∧ YR P N o F (StX w0 G0 G' L) (fun v w' => ∃ G'', Gx.le G' G'' ∧ StX w0 G0 G'' L w' ∧ Ψ v G''))
/-- The premises of the operations, one behind the other (a flag an operation: does it float?); behind them the tail in its order. -/
def Chain : List Bool → List Oper → Fr → Und → Prop
  | [], rest, det, und => ∀ u G', Gx.le (Gx.of G) G' → undAll und u G' → WL P N ops (NX Q) rest (undFr und u ++ (det ++ fr)) (StX w0 G0 G' L)
  | _ :: _, [], det, und => ∀ u G', Gx.le (Gx.of G) G' → undAll und u G' → WL P N ops (NX Q) [] (undFr und u ++ (det ++ fr)) (StX w0 G0 G' L)
  | true :: fs, o :: r, det, und => ∃ c, (∀ u, guardOK ops (undFr und u ++ (det ++ fr)) o true ∧ Y0 P N o (undFr und u ++ (det ++ fr)) (fun _ => True) c) ∧ Chain fs r (putFr o.dst c det) und
  | false :: fs, o :: r, det, und =>
    (∃ c, (∀ u G', Gx.le (Gx.of G) G' → undLook ops o und u G' → OpOK P N w0 G0 L ops (undFr und u ++ (det ++ fr)) G' o (fun v _ => v = c)) ∧ Chain fs r (putFr o.dst c det) und) ∨
    (∃ d φ, o.dst = some d ∧ (∀ v G₁ G₂, Gx.le G₁ G₂ → φ v G₁ → φ v G₂) ∧ (∀ u G', Gx.le (Gx.of G) G' → undLook ops o und u G' → OpOK P N w0 G0 L ops (undFr und u ++ (det ++ fr)) G' o φ) ∧ Chain fs r det ((d, φ) :: und))
end
end Go.EL
