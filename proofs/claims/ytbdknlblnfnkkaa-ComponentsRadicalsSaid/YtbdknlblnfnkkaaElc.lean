/- Memory: cells that never change, blocks of the call's own; contracts of functions; regions that draw their order, by a chain of premises. No condition. -/
import Derived.Test.YtbdknlblnfnkkaaElb
import Derived.Below
namespace Go.EL
open Go Go.RowKit

/-- Known cells that never change. -/
abbrev Mem := Nat → Nat → Option Value
def Mem.le (G G' : Mem) : Prop := ∀ b o v, G b o = some v → G' b o = some v
theorem Mem.le_refl (G : Mem) : Mem.le G G := fun _ _ _ h => h
theorem Mem.le_trans {A B C : Mem} (h : Mem.le A B) (k : Mem.le B C) : Mem.le A C := fun b o v e => k b o v (h b o v e)
def Imm (G : Mem) (w : World) : Prop := ∀ b o v, G b o = some v → w.cell? ⟨b, o, none⟩ = some v
theorem Imm.lt {G : Mem} {w : World} (h : Imm G w) {b o : Nat} {v : Value} (e : G b o = some v) : b < w.heap.size := World.block_lt_of_cell? w _ (h b o v e)

/-- A block of the call's own: the block, what it holds, and the mark from which on its cells are known to nobody else. -/
structure Ow where
  b : Nat
  o : Obj
  m : Nat
/-- Blocks of the call's own by names. The first entry of a name counts. -/
abbrev Lo := List (Nat × Option Ow)
def Lo.get : Lo → Nat → Option Ow
  | [], _ => none
  | p :: r, i => bif Nat.beq p.1 i then p.2 else Lo.get r i
def Lo.sub (L' L : Lo) : Prop := ∀ i x, L'.get i = some x → L.get i = some x
theorem Lo.sub_nil (L : Lo) : Lo.sub [] L := fun t v h => by simp [Lo.get] at h
theorem Lo.sub_refl (L : Lo) : Lo.sub L L := fun _ _ h => h
theorem Lo.get_cons {L : Lo} {i j : Nat} {x : Option Ow} : Lo.get ((i, x) :: L) j = if i = j then x else L.get j := by
  simp only [Lo.get]
  by_cases e : i = j
  · subst e; simp
  · have : Nat.beq i j = false := by cases hb : Nat.beq i j; rfl; exact absurd (Nat.eq_of_beq_eq_true hb) e
    simp [this, e]
theorem Lo.sub_cons {L' L : Lo} {i : Nat} {x : Option Ow} (h : L.get i = x) (hs : Lo.sub L' L) : Lo.sub ((i, x) :: L') L := by
  intro u y hy
  rw [Lo.get_cons] at hy
  split at hy
  · rename_i e; subst e; rw [h]; exact hy
  · exact hs u y hy
theorem Lo.sub_no {L' L : Lo} {i : Nat} (hs : Lo.sub L' L) : Lo.sub ((i, none) :: L') L := by
  intro u y hy
  rw [Lo.get_cons] at hy
  split at hy
  · cases hy
  · exact hs u y hy

/-- A cell of a lent block, beyond its mark. -/
def Lo.own (L : Lo) (b o : Nat) : Prop := ∃ i y, L.get i = some y ∧ y.b = b ∧ y.m ≤ o
theorem Lo.own_nil {b o : Nat} (h : Lo.own [] b o) : False := by obtain ⟨i, y, h1, _⟩ := h; simp [Lo.get] at h1
/-- The start of a call: its world, and the blocks that the caller lends it. -/
structure Bs where
  w : World
  L : Lo

structure St (w0 : Bs) (G0 G : Mem) (L : Lo) (w : World) : Prop where
  os : w.os = w0.w.os
  tape : w.tape = w0.w.tape
  output : w.output = w0.w.output
  drawn : w0.w.drawn ≤ w.drawn
  size : w0.w.heap.size ≤ w.heap.size
  block : ∀ k, k < w0.w.heap.size → (∀ i y, w0.L.get i = some y → y.b ≠ k) → w.heap[k]? = w0.w.heap[k]?
  base : Mem.le G0 G
  imm : Imm G w
  fresh : ∀ b o v, G b o = some v → G0 b o = some v ∨ w0.w.heap.size ≤ b ∨ w0.L.own b o
  loc : ∀ i x, L.get i = some x → w.heap[x.b]? = some x.o ∧ ((∃ y, w0.L.get i = some y ∧ y.b = x.b) ∨ w0.w.heap.size ≤ x.b) ∧ ∀ k, x.m ≤ k → G x.b k = none
  dist : ∀ i j x y, i ≠ j → L.get i = some x → L.get j = some y → x.b ≠ y.b

theorem St.weaken {w0 : Bs} {G0 G : Mem} {L L' : Lo} {w : World} (h : St w0 G0 G L w) (hs : Lo.sub L' L) : St w0 G0 G L' w :=
  { h with loc := fun i x e => h.loc i x (hs _ _ e), dist := fun i j x y hne e e' => h.dist i j x y hne (hs _ _ e) (hs _ _ e') }
theorem St.memLe {w0 : Bs} {G0 G G' : Mem} {L : Lo} {w : World} (h : St w0 G0 G' L w) (hb : Mem.le G0 G) (hs : Mem.le G G') : St w0 G0 G L w :=
  { h with
    base := hb
    imm := fun b o v e => h.imm b o v (hs b o v e)
    fresh := fun b o v e => h.fresh b o v (hs b o v e)
    loc := fun i x e => ⟨(h.loc i x e).1, (h.loc i x e).2.1, fun k hk => by
      have := (h.loc i x e).2.2 k hk
      cases hg : G x.b k with
      | none => rfl
      | some v => rw [hs x.b k v hg] at this; cases this⟩ }
theorem St.drew {w0 : Bs} {G0 G : Mem} {L : Lo} {w : World} (h : St w0 G0 G L w) : St w0 G0 G L { w with drawn := w.drawn + 1 } :=
  ⟨h.os, h.tape, h.output, Nat.le_succ_of_le h.drawn, h.size, h.block, h.base, h.imm, h.fresh, h.loc, h.dist⟩

/-- What a caller knows ahead of a call: the cells, and the blocks that it lends. -/
structure Hp (G : Mem) (L : Lo) (w : World) : Prop where
  imm : Imm G w
  loc : ∀ i x, L.get i = some x → w.heap[x.b]? = some x.o ∧ ∀ k, x.m ≤ k → G x.b k = none
  dist : ∀ i j x y, i ≠ j → L.get i = some x → L.get j = some y → x.b ≠ y.b

/-- What a call leaves: the lent blocks and new ones turned; what is known of them. -/
structure Ext (w : World) (G : Mem) (L : Lo) (w' : World) (G' : Mem) (L' : Lo) : Prop where
  os : w'.os = w.os
  tape : w'.tape = w.tape
  output : w'.output = w.output
  drawn : w.drawn ≤ w'.drawn
  size : w.heap.size ≤ w'.heap.size
  block : ∀ k, k < w.heap.size → (∀ i y, L.get i = some y → y.b ≠ k) → w'.heap[k]? = w.heap[k]?
  le : Mem.le G G'
  imm : Imm G' w'
  fresh : ∀ b o v, G' b o = some v → G b o = some v ∨ w.heap.size ≤ b ∨ L.own b o
  loc : ∀ i x, L'.get i = some x → w'.heap[x.b]? = some x.o ∧ ((∃ y, L.get i = some y ∧ y.b = x.b) ∨ w.heap.size ≤ x.b) ∧ ∀ k, x.m ≤ k → G' x.b k = none
  dist : ∀ i j x y, i ≠ j → L'.get i = some x → L'.get j = some y → x.b ≠ y.b

/-- Both: what a call returned of what was lent (L2), and the rest (R), whose names it does not take. -/
theorem St.ext {w0 : Bs} {G0 G G' : Mem} {L L1 L2 R L3 : Lo} {w w' : World} (h : St w0 G0 G L w) (e : Ext w G L1 w' G' L2) (h1 : Lo.sub L1 L) (hR : Lo.sub R L) (hno : ∀ i x, R.get i = some x → L1.get i = none)
    (hm : ∀ i x y, L1.get i = some x → L.get i = some y → ∀ z, w0.L.get i = some z → z.m ≤ x.m)
    (h3 : ∀ i x, L3.get i = some x → L2.get i = some x ∨ R.get i = some x) : St w0 G0 G' L3 w' := by
  have lt : ∀ i x, L.get i = some x → x.b < w.heap.size := fun i x hi => (Array.getElem?_eq_some_iff.1 (h.loc i x hi).1).1
  have rest : ∀ i x, R.get i = some x → w'.heap[x.b]? = some x.o ∧ ((∃ y, w0.L.get i = some y ∧ y.b = x.b) ∨ w0.w.heap.size ≤ x.b) ∧ ∀ k, x.m ≤ k → G' x.b k = none := by
    intro i x hi
    obtain ⟨m1, m2, m3⟩ := h.loc i x (hR _ _ hi)
    have hb := lt i x (hR _ _ hi)
    have hne : ∀ j y, L1.get j = some y → y.b ≠ x.b := fun j y hj => by
      have hij : j ≠ i := fun e' => by subst e'; rw [hno j _ hi] at hj; cases hj
      exact h.dist j i y x hij (h1 _ _ hj) (hR _ _ hi)
    refine ⟨?_, m2, fun k hk => ?_⟩
    · rw [e.block x.b hb hne]; exact m1
    · cases hg : G' x.b k with
      | none => rfl
      | some v =>
        rcases e.fresh x.b k v hg with h' | h' | ⟨j, y, hj, hy, _⟩
        · rw [m3 k hk] at h'; cases h'
        · omega
        · exact absurd hy (hne j y hj)
  have both : ∀ i x, L2.get i = some x ∨ R.get i = some x → w'.heap[x.b]? = some x.o ∧ ((∃ y, w0.L.get i = some y ∧ y.b = x.b) ∨ w0.w.heap.size ≤ x.b) ∧ ∀ k, x.m ≤ k → G' x.b k = none := by
    intro i x hx
    rcases hx with hx | hx
    · obtain ⟨m1, m2, m3⟩ := e.loc i x hx
      refine ⟨m1, ?_, m3⟩
      rcases m2 with ⟨y, hy, hyb⟩ | m2
      · rcases (h.loc i y (h1 _ _ hy)).2.1 with ⟨z, hz, hzb⟩ | hz
        · exact .inl ⟨z, hz, hzb.trans hyb⟩
        · exact .inr (by rw [← hyb]; exact hz)
      · exact .inr (Nat.le_trans h.size m2)
    · exact rest i x hx
  refine ⟨e.os.trans h.os, e.tape.trans h.tape, e.output.trans h.output, Nat.le_trans h.drawn e.drawn, Nat.le_trans h.size e.size, fun k hk hn => ?_, Mem.le_trans h.base e.le, e.imm, fun b o v hv => ?_, fun i x hi => both i x (h3 i x hi), fun i j x y hne hi hj => ?_⟩
  · have hs := h.size
    rw [e.block k (by omega) (fun i y hi hy => ?_)]
    · exact h.block k hk hn
    · obtain ⟨m1, m2, _⟩ := h.loc i y (h1 _ _ hi)
      rcases m2 with ⟨z, m2, hzb⟩ | m2
      · exact hn i z m2 (hzb.trans hy)
      · omega
  · rcases e.fresh b o v hv with h' | h' | ⟨i, y, hi, hyb, hym⟩
    · exact h.fresh b o v h'
    · exact .inr (.inl (Nat.le_trans h.size h'))
    · rcases (h.loc i y (h1 _ _ hi)).2.1 with ⟨z, hz, hzb⟩ | hz
      · exact .inr (.inr ⟨i, z, hz, hzb.trans hyb, Nat.le_trans (hm i y y hi (h1 _ _ hi) z hz) hym⟩)
      · exact .inr (.inl (by rw [← hyb]; exact hz))
  · rcases h3 i x hi with hi | hi <;> rcases h3 j y hj with hj | hj
    · exact e.dist i j x y hne hi hj
    · rcases (e.loc i x hi).2.1 with ⟨z, hz, hzb⟩ | hz
      · rw [← hzb]; exact h.dist i j z y hne (h1 _ _ hz) (hR _ _ hj)
      · have := lt j y (hR _ _ hj); omega
    · rcases (e.loc j y hj).2.1 with ⟨z, hz, hzb⟩ | hz
      · rw [← hzb]; exact h.dist i j x z hne (hR _ _ hi) (h1 _ _ hz)
      · have := lt i x (hR _ _ hi); omega
    · exact h.dist i j x y hne (hR _ _ hi) (hR _ _ hj)

/-- A contract: from every world in which the known cells and the lent blocks lie. -/
def RetL (w0 : Bs) (G : Mem) (post : Mem → Lo → Value → Prop) (e : Ending) (w' : World) : Prop := ∃ r G' L', e = .returned r ∧ Ext w0.w G w0.L w' G' L' ∧ post G' L' r
abbrev RetTo (w0 : Bs) (G : Mem) (post : Mem → Value → Prop) := RetL w0 G (fun G' _ r => post G' r)
def CtrL (P : Program) (f : FuncId) (args : Array Value) (L : Lo) (pre : Mem → Prop) (post : Mem → Lo → Value → Prop) : Prop :=
  ∀ w G, Hp G L w → pre G → Calls P f args w (RetL ⟨w, L⟩ G post)
/-- .. of a function that nothing is lent, and of whose own blocks nothing is told. -/
abbrev Ctr (P : Program) (f : FuncId) (args : Array Value) (pre : Mem → Prop) (post : Mem → Value → Prop) : Prop := CtrL P f args [] pre (fun G _ r => post G r)

theorem CtrL.mono {P : Program} {f : FuncId} {args : Array Value} {L : Lo} {pre pre' : Mem → Prop} {post post' : Mem → Lo → Value → Prop} (h : CtrL P f args L pre post) (hp : ∀ G, pre' G → pre G)
    (hq : ∀ G L r, post G L r → post' G L r) : CtrL P f args L pre' post' := fun w G hi hG => (h w G hi (hp G hG)).mono fun _ _ ⟨r, G', L', h1, h2, h3⟩ => ⟨r, G', L', h1, h2, hq _ _ _ h3⟩

/-- What an operation comes to. -/
def OpRes (P : Program) : Result Next → (Value → World → Prop) → Prop
  | .ok (.value v) w', Φ => Φ v w'
  | .ok .skip w', Φ => Φ undef w'
  | .ok (.enter f args) w', Φ => Calls P f args w' (fun e w'' => ∃ r, e = .returned r ∧ Φ r w'')
  | _, _ => False
theorem OpRes.mono {P : Program} {r : Result Next} {Φ Φ' : Value → World → Prop} (h : OpRes P r Φ) (hk : ∀ v w, Φ v w → Φ' v w) : OpRes P r Φ' := by
  cases r with
  | ok n w =>
    cases n <;> simp only [OpRes] at h ⊢
    case value v => exact hk _ _ h
    case skip => exact hk _ _ h
    case enter f args => exact h.mono fun e w'' ⟨r, h1, h2⟩ => ⟨r, h1, hk _ _ h2⟩
  | halt x w => exact h
theorem OpRes.wp {P : Program} {o : Oper} {a : Act} {w : World} {Φ : Value → World → Prop} {K : Act → World → Prop} {Q : Post} (h : OpRes P ((execOp a.eval o).run P w) Φ) (hk : ∀ v w', Φ v w' → K (a.put o.dst v) w') : o.wp P a w K Q := by
  unfold Oper.wp
  generalize (execOp a.eval o).run P w = r at h ⊢
  cases r with
  | ok n w' =>
    cases n <;> simp only [OpRes] at h <;> simp only [Oper.upon]
    case value v => exact hk _ _ h
    case skip => exact hk _ _ h
    case enter f args => exact h.mono fun e w'' ⟨r, h1, h2⟩ => by subst h1; exact hk _ _ h2
  | halt x w => exact h.elim

/-- An operation from every frame and world that fit. -/
def YR (P : Program) (N : Nat) (o : Oper) (fr : Fr) (S : Asrt) (Φ : Value → World → Prop) : Prop := ∀ a w, Rel N fr a → S w → OpRes P ((execOp a.eval o).run P w) Φ

section
variable {P : Program} {N : Nat} {Q : Post} {fr : Fr} {S : Asrt} {ops : Array Oper} {l : List Oper}
theorem Y0.yr {o : Oper} {v : Value} (h : Y0 P N o fr S v) : YR P N o fr S (fun v' w' => v' = v ∧ S w') := fun a w ha hs => by rw [h a w ha hs]; exact ⟨rfl, hs⟩
theorem WL.yr {dst : Option Nat} {op : Op} {ty : TypeId} {pos : String} {af : Array Edge} {g : Option (Nat × Bool)} {Φ : Value → Asrt}
    (hg : guardOK ops fr ⟨dst, op, ty, pos, af, g⟩ true) (h : YR P N ⟨dst, op, ty, pos, af, g⟩ fr S Φ) (hd : dstOK N dst) (k : ∀ v, WL P N ops Q l (putFr dst v fr) (Φ v)) : WL P N ops Q (⟨dst, op, ty, pos, af, g⟩ :: l) fr S := by
  intro a w ha hs
  unfold wpList
  rw [if_pos (ha.wanted hg)]
  exact .inl ((h a w ha hs).wp fun v w' hv => k v _ w' (ha.putFr v hd) hv)
end

/-! ### Regions that draw their order -/
/-- Q, but no other way out. -/
def NX (Q : Post) : Post := fun e a w => match e with | .normal => Q .normal a w | _ => False
theorem WE.nx {N : Nat} {Q : Post} {fr : Fr} {S : Asrt} (h : WE N Q .normal fr S) : WE N (NX Q) .normal fr S := h
/-- The known memory of a region that draws, and the blocks that its operations laid (by their numbers: the slot, the object). -/
abbrev Xm := Nat → Option (Nat × Obj)
structure Gx where
  m : Mem
  x : Xm
def Gx.of (G : Mem) : Gx := ⟨G, fun _ => none⟩
def Gx.le (g g' : Gx) : Prop := Mem.le g.m g'.m ∧ ∀ b y, g.x b = some y → g'.x b = some y
theorem Gx.le_refl (g : Gx) : Gx.le g g := ⟨Mem.le_refl _, fun _ _ h => h⟩
theorem Gx.le_trans {a b c : Gx} (h : Gx.le a b) (k : Gx.le b c) : Gx.le a c := ⟨Mem.le_trans h.1 k.1, fun x y e => k.2 x y (h.2 x y e)⟩
structure StX (w0 : Bs) (G0 : Mem) (g : Gx) (L : Lo) (w : World) : Prop where
  st : St w0 G0 g.m L w
  own : ∀ b i o, g.x b = some (i, o) → w.heap[b]? = some o ∧ w0.w.heap.size ≤ b ∧ (∀ k, g.m b k = none) ∧ ∀ j y, L.get j = some y → y.b ≠ b
theorem StX.of {w0 : Bs} {G0 G : Mem} {L : Lo} {w : World} (h : St w0 G0 G L w) : StX w0 G0 (Gx.of G) L w := ⟨h, fun b i o e => by cases e⟩
abbrev Und := List (Nat × (Value → Gx → Prop))
def undFr : Und → (Nat → Value) → Fr
  | [], _ => []
  | p :: r, u => (p.1, u p.1) :: undFr r u
def undAll : Und → (Nat → Value) → Gx → Prop
  | [], _, _ => True
  | p :: r, u, G => p.2 (u p.1) G ∧ undAll r u G
def undLook (ops : Array Oper) (o : Oper) : Und → (Nat → Value) → Gx → Prop
  | [], _, _ => True
  | p :: r, u, G => (bif (o.looksAt ops).contains p.1 then p.2 (u p.1) G else True) ∧ undLook ops o r u G

section
variable (P : Program) (N : Nat) (Q : Post) (fr : Fr) (w0 : Bs) (G0 G : Mem) (L : Lo) (ops : Array Oper)
/-- Operation o, from every frame and world that fit, yields what meets Ψ. -/
def OpOK (F : Fr) (G' : Gx) (o : Oper) (Ψ : Value → Gx → Prop) : Prop :=
  (guardOK ops F o false ∧ Ψ undef G') ∨
  (guardOK ops F o true ∧ YR P N o F (StX w0 G0 G' L) (fun v w' => ∃ G'', Gx.le G' G'' ∧ StX w0 G0 G'' L w' ∧ Ψ v G''))
/-- The premises of the operations, one behind the other (a flag an operation: does it float?); behind them the tail in its order. -/
def Chain : List Bool → List Oper → Fr → Und → Prop
  | [], rest, det, und => ∀ u G', Gx.le (Gx.of G) G' → undAll und u G' → WL P N ops (NX Q) rest (undFr und u ++ (det ++ fr)) (StX w0 G0 G' L)
  | _ :: _, [], det, und => ∀ u G', Gx.le (Gx.of G) G' → undAll und u G' → WL P N ops (NX Q) [] (undFr und u ++ (det ++ fr)) (StX w0 G0 G' L)
  | true :: fs, o :: r, det, und => ∃ c, (∀ u, guardOK ops (undFr und u ++ (det ++ fr)) o true ∧ Y0 P N o (undFr und u ++ (det ++ fr)) (fun _ => True) c) ∧ Chain fs r (putFr o.dst c det) und
  | false :: fs, o :: r, det, und =>
    (∃ c, (∀ u G', Gx.le (Gx.of G) G' → undLook ops o und u G' → OpOK P N w0 G0 L ops (undFr und u ++ (det ++ fr)) G' o (fun v _ => v = c)) ∧ Chain fs r (putFr o.dst c det) und) ∨
    (∃ d φ, o.dst = some d ∧ (∀ v G₁ G₂, Gx.le G₁ G₂ → φ v G₁ → φ v G₂) ∧ (∀ u G', Gx.le (Gx.of G) G' → undLook ops o und u G' → OpOK P N w0 G0 L ops (undFr und u ++ (det ++ fr)) G' o φ) ∧ Chain fs r det ((d, φ) :: und))
end
end Go.EL
