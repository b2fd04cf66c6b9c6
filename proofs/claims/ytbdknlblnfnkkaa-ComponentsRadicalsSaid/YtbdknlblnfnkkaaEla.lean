/- The logic core of the proofs of this seat: partial frames, assertions on worlds, rules for code, regions and loops. No condition. -/
import Derived.Tactics
import Derived.Deep.Quiet
import Derived.KernelRfl
namespace Go.EL
open Go

/-- What is known of a frame: slots and their values. The first entry of a slot counts. -/
abbrev Fr := List (Nat × Value)
def Fr.get : Fr → Nat → Option Value
  | [], _ => none
  | p :: r, t => bif Nat.beq p.1 t then some p.2 else Fr.get r t
def Fr.ev (fr : Fr) : Operand → Option Value
  | .tmp t => fr.get t
  | .const v => some v
  | .global g => some (.pointer (some ⟨g, 0, none⟩))
  | .func f => some (.func (.func f) #[] #[])
def Fr.evs (fr : Fr) : List Operand → Option (List Value)
  | [] => some []
  | x :: r => match fr.ev x, Fr.evs fr r with
    | some v, some vs => some (v :: vs)
    | _, _ => none

structure Rel (N : Nat) (fr : Fr) (a : Act) : Prop where
  defers : a.defers = []
  size : a.tmps.size = N
  here : ∀ t v, fr.get t = some v → a.tmps[t]? = some v

theorem Rel.ev {N : Nat} {fr : Fr} {a : Act} {x : Operand} {v : Value} (h : Rel N fr a) (hx : fr.ev x = some v) : a.eval x = v := by
  cases x with
  | tmp t => simp only [Fr.ev] at hx; simp [Act.eval, h.here t v hx]
  | const c => simpa [Fr.ev, Act.eval] using hx
  | global g => simpa [Fr.ev, Act.eval] using hx
  | func f => simpa [Fr.ev, Act.eval] using hx

theorem Rel.evs {N : Nat} {fr : Fr} {a : Act} (h : Rel N fr a) : ∀ (xs : List Operand) (vs : List Value), fr.evs xs = some vs → xs.map a.eval = vs
  | [], vs, e => by simp [Fr.evs] at e; simp [e]
  | x :: r, vs, e => by
    simp only [Fr.evs] at e
    split at e
    · rename_i v us h1 h2
      simp only [Option.some.injEq] at e
      subst e
      simp [h.ev h1, Rel.evs h r us h2]
    · cases e

theorem Rel.put {N : Nat} {fr : Fr} {a : Act} {d : Nat} (v : Value) (h : Rel N fr a) (hd : d < N) : Rel N ((d, v) :: fr) (a.put (some d) v) where
  defers := h.defers
  size := by simp [Act.put, h.size]
  here := by
    intro t u hu
    simp only [Fr.get] at hu
    cases hb : Nat.beq d t with
    | true =>
      rw [hb] at hu
      simp only [cond_true, Option.some.injEq] at hu
      have := Nat.eq_of_beq_eq_true hb
      subst this hu
      simp [Act.put, h.size, hd]
    | false =>
      rw [hb] at hu
      simp only [cond_false] at hu
      have hne : d ≠ t := fun e => by subst e; simp at hb
      simp only [Act.put]
      rw [Array.getElem?_setIfInBounds_ne hne]
      exact h.here t u hu

/-- Every entry of fr' is known in fr. -/
def Fr.sub (fr' fr : Fr) : Prop := ∀ t v, fr'.get t = some v → fr.get t = some v
theorem Fr.sub_nil (fr : Fr) : Fr.sub [] fr := fun t v h => by simp [Fr.get] at h
theorem Fr.sub_cons {fr' fr : Fr} {t : Nat} {v : Value} (h : fr.get t = some v) (hs : Fr.sub fr' fr) : Fr.sub ((t, v) :: fr') fr := by
  intro u x hx
  simp only [Fr.get] at hx
  cases hb : Nat.beq t u with
  | true =>
    rw [hb] at hx
    simp only [cond_true, Option.some.injEq] at hx
    have := Nat.eq_of_beq_eq_true hb
    subst this hx
    exact h
  | false =>
    rw [hb] at hx
    simp only [cond_false] at hx
    exact hs u x hx
theorem Rel.weaken {N : Nat} {fr fr' : Fr} {a : Act} (h : Rel N fr a) (hs : Fr.sub fr' fr) : Rel N fr' a := ⟨h.defers, h.size, fun t v e => h.here t v (hs t v e)⟩

abbrev Asrt := World → Prop
abbrev Post := Exit → Act → World → Prop

/-- Code, from every frame and world that fit. -/
def WC (P : Program) (N : Nat) (c : Code) (Q : Post) (fr : Fr) (S : Asrt) : Prop := ∀ a w, Rel N fr a → S w → c.wp P Q a w
/-- An exit. -/
def WE (N : Nat) (Q : Post) (e : Exit) (fr : Fr) (S : Asrt) : Prop := ∀ a w, Rel N fr a → S w → Q e a w
/-- The operations of a region in their order. -/
def WL (P : Program) (N : Nat) (ops : Array Oper) (Q : Post) (l : List Oper) (fr : Fr) (S : Asrt) : Prop := ∀ a w, Rel N fr a → S w → wpList P ops Q l a w

section
variable {P : Program} {N : Nat} {Q : Post} {fr : Fr} {S : Asrt}

theorem WC.seq {x y : Code} (h : WC P N x (Exit.then (y.wp P Q) Q) fr S) : WC P N (.seq x y) Q fr S := fun a w ha hs => wp_seq (h a w ha hs)
theorem WC.skip (h : WE N Q .normal fr S) : WC P N .skip Q fr S := fun a w ha hs => wp_skip (h a w ha hs)
theorem WC.exit {id : Nat} (h : WE N Q (.exit id) fr S) : WC P N (.exit id) Q fr S := fun a w ha hs => wp_exit (h a w ha hs)
theorem WC.ret (h : WE N Q .ret fr S) : WC P N .ret Q fr S := fun a w ha hs => wp_ret (h a w ha hs)
theorem WC.block {id : Nat} {c : Code} (h : WC P N c (Exit.inBlock id Q) fr S) : WC P N (.block id c) Q fr S := fun a w ha hs => wp_block (h a w ha hs)
theorem WC.region {id : Nat} {l : List Oper} (h : WL P N l.toArray Q l fr S) : WC P N (.region id l.toArray false) Q fr S := fun a w ha hs => wp_region_lit (h a w ha hs)
theorem WC.cond {c : Operand} {x y : Code} {b : Bool} (hc : fr.ev c = some (.bool b)) (ht : b = true → WC P N x Q fr S) (hf : b = false → WC P N y Q fr S) : WC P N (.cond c x y) Q fr S :=
  fun a w ha hs => wp_cond_split (ha.ev hc) (fun e => ht e a w ha hs) (fun e => hf e a w ha hs)
theorem WC.condD {c : Operand} {x y : Code} {p : Prop} [Decidable p] (hc : fr.ev c = some (.bool (decide p))) (ht : p → WC P N x Q fr S) (hf : ¬ p → WC P N y Q fr S) : WC P N (.cond c x y) Q fr S :=
  WC.cond hc (fun e => ht (of_decide_eq_true e)) (fun e => hf (of_decide_eq_false e))
theorem WC.condT {c : Operand} {x y : Code} (hc : fr.ev c = some (.bool true)) (ht : WC P N x Q fr S) : WC P N (.cond c x y) Q fr S := WC.cond hc (fun _ => ht) (fun e => by cases e)
theorem WC.condF {c : Operand} {x y : Code} (hc : fr.ev c = some (.bool false)) (hf : WC P N y Q fr S) : WC P N (.cond c x y) Q fr S := WC.cond hc (fun e => by cases e) (fun _ => hf)

theorem WE.then {c : Code} (h : WC P N c Q fr S) : WE N (Exit.then (c.wp P Q) Q) .normal fr S := h
theorem WE.thenExit {K : Act → World → Prop} {id : Nat} (h : WE N Q (.exit id) fr S) : WE N (Exit.then K Q) (.exit id) fr S := h
theorem WE.thenRet {K : Act → World → Prop} (h : WE N Q .ret fr S) : WE N (Exit.then K Q) .ret fr S := h
theorem WE.inBlock {id : Nat} (h : WE N Q .normal fr S) : WE N (Exit.inBlock id Q) .normal fr S := h
theorem WE.inBlockRet {id : Nat} (h : WE N Q .ret fr S) : WE N (Exit.inBlock id Q) .ret fr S := h
theorem WE.exitHere {id : Nat} (h : WE N Q .normal fr S) : WE N (Exit.inBlock id Q) (.exit id) fr S := fun a w ha hs => by
  simp only [Exit.inBlock, if_true]; exact h a w ha hs
theorem WE.exitOut {id id' : Nat} (hne : Nat.beq id' id = false) (h : WE N Q (.exit id') fr S) : WE N (Exit.inBlock id Q) (.exit id') fr S := fun a w ha hs => by
  have : ¬ id' = id := fun e => by subst e; simp at hne
  simp only [Exit.inBlock, this, if_false]; exact h a w ha hs

theorem WC.weaken {c : Code} {fr' : Fr} {S' : Asrt} (hs : Fr.sub fr' fr) (hS : ∀ w, S w → S' w) (h : WC P N c Q fr' S') : WC P N c Q fr S := fun a w ha hw => h a w (ha.weaken hs) (hS w hw)
theorem WE.weaken {e : Exit} {fr' : Fr} {S' : Asrt} (hs : Fr.sub fr' fr) (hS : ∀ w, S w → S' w) (h : WE N Q e fr' S') : WE N Q e fr S := fun a w ha hw => h a w (ha.weaken hs) (hS w hw)
theorem WL.conseq {ops : Array Oper} {l : List Oper} {S' : Asrt} (hS : ∀ w, S w → S' w) (h : WL P N ops Q l fr S') : WL P N ops Q l fr S := fun a w ha hw => h a w ha (hS w hw)
theorem WC.conseq {c : Code} {S' : Asrt} (hS : ∀ w, S w → S' w) (h : WC P N c Q fr S') : WC P N c Q fr S := fun a w ha hw => h a w ha (hS w hw)
theorem WE.conseq {e : Exit} {S' : Asrt} (hS : ∀ w, S w → S' w) (h : WE N Q e fr S') : WE N Q e fr S := fun a w ha hw => h a w ha (hS w hw)

theorem WL.nil {ops : Array Oper} (h : WE N Q .normal fr S) : WL P N ops Q [] fr S := h

/-- The back edge of a loop: some ghost state of the invariant, of smaller measure. -/
def Back {X : Type} (N : Nat) (F : X → Fr) (I : X → Asrt) (m : X → Nat) (x : X) : Act → World → Prop := fun a w => ∃ x', Rel N (F x') a ∧ I x' w ∧ m x' < m x

theorem least {p : Nat → Prop} (h : ∃ n, p n) : ∃ n, p n ∧ ∀ k, p k → n ≤ k := by
  obtain ⟨n, hn⟩ := h
  induction n using Nat.strongRecOn with
  | _ n ih =>
    by_cases hk : ∃ k, k < n ∧ p k
    · obtain ⟨k, h1, h2⟩ := hk
      exact ih k h1 h2
    · refine ⟨n, hn, fun k hp => ?_⟩
      rcases Nat.lt_or_ge k n with h | h
      · exact absurd ⟨k, h, hp⟩ hk
      · exact h

theorem WC.loop {c : Code} {X : Type} (F : X → Fr) (I : X → Asrt) (m : X → Nat) (x₀ : X) (hF : Fr.sub (F x₀) fr) (hI : ∀ w, S w → I x₀ w)
    (round : ∀ x, WC P N c (Exit.then (Back N F I m x) Q) (F x) (I x)) : WC P N (.loop c) Q fr S := by
  classical
  intro a w ha hs
  have ex : ∀ a w, (∃ x, Rel N (F x) a ∧ I x w) → ∃ n, ∃ x, (Rel N (F x) a ∧ I x w) ∧ m x = n := fun a w ⟨x, h⟩ => ⟨m x, x, h, rfl⟩
  let μ : Act → World → Nat := fun a w => if h : ∃ x, Rel N (F x) a ∧ I x w then Classical.choose (least (ex a w h)) else 0
  refine wp_loop (fun a w => ∃ x, Rel N (F x) a ∧ I x w) μ ⟨x₀, ha.weaken hF, hI w hs⟩ ?_
  intro a w h
  obtain ⟨x, ⟨hx1, hx2⟩, hx3⟩ := (Classical.choose_spec (least (ex a w h))).1
  have hμ : μ a w = m x := by simp only [μ, dif_pos h]; exact hx3.symm
  refine Code.wp_mono (fun e a' w' hq => ?_) (round x a w hx1 hx2)
  cases e <;> first | exact hq | skip
  obtain ⟨x', h1, h2, h3⟩ := hq
  refine ⟨⟨x', h1, h2⟩, ?_⟩
  have h' : ∃ x, Rel N (F x) a' ∧ I x w' := ⟨x', h1, h2⟩
  have : μ a' w' ≤ m x' := by simp only [μ, dif_pos h']; exact (Classical.choose_spec (least (ex a' w' h'))).2 _ ⟨x', ⟨h1, h2⟩, rfl⟩
  omega

theorem WE.back {X : Type} {F : X → Fr} {I : X → Asrt} {m : X → Nat} {x : X} (x' : X) (hF : Fr.sub (F x') fr) (hI : ∀ w, S w → I x' w) (hm : m x' < m x) :
    WE N (Exit.then (Back N F I m x) Q) .normal fr S := fun _ w ha hs => ⟨x', ha.weaken hF, hI w hs, hm⟩
end

/-! ### One operation -/
/-- The operation yields v and leaves the world as it is. -/
def Y0 (P : Program) (N : Nat) (o : Oper) (fr : Fr) (S : Asrt) (v : Value) : Prop := ∀ a w, Rel N fr a → S w → (execOp a.eval o).run P w = .ok (.value v) w
/-- The operation yields a value and a world that meet Φ. -/
def Y1 (P : Program) (N : Nat) (o : Oper) (fr : Fr) (S : Asrt) (Φ : Value → Asrt) : Prop := ∀ a w, Rel N fr a → S w → ∃ v w', (execOp a.eval o).run P w = .ok (.value v) w' ∧ Φ v w'
/-- The operation is a statement. -/
def YS (P : Program) (N : Nat) (o : Oper) (fr : Fr) (S S' : Asrt) : Prop := ∀ a w, Rel N fr a → S w → ∃ w', (execOp a.eval o).run P w = .ok .skip w' ∧ S' w'
/-- The operation is a call of a function with a body. -/
def YC (P : Program) (N : Nat) (o : Oper) (fr : Fr) (S : Asrt) (f : FuncId) (args : Array Value) : Prop := ∀ a w, Rel N fr a → S w → (execOp a.eval o).run P w = .ok (.enter f args) w

section
variable {P : Program} {N : Nat} {Q : Post} {fr : Fr} {S : Asrt} {ops : Array Oper} {l : List Oper}

def guardOK (ops : Array Oper) (fr : Fr) (o : Oper) (b : Bool) : Prop :=
  match o.guard with
  | none => b = true
  | some (j, want) => (∃ d c, (ops[j]?).bind (·.dst) = some d ∧ fr.get d = some (.bool c) ∧ b = (c == want)) ∨ (∃ d, (ops[j]?).bind (·.dst) = some d ∧ fr.get d = some undef ∧ b = false)

theorem Rel.wanted {a : Act} {o : Oper} {b : Bool} (h : Rel N fr a) (hg : guardOK ops fr o b) : Region.wanted o (yielded ops a.tmps) = b := by
  unfold guardOK at hg
  unfold Region.wanted
  cases ho : o.guard with
  | none => rw [ho] at hg; simp at hg; simp [hg]
  | some p =>
    obtain ⟨j, want⟩ := p
    rw [ho] at hg
    rcases hg with ⟨d, c, h1, h2, h3⟩ | ⟨d, h1, h2, h3⟩
    · simp only [yielded, h1, Option.bind_some, h.here d _ h2]
      rw [h3]
      cases c <;> cases want <;> rfl
    · simp only [yielded, h1, Option.bind_some, h.here d _ h2]
      rw [h3]
      rfl

/-- The slot that an operation writes. -/
def putFr (d : Option Nat) (v : Value) (fr : Fr) : Fr := match d with | some t => (t, v) :: fr | none => fr
def dstOK (N : Nat) (d : Option Nat) : Prop := match d with | some t => Nat.blt t N = true | none => True
theorem Rel.putFr {a : Act} {d : Option Nat} (v : Value) (h : Rel N fr a) (hd : dstOK N d) : Rel N (EL.putFr d v fr) (a.put d v) := by
  cases d with
  | none => exact h
  | some t => exact h.put v (by simpa [dstOK, Nat.blt_eq] using hd)

theorem WL.y0' {dst : Option Nat} {op : Op} {ty : TypeId} {pos : String} {af : Array Edge} {g : Option (Nat × Bool)} {v : Value}
    (hg : guardOK ops fr ⟨dst, op, ty, pos, af, g⟩ true) (h : Y0 P N ⟨dst, op, ty, pos, af, g⟩ fr S v) (hd : dstOK N dst) (k : WL P N ops Q l (putFr dst v fr) S) : WL P N ops Q (⟨dst, op, ty, pos, af, g⟩ :: l) fr S := by
  intro a w ha hs
  unfold wpList
  rw [if_pos (ha.wanted hg)]
  refine .inl ?_
  simp only [Oper.wp, h a w ha hs, Oper.upon]
  exact k _ w (ha.putFr v hd) hs
theorem WL.y1' {dst : Option Nat} {op : Op} {ty : TypeId} {pos : String} {af : Array Edge} {g : Option (Nat × Bool)} {Φ : Value → Asrt}
    (hg : guardOK ops fr ⟨dst, op, ty, pos, af, g⟩ true) (h : Y1 P N ⟨dst, op, ty, pos, af, g⟩ fr S Φ) (hd : dstOK N dst) (k : ∀ v, WL P N ops Q l (putFr dst v fr) (Φ v)) : WL P N ops Q (⟨dst, op, ty, pos, af, g⟩ :: l) fr S := by
  intro a w ha hs
  obtain ⟨v, w', hr, hp⟩ := h a w ha hs
  unfold wpList
  rw [if_pos (ha.wanted hg)]
  refine .inl ?_
  simp only [Oper.wp, hr, Oper.upon]
  exact k v _ w' (ha.putFr v hd) hp
theorem WL.ys' {op : Op} {ty : TypeId} {pos : String} {af : Array Edge} {g : Option (Nat × Bool)} {S' : Asrt}
    (hg : guardOK ops fr ⟨none, op, ty, pos, af, g⟩ true) (h : YS P N ⟨none, op, ty, pos, af, g⟩ fr S S') (k : WL P N ops Q l fr S') : WL P N ops Q (⟨none, op, ty, pos, af, g⟩ :: l) fr S := by
  intro a w ha hs
  obtain ⟨w', hr, hp⟩ := h a w ha hs
  unfold wpList
  rw [if_pos (ha.wanted hg)]
  refine .inl ?_
  simp only [Oper.wp, hr, Oper.upon]
  exact k _ w' ha hp
/-- An operation whose guard says no. -/
theorem WL.skip {dst : Option Nat} {op : Op} {ty : TypeId} {pos : String} {af : Array Edge} {g : Option (Nat × Bool)}
    (hg : guardOK ops fr ⟨dst, op, ty, pos, af, g⟩ false) (hd : dstOK N dst) (k : WL P N ops Q l (putFr dst undef fr) S) : WL P N ops Q (⟨dst, op, ty, pos, af, g⟩ :: l) fr S := by
  intro a w ha hs
  unfold wpList
  rw [if_neg (by rw [ha.wanted hg]; simp)]
  exact k _ w (ha.putFr undef hd) hs
theorem guard_none {dst : Option Nat} {op : Op} {ty : TypeId} {pos : String} {af : Array Edge} : guardOK ops fr ⟨dst, op, ty, pos, af, none⟩ true := rfl
theorem guard_yes {dst : Option Nat} {op : Op} {ty : TypeId} {pos : String} {af : Array Edge} {j : Nat} {c : Bool} {d : Nat} (h1 : (ops[j]?).bind (·.dst) = some d) (h2 : fr.get d = some (.bool c)) :
    guardOK ops fr ⟨dst, op, ty, pos, af, some (j, c)⟩ true := .inl ⟨d, c, h1, h2, by cases c <;> rfl⟩
theorem guard_no {dst : Option Nat} {op : Op} {ty : TypeId} {pos : String} {af : Array Edge} {j : Nat} {c : Bool} {d : Nat} (h1 : (ops[j]?).bind (·.dst) = some d) (h2 : fr.get d = some (.bool (!c))) :
    guardOK ops fr ⟨dst, op, ty, pos, af, some (j, c)⟩ false := .inl ⟨d, !c, h1, h2, by cases c <;> rfl⟩
theorem guard_noT {dst : Option Nat} {op : Op} {ty : TypeId} {pos : String} {af : Array Edge} {j : Nat} {d : Nat} (h1 : (ops[j]?).bind (·.dst) = some d) (h2 : fr.get d = some (.bool false)) :
    guardOK ops fr ⟨dst, op, ty, pos, af, some (j, true)⟩ false := .inl ⟨d, false, h1, h2, rfl⟩
theorem guard_noF {dst : Option Nat} {op : Op} {ty : TypeId} {pos : String} {af : Array Edge} {j : Nat} {d : Nat} (h1 : (ops[j]?).bind (·.dst) = some d) (h2 : fr.get d = some (.bool true)) :
    guardOK ops fr ⟨dst, op, ty, pos, af, some (j, false)⟩ false := .inl ⟨d, true, h1, h2, rfl⟩
theorem guard_undef {dst : Option Nat} {op : Op} {ty : TypeId} {pos : String} {af : Array Edge} {j : Nat} {c : Bool} {d : Nat} (h1 : (ops[j]?).bind (·.dst) = some d) (h2 : fr.get d = some undef) :
    guardOK ops fr ⟨dst, op, ty, pos, af, some (j, c)⟩ false := .inr ⟨d, h1, h2, rfl⟩
end
end Go.EL
