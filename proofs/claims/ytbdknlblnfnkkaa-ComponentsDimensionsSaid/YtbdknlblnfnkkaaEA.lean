/- The logic core of the proofs of this seat: partial frames, assertions on worlds, rules for code, regions and loops. No condition. -/
import Derived.Tactics
import Derived.Deep.Quiet
import Derived.KernelRfl
import Derived.Below
import Derived.WalkKit
import Derived.Shelf.Abstract
namespace Go.EL
open Go

/-- What is known of a frame: slots and their values. The first entry of a slot counts. -/
abbrev Fr := List (Nat × Value)
def Fr.get : Fr → Nat → Option Value
  | [], _ => none
  | p :: r, t => bif Nat.beq p.1 t then some p.2 else Fr.get r t
def Fr.ev (fr : Fr) : Operand → Option Value
  | .tmp t => fr.get t
  | .const v => some v
  | .global g => some (.pointer (some ⟨g, 0, none⟩))
  | .func f => some (.func (.func f) #[] #[])
def Fr.evs (fr : Fr) : List Operand → Option (List Value)
  | [] => some []
  | x :: r => match fr.ev x, Fr.evs fr r with
    | some v, some vs => some (v :: vs)
    | _, _ => none

structure Rel (N : Nat) (fr : Fr) (a : Act) : Prop where
  defers : a.defers = []
  size : a.tmps.size = N
  here : ∀ t v, fr.get t = some v → a.tmps[t]? = some v

theorem Rel.ev {N : Nat} {fr : Fr} {a : Act} {x : Operand} {v : Value} (h : Rel N fr a) (hx : fr.ev x = some v) : a.eval x = v := by
  cases x with
  | tmp t => simp only [Fr.ev] at hx; simp [Act.eval, h.here t v hx]
  | const c => simpa [Fr.ev, Act.eval] using hx
  | global g => simpa [Fr.ev, Act.eval] using hx
  | func f => simpa [Fr.ev, Act.eval] using hx

theorem Rel.evs {N : Nat} {fr : Fr} {a : Act} (h : Rel N fr a) : ∀ (xs : List Operand) (vs : List Value), fr.evs xs = some vs → xs.map a.eval = vs
  | [], vs, e => by simp [Fr.evs] at e; simp [e]
  | x :: r, vs, e => by
    simp only [Fr.evs] at e
    split at e
    · rename_i v us h1 h2
      simp only [Option.some.injEq] at e
      subst e
      simp [h.ev h1, Rel.evs h r us h2]
    · cases e

theorem Rel.put {N : Nat} {fr : Fr} {a : Act} {d : Nat} (v : Value) (h : Rel N fr a) (hd : d < N) : Rel N ((d, v) :: fr) (a.put (some d) v) where
  defers := h.defers
  size := by simp [Act.put, h.size]
  here := by
    intro t u hu
    simp only [Fr.get] at hu
    cases hb : Nat.beq d t with
    | true =>
      rw [hb] at hu
      simp only [cond_true, Option.some.injEq] at hu
      have := Nat.eq_of_beq_eq_true hb
      subst this hu
      simp [Act.put, h.size, hd]
    | false =>
      rw [hb] at hu
      simp only [cond_false] at hu
      have hne : d ≠ t := fun e => by subst e; simp at hb
      simp only [Act.put]
      rw [Array.getElem?_setIfInBounds_ne hne]
      exact h.here t u hu

/-- Every entry of fr' is known in fr. -/
def Fr.sub (fr' fr : Fr) : Prop := ∀ t v, fr'.get t = some v → fr.get t = some v
theorem Fr.sub_nil (fr : Fr) : Fr.sub [] fr := fun t v h => by simp [Fr.get] at h
theorem Fr.sub_cons {fr' fr : Fr} {t : Nat} {v : Value} (h : fr.get t = some v) (hs : Fr.sub fr' fr) : Fr.sub ((t, v) :: fr') fr := by
  intro u x hx
  simp only [Fr.get] at hx
  cases hb : Nat.beq t u with
  | true =>
    rw [hb] at hx
    simp only [cond_true, Option.some.injEq] at hx
    have := Nat.eq_of_beq_eq_true hb
    subst this hx
    exact h
  | false =>
    rw [hb] at hx
    simp only [cond_false] at hx
    exact hs u x hx
theorem Rel.weaken {N : Nat} {fr fr' : Fr} {a : Act} (h : Rel N fr a) (hs : Fr.sub fr' fr) : Rel N fr' a := ⟨h.defers, h.size, fun t v e => h.here t v (hs t v e)⟩

abbrev Asrt := World → Prop
abbrev Post := Exit → Act → World → Prop

/-- Code, from every frame and world that fit. -/
def WC (P : Program) (N : Nat) (c : Code) (Q : Post) (fr : Fr) (S : Asrt) : Prop := ∀ a w, Rel N fr a → S w → c.wp P Q a w
/-- An exit. -/
def WE (N : Nat) (Q : Post) (e : Exit) (fr : Fr) (S : Asrt) : Prop := ∀ a w, Rel N fr a → S w → Q e a w
/-- The operations of a region in their order. -/
def WL (P : Program) (N : Nat) (ops : Array Oper) (Q : Post) (l : List Oper) (fr : Fr) (S : Asrt) : Prop := ∀ a w, Rel N fr a → S w → wpList P ops Q l a w

section
variable {P : Program} {N : Nat} {Q : Post} {fr : Fr} {S : Asrt}

theorem WC.seq {x y : Code} (h : WC P N x (Exit.then (y.wp P Q) Q) fr S) : WC P N (.seq x y) Q fr S := fun a w ha hs => wp_seq (h a w ha hs)
theorem WC.skip (h : WE N Q .normal fr S) : WC P N .skip Q fr S := fun a w ha hs => wp_skip (h a w ha hs)
theorem WC.exit {id : Nat} (h : WE N Q (.exit id) fr S) : WC P N (.exit id) Q fr S := fun a w ha hs => wp_exit (h a w ha hs)
theorem WC.ret (h : WE N Q .ret fr S) : WC P N .ret Q fr S := fun a w ha hs => wp_ret (h a w ha hs)
theorem WC.block {id : Nat} {c : Code} (h : WC P N c (Exit.inBlock id Q) fr S) : WC P N (.block id c) Q fr S := fun a w ha hs => wp_block (h a w ha hs)
theorem WC.region {id : Nat} {l : List Oper} (h : WL P N l.toArray Q l fr S) : WC P N (.region id l.toArray false) Q fr S := fun a w ha hs => wp_region_lit (h a w ha hs)
theorem WC.cond {c : Operand} {x y : Code} {b : Bool} (hc : fr.ev c = some (.bool b)) (ht : b = true → WC P N x Q fr S) (hf : b = false → WC P N y Q fr S) : WC P N (.cond c x y) Q fr S :=
  fun a w ha hs => wp_cond_split (ha.ev hc) (fun e => ht e a w ha hs) (fun e => hf e a w ha hs)
theorem WC.condD {c : Operand} {x y : Code} {p : Prop} [Decidable p] (hc : fr.ev c = some (.bool (decide p))) (ht : p → WC P N x Q fr S) (hf : ¬ p → WC P N y Q fr S) : WC P N (.cond c x y) Q fr S :=
  WC.cond hc (fun e => ht (of_decide_eq_true e)) (fun e => hf (of_decide_eq_false e))
theorem WC.condT {c : Operand} {x y : Code} (hc : fr.ev c = some (.bool true)) (ht : WC P N x Q fr S) : WC P N (.cond c x y) Q fr S := WC.cond hc (fun _ => ht) (fun e => by cases e)
theorem WC.condF {c : Operand} {x y : Code} (hc : fr.ev c = some (.bool false)) (hf : WC P N y Q fr S) : WC P N (.cond c x y) Q fr S := WC.cond hc (fun e => by cases e) (fun _ => hf)

theorem WE.then {c : Code} (h : WC P N c Q fr S) : WE N (Exit.then (c.wp P Q) Q) .normal fr S := h
theorem WE.thenExit {K : Act → World → Prop} {id : Nat} (h : WE N Q (.exit id) fr S) : WE N (Exit.then K Q) (.exit id) fr S := h
theorem WE.thenRet {K : Act → World → Prop} (h : WE N Q .ret fr S) : WE N (Exit.then K Q) .ret fr S := h
theorem WE.inBlock {id : Nat} (h : WE N Q .normal fr S) : WE N (Exit.inBlock id Q) .normal fr S := h
theorem WE.inBlockRet {id : Nat} (h : WE N Q .ret fr S) : WE N (Exit.inBlock id Q) .ret fr S := h
theorem WE.exitHere {id : Nat} (h : WE N Q .normal fr S) : WE N (Exit.inBlock id Q) (.exit id) fr S := fun a w ha hs => by
  simp only [Exit.inBlock, if_true]; exact h a w ha hs
theorem WE.exitOut {id id' : Nat} (hne : Nat.beq id' id = false) (h : WE N Q (.exit id') fr S) : WE N (Exit.inBlock id Q) (.exit id') fr S := fun a w ha hs => by
  have : ¬ id' = id := fun e => by subst e; simp at hne
  simp only [Exit.inBlock, this, if_false]; exact h a w ha hs

theorem WC.weaken {c : Code} {fr' : Fr} {S' : Asrt} (hs : Fr.sub fr' fr) (hS : ∀ w, S w → S' w) (h : WC P N c Q fr' S') : WC P N c Q fr S := fun a w ha hw => h a w (ha.weaken hs) (hS w hw)
theorem WE.weaken {e : Exit} {fr' : Fr} {S' : Asrt} (hs : Fr.sub fr' fr) (hS : ∀ w, S w → S' w) (h : WE N Q e fr' S') : WE N Q e fr S := fun a w ha hw => h a w (ha.weaken hs) (hS w hw)
theorem WL.conseq {ops : Array Oper} {l : List Oper} {S' : Asrt} (hS : ∀ w, S w → S' w) (h : WL P N ops Q l fr S') : WL P N ops Q l fr S := fun a w ha hw => h a w ha (hS w hw)
theorem WC.conseq {c : Code} {S' : Asrt} (hS : ∀ w, S w → S' w) (h : WC P N c Q fr S') : WC P N c Q fr S := fun a w ha hw => h a w ha (hS w hw)
theorem WE.conseq {e : Exit} {S' : Asrt} (hS : ∀ w, S w → S' w) (h : WE N Q e fr S') : WE N Q e fr S := fun a w ha hw => h a w ha (hS w hw)

theorem WL.nil {ops : Array Oper} (h : WE N Q .normal fr S) : WL P N ops Q [] fr S := h

/-- The back edge of a loop: some ghost state of the invariant, of smaller measure. -/
def Back {X : Type} (N : Nat) (F : X → Fr) (I : X → Asrt) (m : X → Nat) (x : X) : Act → World → Prop := fun a w => ∃ x', Rel N (F x') a ∧ I x' w ∧ m x' < m x

theorem least {p : Nat → Prop} (h : ∃ n, p n) : ∃ n, p n ∧ ∀ k, p k → n ≤ k := by
  obtain ⟨n, hn⟩ := h
  induction n using Nat.strongRecOn with
  | _ n ih =>
    by_cases hk : ∃ k, k < n ∧ p k
    · obtain ⟨k, h1, h2⟩ := hk
      exact ih k h1 h2
    · refine ⟨n, hn, fun k hp => ?_⟩
      rcases Nat.lt_or_ge k n with h | h
      · exact absurd ⟨k, h, hp⟩ hk
      · exact h

theorem WC.loop {c : Code} {X : Type} (F : X → Fr) (I : X → Asrt) (m : X → Nat) (x₀ : X) (hF : Fr.sub (F x₀) fr) (hI : ∀ w, S w → I x₀ w)
    (round : ∀ x, WC P N c (Exit.then (Back N F I m x) Q) (F x) (I x)) : WC P N (.loop c) Q fr S := by
  classical
  intro a w ha hs
  have ex : ∀ a w, (∃ x, Rel N (F x) a ∧ I x w) → ∃ n, ∃ x, (Rel N (F x) a ∧ I x w) ∧ m x = n := fun a w ⟨x, h⟩ => ⟨m x, x, h, rfl⟩
  let μ : Act → World → Nat := fun a w => if h : ∃ x, Rel N (F x) a ∧ I x w then Classical.choose (least (ex a w h)) else 0
  refine wp_loop (fun a w => ∃ x, Rel N (F x) a ∧ I x w) μ ⟨x₀, ha.weaken hF, hI w hs⟩ ?_
  intro a w h
  obtain ⟨x, ⟨hx1, hx2⟩, hx3⟩ := (Classical.choose_spec (least (ex a w h))).1
  have hμ : μ a w = m x := by simp only [μ, dif_pos h]; exact hx3.symm
  refine Code.wp_mono (fun e a' w' hq => ?_) (round x a w hx1 hx2)
  cases e <;> first | exact hq | skip
  obtain ⟨x', h1, h2, h3⟩ := hq
  refine ⟨⟨x', h1, h2⟩, ?_⟩
  have h' : ∃ x, Rel N (F x) a' ∧ I x w' := ⟨x', h1, h2⟩
  have : μ a' w' ≤ m x' := by simp only [μ, dif_pos h']; exact (Classical.choose_spec (least (ex a' w' h'))).2 _ ⟨x', ⟨h1, h2⟩, rfl⟩
  omega

theorem WE.back {X : Type} {F : X → Fr} {I : X → Asrt} {m : X → Nat} {x : X} (x' : X) (hF : Fr.sub (F x') fr) (hI : ∀ w, S w → I x' w) (hm : m x' < m x) :
    WE N (Exit.then (Back N F I m x) Q) .normal fr S := fun _ w ha hs => ⟨x', ha.weaken hF, hI w hs, hm⟩
end

/-! ### One operation -/
/-- The operation yields v and leaves the world as it is. -/
def Y0 (P : Program) (N : Nat) (o : Oper) (fr : Fr) (S : Asrt) (v : Value) : Prop := ∀ a w, Rel N fr a → S w → (execOp a.eval o).run P w = .ok (.value v) w
/-- The operation yields a value and a world that meet Φ. -/
def Y1 (P : Program) (N : Nat) (o : Oper) (fr : Fr) (S : Asrt) (Φ : Value → Asrt) : Prop := ∀ a w, Rel N fr a → S w → ∃ v w', (execOp a.eval o).run P w = .ok (.value v) w' ∧ Φ v w'
/-- The operation is a statement. -/
def YS (P : Program) (N : Nat) (o : Oper) (fr : Fr) (S S' : Asrt) : Prop := ∀ a w, Rel N fr a → S w → ∃ w', (execOp a.eval o).run P w = .ok .skip w' ∧ S' w'
/-- The operation is a call of a function with a body. -/
def YC (P : Program) (N : Nat) (o : Oper) (fr : Fr) (S : Asrt) (f : FuncId) (args : Array Value) : Prop := ∀ a w, Rel N fr a → S w → (execOp a.eval o).run P w = .ok (.enter f args) w

section
variable {P : Program} {N : Nat} {Q : Post} {fr : Fr} {S : Asrt} {ops : Array Oper} {l : List Oper}

def guardOK (ops : Array Oper) (fr : Fr) (o : Oper) (b : Bool) : Prop :=
  match o.guard with
  | none => b = true
  | some (j, want) => (∃ d c, (ops[j]?).bind (·.dst) = some d ∧ fr.get d = some (.bool c) ∧ b = (c == want)) ∨ (∃ d, (ops[j]?).bind (·.dst) = some d ∧ fr.get d = some undef ∧ b = false)

theorem Rel.wanted {a : Act} {o : Oper} {b : Bool} (h : Rel N fr a) (hg : guardOK ops fr o b) : Region.wanted o (yielded ops a.tmps) = b := by
  unfold guardOK at hg
  unfold Region.wanted
  cases ho : o.guard with
  | none => rw [ho] at hg; simp at hg; simp [hg]
  | some p =>
    obtain ⟨j, want⟩ := p
    rw [ho] at hg
    rcases hg with ⟨d, c, h1, h2, h3⟩ | ⟨d, h1, h2, h3⟩
    · simp only [yielded, h1, Option.bind_some, h.here d _ h2]
      rw [h3]
      cases c <;> cases want <;> rfl
    · simp only [yielded, h1, Option.bind_some, h.here d _ h2]
      rw [h3]
      rfl

/-- The slot that an operation writes. -/
def putFr (d : Option Nat) (v : Value) (fr : Fr) : Fr := match d with | some t => (t, v) :: fr | none => fr
def dstOK (N : Nat) (d : Option Nat) : Prop := match d with | some t => Nat.blt t N = true | none => True
theorem Rel.putFr {a : Act} {d : Option Nat} (v : Value) (h : Rel N fr a) (hd : dstOK N d) : Rel N (EL.putFr d v fr) (a.put d v) := by
  cases d with
  | none => exact h
  | some t => exact h.put v (by simpa [dstOK, Nat.blt_eq] using hd)

theorem WL.y0' {dst : Option Nat} {op : Op} {ty : TypeId} {pos : String} {af : Array Edge} {g : Option (Nat × Bool)} {v : Value}
    (hg : guardOK ops fr ⟨dst, op, ty, pos, af, g⟩ true) (h : Y0 P N ⟨dst, op, ty, pos, af, g⟩ fr S v) (hd : dstOK N dst) (k : WL P N ops Q l (putFr dst v fr) S) : WL P N ops Q (⟨dst, op, ty, pos, af, g⟩ :: l) fr S := by
  intro a w ha hs
  unfold wpList
  rw [if_pos (ha.wanted hg)]
  refine .inl ?_
  simp only [Oper.wp, h a w ha hs, Oper.upon]
  exact k _ w (ha.putFr v hd) hs
theorem WL.y1' {dst : Option Nat} {op : Op} {ty : TypeId} {pos : String} {af : Array Edge} {g : Option (Nat × Bool)} {Φ : Value → Asrt}
    (hg : guardOK ops fr ⟨dst, op, ty, pos, af, g⟩ true) (h : Y1 P N ⟨dst, op, ty, pos, af, g⟩ fr S Φ) (hd : dstOK N dst) (k : ∀ v, WL P N ops Q l (putFr dst v fr) (Φ v)) : WL P N ops Q (⟨dst, op, ty, pos, af, g⟩ :: l) fr S := by
  intro a w ha hs
  obtain ⟨v, w', hr, hp⟩ := h a w ha hs
  unfold wpList
  rw [if_pos (ha.wanted hg)]
  refine .inl ?_
  simp only [Oper.wp, hr, Oper.upon]
  exact k v _ w' (ha.putFr v hd) hp
theorem WL.ys' {op : Op} {ty : TypeId} {pos : String} {af : Array Edge} {g : Option (Nat × Bool)} {S' : Asrt}
    (hg : guardOK ops fr ⟨none, op, ty, pos, af, g⟩ true) (h : YS P N ⟨none, op, ty, pos, af, g⟩ fr S S') (k : WL P N ops Q l fr S') : WL P N ops Q (⟨none, op, ty, pos, af, g⟩ :: l) fr S := by
  intro a w ha hs
  obtain ⟨w', hr, hp⟩ := h a w ha hs
  unfold wpList
  rw [if_pos (ha.wanted hg)]
  refine .inl ?_
  simp only [Oper.wp, hr, Oper.upon]
  exact k _ w' ha hp
/-- An operation whose guard says no. -/
theorem WL.skip {dst : Option Nat} {op : Op} {ty : TypeId} {pos : String} {af : Array Edge} {g : Option (Nat × Bool)}
    (hg : guardOK ops fr ⟨dst, op, ty, pos, af, g⟩ false) (hd : dstOK N dst) (k : WL P N ops Q l (putFr dst undef fr) S) : WL P N ops Q (⟨dst, op, ty, pos, af, g⟩ :: l) fr S := by
  intro a w ha hs
  unfold wpList
  rw [if_neg (by rw [ha.wanted hg]; simp)]
  exact k _ w (ha.putFr undef hd) hs
theorem guard_none {dst : Option Nat} {op : Op} {ty : TypeId} {pos : String} {af : Array Edge} : guardOK ops fr ⟨dst, op, ty, pos, af, none⟩ true := rfl
theorem guard_yes {dst : Option Nat} {op : Op} {ty : TypeId} {pos : String} {af : Array Edge} {j : Nat} {c : Bool} {d : Nat} (h1 : (ops[j]?).bind (·.dst) = some d) (h2 : fr.get d = some (.bool c)) :
    guardOK ops fr ⟨dst, op, ty, pos, af, some (j, c)⟩ true := .inl ⟨d, c, h1, h2, by cases c <;> rfl⟩
theorem guard_no {dst : Option Nat} {op : Op} {ty : TypeId} {pos : String} {af : Array Edge} {j : Nat} {c : Bool} {d : Nat} (h1 : (ops[j]?).bind (·.dst) = some d) (h2 : fr.get d = some (.bool (!c))) :
    guardOK ops fr ⟨dst, op, ty, pos, af, some (j, c)⟩ false := .inl ⟨d, !c, h1, h2, by cases c <;> rfl⟩
theorem guard_noT {dst : Option Nat} {op : Op} {ty : TypeId} {pos : String} {af : Array Edge} {j : Nat} {d : Nat} (h1 : (ops[j]?).bind (·.dst) = some d) (h2 : fr.get d = some (.bool false)) :
    guardOK ops fr ⟨dst, op, ty, pos, af, some (j, true)⟩ false := .inl ⟨d, false, h1, h2, rfl⟩
theorem guard_noF {dst : Option Nat} {op : Op} {ty : TypeId} {pos : String} {af : Array Edge} {j : Nat} {d : Nat} (h1 : (ops[j]?).bind (·.dst) = some d) (h2 : fr.get d = some (.bool true)) :
    guardOK ops fr ⟨dst, op, ty, pos, af, some (j, false)⟩ false := .inl ⟨d, true, h1, h2, rfl⟩
theorem guard_undef {dst : Option Nat} {op : Op} {ty : TypeId} {pos : String} {af : Array Edge} {j : Nat} {c : Bool} {d : Nat} (h1 : (ops[j]?).bind (·.dst) = some d) (h2 : fr.get d = some undef) :
    guardOK ops fr ⟨dst, op, ty, pos, af, some (j, c)⟩ false := .inr ⟨d, h1, h2, rfl⟩
end
end Go.EL
/- Regions that draw their order, carried out in whatever order: an invariant over the set of the operations that were carried out. No condition. -/
namespace Go.EL
open Go

/-- The operations that operation k waits for, through others too. -/
def ancStep (md : Region.Mode) (acc : List (List Nat)) (o : Oper) : List Nat :=
  (List.range acc.length).filter fun j => o.after.toList.any fun e => Region.binds md e && (Nat.beq e.on j || (acc.getD e.on []).contains j)
def ancs (md : Region.Mode) : List Oper → List (List Nat) → List (List Nat)
  | [], acc => acc
  | o :: r, acc => ancs md r (acc ++ [ancStep md acc o])

theorem ancs_length (md : Region.Mode) : ∀ (l : List Oper) (acc : List (List Nat)), (ancs md l acc).length = acc.length + l.length
  | [], acc => by simp [ancs]
  | o :: r, acc => by simp only [ancs, ancs_length md r]; simp; omega

theorem ancs_keep (md : Region.Mode) : ∀ (l : List Oper) (acc : List (List Nat)) (k : Nat), k < acc.length → (ancs md l acc)[k]? = acc[k]?
  | [], acc, k, _ => rfl
  | o :: r, acc, k, h => by
    simp only [ancs]
    rw [ancs_keep md r _ k (by simp; omega), List.getElem?_append_left h]

theorem ancs_at (md : Region.Mode) : ∀ (l : List Oper) (acc : List (List Nat)) (i : Nat) (o : Oper), l[i]? = some o →
    (ancs md l acc)[acc.length + i]? = some (ancStep md ((ancs md l acc).take (acc.length + i)) o)
  | [], acc, i, o, h => by simp at h
  | p :: r, acc, 0, o, h => by
    simp at h
    subst h
    simp only [ancs, Nat.add_zero]
    have hk := ancs_keep md r (acc ++ [ancStep md acc p]) acc.length (by simp)
    rw [hk]
    have ht : (ancs md r (acc ++ [ancStep md acc p])).take acc.length = acc := by
      apply List.ext_getElem?
      intro j
      rw [List.getElem?_take]
      split
      · rename_i hj
        rw [ancs_keep md r _ j (by simp; omega), List.getElem?_append_left hj]
      · rename_i hj
        simp at hj
        rw [List.getElem?_eq_none hj]
    rw [ht]
    simp
  | p :: r, acc, i + 1, o, h => by
    simp at h
    have := ancs_at md r (acc ++ [ancStep md acc p]) i o h
    simp only [ancs]
    have e : (acc ++ [ancStep md acc p]).length + i = acc.length + (i + 1) := by simp; omega
    rw [e] at this
    exact this

/-- What was carried out is closed under what it waited for. -/
def Closed (md : Region.Mode) (ops : Array Oper) (D : Nat → Prop) : Prop := ∀ i o, ops[i]? = some o → D i → ∀ e ∈ o.after, Region.binds md e = true → D e.on

theorem closed_anc {md : Region.Mode} {l : List Oper} {D : Nat → Prop} (hc : Closed md l.toArray D) :
    ∀ k o, l[k]? = some o → (∀ e ∈ o.after, Region.binds md e = true → D e.on) → ∀ j, j ∈ (ancs md l []).getD k [] → D j := by
  intro k
  induction k using Nat.strongRecOn with
  | _ k ih =>
    intro o ho hr j hj
    have h := ancs_at md l [] k o ho
    simp only [List.length_nil, Nat.zero_add] at h
    rw [List.getD_eq_getElem?_getD, h] at hj
    simp only [Option.getD_some, ancStep, List.mem_filter, List.mem_range, List.any_eq_true, Bool.and_eq_true, Bool.or_eq_true] at hj
    obtain ⟨hjl, e, he, hb, hej⟩ := hj
    have hD := hr e (by simpa using he) hb
    rcases hej with hej | hej
    · have := Nat.eq_of_beq_eq_true hej
      subst this
      exact hD
    · have hlt : e.on < k := by
        rcases Nat.lt_or_ge e.on k with h | h
        · exact h
        · rw [List.getD_eq_getElem?_getD, List.getElem?_eq_none (by simp; omega)] at hej
          simp at hej
      have hget : ((ancs md l []).take k).getD e.on [] = (ancs md l []).getD e.on [] := by
        rw [List.getD_eq_getElem?_getD, List.getD_eq_getElem?_getD, List.getElem?_take, if_pos hlt]
      rw [hget] at hej
      have hkl : k < l.length := (List.getElem?_eq_some_iff.1 ho).1
      have hoe : l[e.on]? = some (l[e.on]'(by omega)) := List.getElem?_eq_getElem (by omega)
      exact ih e.on hlt _ hoe (fun e' he' hb' => hc e.on _ (by simp) hD e' he' hb') j (by simpa using hej)

/-- From number n on every operation waits for all that stand before it, but for those that float. -/
def tailB (md : Region.Mode) (l : List Oper) (fl : List Bool) : Bool :=
  let A := ancs md l []
  (List.range l.length).all fun k => Nat.blt k fl.length || (List.range k).all fun j => fl.getD j false || (A.getD k []).contains j

section
variable {P : Program} {Q : Post} {md : Region.Mode} {l : List Oper} {fl : List Bool}

theorem tail_all {D : Nat → Prop} (hT : tailB md l fl = true) (hc : Closed md l.toArray D) {k : Nat} {o : Oper} (hk : fl.length ≤ k) (ho : l[k]? = some o)
    (hr : ∀ e ∈ o.after, Region.binds md e = true → D e.on) : ∀ j, j < k → fl.getD j false = false → D j := by
  intro j hj hf
  have hkl : k < l.length := (List.getElem?_eq_some_iff.1 ho).1
  simp only [tailB, List.all_eq_true, List.mem_range, Bool.or_eq_true, Nat.blt_eq] at hT
  rcases hT k hkl with h | h
  · omega
  · rcases h j hj with h' | h'
    · rw [hf] at h'; cases h'
    · exact closed_anc hc k o ho hr j (by simpa using h')

/-- No operation waits for one that stands behind it. -/
def edgesB (md : Region.Mode) (l : List Oper) : Bool := (List.range l.length).all fun i => ((l[i]?).map fun o => o.after.toList.all fun e => !Region.binds md e || Nat.blt e.on i).getD true
theorem edges_lt (hE : edgesB md l = true) {i : Nat} {o : Oper} (ho : l[i]? = some o) : ∀ e ∈ o.after, Region.binds md e = true → e.on < i := by
  intro e he hb
  have hil : i < l.length := (List.getElem?_eq_some_iff.1 ho).1
  simp only [edgesB, List.all_eq_true, List.mem_range] at hE
  have := hE i hil
  rw [ho] at this
  simp only [Option.map_some, Option.getD_some, List.all_eq_true, Bool.or_eq_true, Bool.not_eq_true', Nat.blt_eq] at this
  rcases this e (by simpa using he) with h | h
  · rw [h] at hb; cases hb
  · exact h

/-- How many are still to come. -/
def toCome (L : Nat) (listed : Array Bool) : Nat := ((List.range L).filter fun i => !listed.getD i false).length

theorem nodup_length_le : ∀ (l₁ l₂ : List Nat), l₁.Nodup → (∀ x, x ∈ l₁ → x ∈ l₂) → l₁.length ≤ l₂.length
  | [], _, _, _ => by simp
  | x :: r, l₂, hn, hs => by
    have hx : x ∈ l₂ := hs x (by simp)
    have hn' := List.nodup_cons.1 hn
    have h := nodup_length_le r (l₂.erase x) hn'.2 (fun y hy => (List.mem_erase_of_ne (fun (e : y = x) => hn'.1 (by rw [← e]; exact hy))).2 (hs y (by simp [hy])))
    have hl := List.length_erase_of_mem hx
    have hp := List.length_pos_of_mem hx
    simp only [List.length_cons]
    omega

theorem toCome_set {L i : Nat} {listed : Array Bool} (hs : listed.size = L) (hi : i < L) (hu : listed.getD i false = false) : toCome L (listed.setIfInBounds i true) + 1 ≤ toCome L listed := by
  unfold toCome
  have hsub : ∀ j, j ∈ (i :: (List.range L).filter fun j => !(listed.setIfInBounds i true).getD j false) → j ∈ (List.range L).filter fun j => !listed.getD j false := by
    intro j hj
    simp only [List.mem_cons, List.mem_filter, List.mem_range, Bool.not_eq_true'] at hj ⊢
    rcases hj with rfl | ⟨h1, h2⟩
    · exact ⟨hi, hu⟩
    · refine ⟨h1, ?_⟩
      by_cases e : i = j
      · subst e; simp [hs, hi] at h2
      · rw [getD_set_ne false e] at h2; exact h2
  have hnd2 : (i :: (List.range L).filter fun j => !(listed.setIfInBounds i true).getD j false).Nodup := by
    refine List.nodup_cons.2 ⟨?_, List.nodup_range.filter _⟩
    simp [hs, hi]
  have := nodup_length_le _ _ hnd2 hsub
  simpa using this

/-- ANY ORDER: the invariant 'Inv D' speaks of the set D of the operations that were carried out, as long as one of the first ones that do not float is missing; 'Inv2 D m': the tail has come as far as m, some that float may be missing. -/
theorem wpAny_inv (Inv : (Nat → Prop) → Act → World → Prop) (Inv2 : (Nat → Prop) → Nat → Act → World → Prop) (hE : edgesB md l = true) (hT : tailB md l fl = true)
    (step : ∀ (D : Nat → Prop) a w i o, Closed md l.toArray D → (∀ k, fl.length ≤ k → ¬ D k) → i < fl.length → l[i]? = some o → ¬ D i → (∀ e ∈ o.after, Region.binds md e = true → D e.on) → Inv D a w →
      wpOp P l.toArray Q i (fun a' w' => Inv (fun j => D j ∨ j = i) a' w') a w)
    (turn : ∀ (D : Nat → Prop) a w, Closed md l.toArray D → (∀ i, i < fl.length → i < l.length → fl.getD i false = false → D i) → (∀ k, fl.length ≤ k → ¬ D k) → Inv D a w → Inv2 D fl.length a w)
    (tail : ∀ (D : Nat → Prop) a w m o, Closed md l.toArray D → fl.length ≤ m → l[m]? = some o → (∀ k, m ≤ k → ¬ D k) → (∀ e ∈ o.after, Region.binds md e = true → D e.on) → Inv2 D m a w →
      wpOp P l.toArray Q m (fun a' w' => Inv2 (fun j => D j ∨ j = m) (m + 1) a' w') a w)
    (float : ∀ (D : Nat → Prop) a w m i o, Closed md l.toArray D → i < fl.length → fl.length ≤ m → fl.getD i false = true → l[i]? = some o → ¬ D i → (∀ e ∈ o.after, Region.binds md e = true → D e.on) → Inv2 D m a w →
      wpOp P l.toArray Q i (fun a' w' => Inv2 (fun j => D j ∨ j = i) m a' w') a w)
    (fin : ∀ (D : Nat → Prop) a w m, (∀ i, i < l.length → D i) → l.length ≤ m → Inv2 D m a w → Q .normal a w) :
    ∀ (fuel : Nat) (listed : Array Bool) (D : Nat → Prop) (a : Act) (w : World), listed.size = l.length → (∀ i, D i ↔ listed.getD i false = true) → Closed md l.toArray D →
      toCome l.length listed ≤ fuel →
      ((∃ i, i < fl.length ∧ i < l.length ∧ fl.getD i false = false ∧ ¬ D i) ∧ (∀ k, fl.length ≤ k → ¬ D k) ∧ Inv D a w ∨
        ∃ m, fl.length ≤ m ∧ (∀ i, i < fl.length → i < l.length → fl.getD i false = false → D i) ∧ (∀ i, fl.length ≤ i → i < m → i < l.length → D i) ∧ (∀ k, m ≤ k → ¬ D k) ∧ Inv2 D m a w) →
      wpAny P md l.toArray Q fuel listed a w := by
  have readyMem : ∀ (listed : Array Bool) (D : Nat → Prop) (j : Nat), listed.size = l.length → (∀ i, D i ↔ listed.getD i false = true) → j ∈ Region.ready md l.toArray listed →
      ¬ D j ∧ ∃ o, l[j]? = some o ∧ ∀ e ∈ o.after, Region.binds md e = true → D e.on := by
    intro listed D j hs hD hj
    obtain ⟨h0, o, ho, ha⟩ := mem_ready.1 hj
    have hjl : j < l.length := by
      have := (Array.getElem?_eq_some_iff.1 ho).1
      simpa using this
    refine ⟨fun h => ?_, o, by simpa using ho, fun e he hb => (hD _).2 (ha e he hb)⟩
    rw [hD] at h
    simp [hs, hjl] at h h0
    rw [h] at h0
    cases h0
  have readyOf : ∀ (listed : Array Bool) (D : Nat → Prop) (j : Nat), listed.size = l.length → (∀ i, D i ↔ listed.getD i false = true) → j < l.length → ¬ D j → (∀ i, i < j → D i) → j ∈ Region.ready md l.toArray listed := by
    intro listed D j hs hD hj hn hall
    have ho : l[j]? = some l[j] := List.getElem?_eq_getElem hj
    refine mem_ready.2 ⟨?_, l[j], by simp, fun e he hb => (hD _).1 (hall _ (edges_lt hE ho e he hb))⟩
    rw [hD] at hn
    simp [hs, hj] at hn ⊢
    exact hn
  -- nothing may come up: all has come up
  have allOf : ∀ (listed : Array Bool) (D : Nat → Prop), listed.size = l.length → (∀ i, D i ↔ listed.getD i false = true) → Region.ready md l.toArray listed = [] → ∀ i, i < l.length → D i := by
    intro listed D hs hD hr i hi
    apply Classical.byContradiction
    intro hni
    obtain ⟨j, ⟨hj1, hj2⟩, hmin⟩ := least (p := fun j => j < l.length ∧ ¬ D j) ⟨i, hi, hni⟩
    have : j ∈ Region.ready md l.toArray listed := readyOf listed D j hs hD hj1 hj2 (fun k hk => by
      apply Classical.byContradiction
      intro hnk
      have := hmin k ⟨by omega, hnk⟩
      omega)
    rw [hr] at this
    cases this
  have ended : ∀ (D : Nat → Prop) a w, (∀ i, i < l.length → D i) → ((∃ i, i < fl.length ∧ i < l.length ∧ fl.getD i false = false ∧ ¬ D i) ∧ (∀ k, fl.length ≤ k → ¬ D k) ∧ Inv D a w ∨
        ∃ m, fl.length ≤ m ∧ (∀ i, i < fl.length → i < l.length → fl.getD i false = false → D i) ∧ (∀ i, fl.length ≤ i → i < m → i < l.length → D i) ∧ (∀ k, m ≤ k → ¬ D k) ∧ Inv2 D m a w) → Q .normal a w := by
    intro D a w hall h
    rcases h with ⟨⟨i, _, h2, _, h3⟩, _⟩ | ⟨m, _, _, _, h3, h4⟩
    · exact absurd (hall i h2) h3
    · have : l.length ≤ m := by
        rcases Nat.lt_or_ge m l.length with h | h
        · exact absurd (hall m h) (h3 m (Nat.le_refl _))
        · exact h
      exact fin D a w m hall this h4
  intro fuel
  induction fuel with
  | zero =>
    intro listed D a w hs hD hc hf h
    have hall : ∀ i, i < l.length → D i := by
      intro i hi
      rw [hD]
      have h0 : (List.range l.length).filter (fun i => !listed.getD i false) = [] := List.eq_nil_of_length_eq_zero (by unfold toCome at hf; omega)
      rw [List.filter_eq_nil_iff] at h0
      have := h0 i (by simpa using hi)
      simpa using this
    refine ⟨?_, ended D a w hall h⟩
    apply List.eq_nil_iff_forall_not_mem.2
    intro j hj
    obtain ⟨h1, o, ho, _⟩ := readyMem listed D j hs hD hj
    exact h1 (hall j (List.getElem?_eq_some_iff.1 ho).1)
  | succ fuel ih =>
    intro listed D a w hs hD hc hf h
    have next : ∀ i, i < l.length → ¬ D i → (∀ o, l[i]? = some o → ∀ e ∈ o.after, Region.binds md e = true → D e.on) → (∀ j, (D j ∨ j = i) ↔ (listed.setIfInBounds i true).getD j false = true) ∧
        Closed md l.toArray (fun j => D j ∨ j = i) ∧ toCome l.length (listed.setIfInBounds i true) ≤ fuel := by
      intro i hi hn ha
      refine ⟨fun j => ?_, ?_, ?_⟩
      · by_cases e : i = j
        · subst e; simp [hs, hi]
        · rw [getD_set_ne false e, ← hD]
          exact ⟨fun h => h.resolve_right (fun h => e h.symm), .inl⟩
      · intro k o ho hk e he hb
        rcases hk with hk | rfl
        · exact .inl (hc k o ho hk e he hb)
        · exact .inl (ha o (by simpa using ho) e he hb)
      · have hu : listed.getD i false = false := by
          cases hb : listed.getD i false
          · rfl
          · exact absurd ((hD i).2 hb) hn
        have := toCome_set hs hi hu
        omega
    refine ⟨fun hr => ended D a w (allOf listed D hs hD hr) h, fun i hi => ?_⟩
    obtain ⟨hni, o, ho, ha⟩ := readyMem listed D i hs hD hi
    have hil : i < l.length := (List.getElem?_eq_some_iff.1 ho).1
    obtain ⟨hD', hc', hf'⟩ := next i hil hni (fun o' ho' => by rw [ho] at ho'; cases ho'; exact ha)
    rcases h with ⟨⟨q, h1, h2, hqf, h3⟩, htail, hInv⟩ | ⟨m, h1, h2, h2', h3, h4⟩
    · have hin : i < fl.length := by
        rcases Nat.lt_or_ge i fl.length with h | h
        · exact h
        · exact absurd (tail_all hT hc h ho ha q (by omega) hqf) h3
      refine wpOp_mono (fun a' w' hI => ?_) (step D a w i o hc htail hin ho hni ha hInv)
      have htail' : ∀ k, fl.length ≤ k → ¬ (D k ∨ k = i) := by
        intro k hk
        rintro (h | rfl)
        · exact htail k hk h
        · omega
      refine ih _ _ a' w' (by simpa using hs) hD' hc' hf' ?_
      by_cases hex : ∃ q, q < fl.length ∧ q < l.length ∧ fl.getD q false = false ∧ ¬ (D q ∨ q = i)
      · exact .inl ⟨hex, htail', hI⟩
      · have hall : ∀ q, q < fl.length → q < l.length → fl.getD q false = false → (D q ∨ q = i) := fun q hq hql hqf => by
          apply Classical.byContradiction; intro hh; exact hex ⟨q, hq, hql, hqf, hh⟩
        exact .inr ⟨fl.length, Nat.le_refl _, hall, fun k _ _ _ => by omega, htail', turn _ a' w' hc' hall htail' hI⟩
    · rcases Nat.lt_or_ge i fl.length with hin | hin
      · have hfl : fl.getD i false = true := by
          cases hb : fl.getD i false
          · exact absurd (h2 i hin hil hb) hni
          · rfl
        refine wpOp_mono (fun a' w' hI => ?_) (float D a w m i o hc hin h1 hfl ho hni ha h4)
        refine ih _ _ a' w' (by simpa using hs) hD' hc' hf' (.inr ⟨m, h1, fun q hq hql hqf => .inl (h2 q hq hql hqf), fun q hq hqm hql => .inl (h2' q hq hqm hql), fun k hk => ?_, hI⟩)
        rintro (h | rfl)
        · exact h3 k hk h
        · omega
      · have him : i = m := by
          rcases Nat.lt_trichotomy i m with h | h | h
          · exact absurd (h2' i hin h hil) hni
          · exact h
          · exact absurd (tail_all hT hc hin ho ha m h (by rw [List.getD_eq_getElem?_getD, List.getElem?_eq_none h1]; rfl)) (h3 m (Nat.le_refl _))
        subst him
        refine wpOp_mono (fun a' w' hI => ?_) (tail D a w i o hc h1 ho h3 ha h4)
        refine ih _ _ a' w' (by simpa using hs) hD' hc' hf' (.inr ⟨i + 1, by omega, fun q hq hql hqf => .inl (h2 q hq hql hqf), fun q hq hqm hql => ?_, fun k hk => ?_, hI⟩)
        · rcases Nat.lt_or_ge q i with h | h
          · exact .inl (h2' q hq h hql)
          · exact .inr (by omega)
        · rintro (h | rfl)
          · exact h3 k (by omega) h
          · omega

/-- A region that draws its order. -/
theorem wp_region_inv {id : Nat} {a : Act} {w : World} (hm : P.follows .mixedOrders = true) (Inv : (Nat → Prop) → Act → World → Prop) (Inv2 : (Nat → Prop) → Nat → Act → World → Prop) (hE : edgesB .any l = true) (hT : tailB .any l fl = true)
    (hI : Inv (fun _ => False) a { w with drawn := w.drawn + 1 })
    (step : ∀ (D : Nat → Prop) a w i o, Closed .any l.toArray D → (∀ k, fl.length ≤ k → ¬ D k) → i < fl.length → l[i]? = some o → ¬ D i → (∀ e ∈ o.after, Region.binds .any e = true → D e.on) → Inv D a w →
      wpOp P l.toArray Q i (fun a' w' => Inv (fun j => D j ∨ j = i) a' w') a w)
    (turn : ∀ (D : Nat → Prop) a w, Closed .any l.toArray D → (∀ i, i < fl.length → i < l.length → fl.getD i false = false → D i) → (∀ k, fl.length ≤ k → ¬ D k) → Inv D a w → Inv2 D fl.length a w)
    (tail : ∀ (D : Nat → Prop) a w m o, Closed .any l.toArray D → fl.length ≤ m → l[m]? = some o → (∀ k, m ≤ k → ¬ D k) → (∀ e ∈ o.after, Region.binds .any e = true → D e.on) → Inv2 D m a w →
      wpOp P l.toArray Q m (fun a' w' => Inv2 (fun j => D j ∨ j = m) (m + 1) a' w') a w)
    (float : ∀ (D : Nat → Prop) a w m i o, Closed .any l.toArray D → i < fl.length → fl.length ≤ m → fl.getD i false = true → l[i]? = some o → ¬ D i → (∀ e ∈ o.after, Region.binds .any e = true → D e.on) → Inv2 D m a w →
      wpOp P l.toArray Q i (fun a' w' => Inv2 (fun j => D j ∨ j = i) m a' w') a w)
    (fin : ∀ (D : Nat → Prop) a w m, (∀ i, i < l.length → D i) → l.length ≤ m → Inv2 D m a w → Q .normal a w) :
    (Code.region id l.toArray true).wp P Q a w := by
  refine wp_region_any hm (wpAny_inv Inv Inv2 hE hT step turn tail float fin _ _ (fun _ => False) a _ (by simp) (fun i => ?_) (fun _ _ _ h => h.elim) ?_ ?_)
  · constructor
    · exact False.elim
    · intro h
      simp only [Array.getD_eq_getD_getElem?, Array.getElem?_replicate] at h
      split at h <;> simp at h
  · unfold toCome
    have := List.length_filter_le (fun i => !(Array.replicate l.toArray.size false).getD i false) (List.range l.length)
    simpa using this
  · by_cases hex : ∃ i, i < fl.length ∧ i < l.length ∧ fl.getD i false = false
    · obtain ⟨i, h1, h2, h3⟩ := hex
      exact .inl ⟨⟨i, h1, h2, h3, fun h => h⟩, fun _ _ h => h, hI⟩
    · have hall : ∀ i, i < fl.length → i < l.length → fl.getD i false = false → False := fun i h1 h2 h3 => hex ⟨i, h1, h2, h3⟩
      exact .inr ⟨fl.length, Nat.le_refl _, hall, fun i h1 h2 _ => by omega, fun _ _ h => h, turn _ a _ (fun _ _ _ h => h.elim) hall (fun _ _ h => h) hI⟩
end
end Go.EL
/- Memory: cells that never change, blocks of the call's own; contracts of functions; regions that draw their order, by a chain of premises. No condition. -/
namespace Go.EL
open Go Go.RowKit

/-- Known cells that never change. -/
abbrev Mem := Nat → Nat → Option Value
def Mem.le (G G' : Mem) : Prop := ∀ b o v, G b o = some v → G' b o = some v
theorem Mem.le_refl (G : Mem) : Mem.le G G := fun _ _ _ h => h
theorem Mem.le_trans {A B C : Mem} (h : Mem.le A B) (k : Mem.le B C) : Mem.le A C := fun b o v e => k b o v (h b o v e)
def Imm (G : Mem) (w : World) : Prop := ∀ b o v, G b o = some v → w.cell? ⟨b, o, none⟩ = some v
theorem Imm.lt {G : Mem} {w : World} (h : Imm G w) {b o : Nat} {v : Value} (e : G b o = some v) : b < w.heap.size := World.block_lt_of_cell? w _ (h b o v e)

/-- A block of the call's own: the block, what it holds, and the mark from which on its cells are known to nobody else. -/
structure Ow where
  b : Nat
  o : Obj
  m : Nat
/-- Blocks of the call's own by names. The first entry of a name counts. -/
abbrev Lo := List (Nat × Option Ow)
def Lo.get : Lo → Nat → Option Ow
  | [], _ => none
  | p :: r, i => bif Nat.beq p.1 i then p.2 else Lo.get r i
def Lo.sub (L' L : Lo) : Prop := ∀ i x, L'.get i = some x → L.get i = some x
theorem Lo.sub_nil (L : Lo) : Lo.sub [] L := fun t v h => by simp [Lo.get] at h
theorem Lo.sub_refl (L : Lo) : Lo.sub L L := fun _ _ h => h
theorem Lo.get_cons {L : Lo} {i j : Nat} {x : Option Ow} : Lo.get ((i, x) :: L) j = if i = j then x else L.get j := by
  simp only [Lo.get]
  by_cases e : i = j
  · subst e; simp
  · have : Nat.beq i j = false := by cases hb : Nat.beq i j; rfl; exact absurd (Nat.eq_of_beq_eq_true hb) e
    simp [this, e]
theorem Lo.sub_cons {L' L : Lo} {i : Nat} {x : Option Ow} (h : L.get i = x) (hs : Lo.sub L' L) : Lo.sub ((i, x) :: L') L := by
  intro u y hy
  rw [Lo.get_cons] at hy
  split at hy
  · rename_i e; subst e; rw [h]; exact hy
  · exact hs u y hy
theorem Lo.sub_no {L' L : Lo} {i : Nat} (hs : Lo.sub L' L) : Lo.sub ((i, none) :: L') L := by
  intro u y hy
  rw [Lo.get_cons] at hy
  split at hy
  · cases hy
  · exact hs u y hy

/-- A cell of a lent block, beyond its mark. -/
def Lo.own (L : Lo) (b o : Nat) : Prop := ∃ i y, L.get i = some y ∧ y.b = b ∧ y.m ≤ o
theorem Lo.own_nil {b o : Nat} (h : Lo.own [] b o) : False := by obtain ⟨i, y, h1, _⟩ := h; simp [Lo.get] at h1
/-- The start of a call: its world, and the blocks that the caller lends it. -/
structure Bs where
  w : World
  L : Lo

structure St (w0 : Bs) (G0 G : Mem) (L : Lo) (w : World) : Prop where
  os : w.os = w0.w.os
  tape : w.tape = w0.w.tape
  output : w.output = w0.w.output
  drawn : w0.w.drawn ≤ w.drawn
  size : w0.w.heap.size ≤ w.heap.size
  block : ∀ k, k < w0.w.heap.size → (∀ i y, w0.L.get i = some y → y.b ≠ k) → w.heap[k]? = w0.w.heap[k]?
  base : Mem.le G0 G
  imm : Imm G w
  fresh : ∀ b o v, G b o = some v → G0 b o = some v ∨ w0.w.heap.size ≤ b ∨ w0.L.own b o
  loc : ∀ i x, L.get i = some x → w.heap[x.b]? = some x.o ∧ ((∃ y, w0.L.get i = some y ∧ y.b = x.b) ∨ w0.w.heap.size ≤ x.b) ∧ ∀ k, x.m ≤ k → G x.b k = none
  dist : ∀ i j x y, i ≠ j → L.get i = some x → L.get j = some y → x.b ≠ y.b

theorem St.weaken {w0 : Bs} {G0 G : Mem} {L L' : Lo} {w : World} (h : St w0 G0 G L w) (hs : Lo.sub L' L) : St w0 G0 G L' w :=
  { h with loc := fun i x e => h.loc i x (hs _ _ e), dist := fun i j x y hne e e' => h.dist i j x y hne (hs _ _ e) (hs _ _ e') }
theorem St.memLe {w0 : Bs} {G0 G G' : Mem} {L : Lo} {w : World} (h : St w0 G0 G' L w) (hb : Mem.le G0 G) (hs : Mem.le G G') : St w0 G0 G L w :=
  { h with
    base := hb
    imm := fun b o v e => h.imm b o v (hs b o v e)
    fresh := fun b o v e => h.fresh b o v (hs b o v e)
    loc := fun i x e => ⟨(h.loc i x e).1, (h.loc i x e).2.1, fun k hk => by
      have := (h.loc i x e).2.2 k hk
      cases hg : G x.b k with
      | none => rfl
      | some v => rw [hs x.b k v hg] at this; cases this⟩ }
theorem St.drew {w0 : Bs} {G0 G : Mem} {L : Lo} {w : World} (h : St w0 G0 G L w) : St w0 G0 G L { w with drawn := w.drawn + 1 } :=
  ⟨h.os, h.tape, h.output, Nat.le_succ_of_le h.drawn, h.size, h.block, h.base, h.imm, h.fresh, h.loc, h.dist⟩

/-- What a caller knows ahead of a call: the cells, and the blocks that it lends. -/
structure Hp (G : Mem) (L : Lo) (w : World) : Prop where
  imm : Imm G w
  loc : ∀ i x, L.get i = some x → w.heap[x.b]? = some x.o ∧ ∀ k, x.m ≤ k → G x.b k = none
  dist : ∀ i j x y, i ≠ j → L.get i = some x → L.get j = some y → x.b ≠ y.b

/-- What a call leaves: the lent blocks and new ones turned; what is known of them. -/
structure Ext (w : World) (G : Mem) (L : Lo) (w' : World) (G' : Mem) (L' : Lo) : Prop where
  os : w'.os = w.os
  tape : w'.tape = w.tape
  output : w'.output = w.output
  drawn : w.drawn ≤ w'.drawn
  size : w.heap.size ≤ w'.heap.size
  block : ∀ k, k < w.heap.size → (∀ i y, L.get i = some y → y.b ≠ k) → w'.heap[k]? = w.heap[k]?
  le : Mem.le G G'
  imm : Imm G' w'
  fresh : ∀ b o v, G' b o = some v → G b o = some v ∨ w.heap.size ≤ b ∨ L.own b o
  loc : ∀ i x, L'.get i = some x → w'.heap[x.b]? = some x.o ∧ ((∃ y, L.get i = some y ∧ y.b = x.b) ∨ w.heap.size ≤ x.b) ∧ ∀ k, x.m ≤ k → G' x.b k = none
  dist : ∀ i j x y, i ≠ j → L'.get i = some x → L'.get j = some y → x.b ≠ y.b

/-- Both: what a call returned of what was lent (L2), and the rest (R), whose names it does not take. -/
theorem St.ext {w0 : Bs} {G0 G G' : Mem} {L L1 L2 R L3 : Lo} {w w' : World} (h : St w0 G0 G L w) (e : Ext w G L1 w' G' L2) (h1 : Lo.sub L1 L) (hR : Lo.sub R L) (hno : ∀ i x, R.get i = some x → L1.get i = none)
    (hm : ∀ i x y, L1.get i = some x → L.get i = some y → ∀ z, w0.L.get i = some z → z.m ≤ x.m)
    (h3 : ∀ i x, L3.get i = some x → L2.get i = some x ∨ R.get i = some x) : St w0 G0 G' L3 w' := by
  have lt : ∀ i x, L.get i = some x → x.b < w.heap.size := fun i x hi => (Array.getElem?_eq_some_iff.1 (h.loc i x hi).1).1
  have rest : ∀ i x, R.get i = some x → w'.heap[x.b]? = some x.o ∧ ((∃ y, w0.L.get i = some y ∧ y.b = x.b) ∨ w0.w.heap.size ≤ x.b) ∧ ∀ k, x.m ≤ k → G' x.b k = none := by
    intro i x hi
    obtain ⟨m1, m2, m3⟩ := h.loc i x (hR _ _ hi)
    have hb := lt i x (hR _ _ hi)
    have hne : ∀ j y, L1.get j = some y → y.b ≠ x.b := fun j y hj => by
      have hij : j ≠ i := fun e' => by subst e'; rw [hno j _ hi] at hj; cases hj
      exact h.dist j i y x hij (h1 _ _ hj) (hR _ _ hi)
    refine ⟨?_, m2, fun k hk => ?_⟩
    · rw [e.block x.b hb hne]; exact m1
    · cases hg : G' x.b k with
      | none => rfl
      | some v =>
        rcases e.fresh x.b k v hg with h' | h' | ⟨j, y, hj, hy, _⟩
        · rw [m3 k hk] at h'; cases h'
        · omega
        · exact absurd hy (hne j y hj)
  have both : ∀ i x, L2.get i = some x ∨ R.get i = some x → w'.heap[x.b]? = some x.o ∧ ((∃ y, w0.L.get i = some y ∧ y.b = x.b) ∨ w0.w.heap.size ≤ x.b) ∧ ∀ k, x.m ≤ k → G' x.b k = none := by
    intro i x hx
    rcases hx with hx | hx
    · obtain ⟨m1, m2, m3⟩ := e.loc i x hx
      refine ⟨m1, ?_, m3⟩
      rcases m2 with ⟨y, hy, hyb⟩ | m2
      · rcases (h.loc i y (h1 _ _ hy)).2.1 with ⟨z, hz, hzb⟩ | hz
        · exact .inl ⟨z, hz, hzb.trans hyb⟩
        · exact .inr (by rw [← hyb]; exact hz)
      · exact .inr (Nat.le_trans h.size m2)
    · exact rest i x hx
  refine ⟨e.os.trans h.os, e.tape.trans h.tape, e.output.trans h.output, Nat.le_trans h.drawn e.drawn, Nat.le_trans h.size e.size, fun k hk hn => ?_, Mem.le_trans h.base e.le, e.imm, fun b o v hv => ?_, fun i x hi => both i x (h3 i x hi), fun i j x y hne hi hj => ?_⟩
  · have hs := h.size
    rw [e.block k (by omega) (fun i y hi hy => ?_)]
    · exact h.block k hk hn
    · obtain ⟨m1, m2, _⟩ := h.loc i y (h1 _ _ hi)
      rcases m2 with ⟨z, m2, hzb⟩ | m2
      · exact hn i z m2 (hzb.trans hy)
      · omega
  · rcases e.fresh b o v hv with h' | h' | ⟨i, y, hi, hyb, hym⟩
    · exact h.fresh b o v h'
    · exact .inr (.inl (Nat.le_trans h.size h'))
    · rcases (h.loc i y (h1 _ _ hi)).2.1 with ⟨z, hz, hzb⟩ | hz
      · exact .inr (.inr ⟨i, z, hz, hzb.trans hyb, Nat.le_trans (hm i y y hi (h1 _ _ hi) z hz) hym⟩)
      · exact .inr (.inl (by rw [← hyb]; exact hz))
  · rcases h3 i x hi with hi | hi <;> rcases h3 j y hj with hj | hj
    · exact e.dist i j x y hne hi hj
    · rcases (e.loc i x hi).2.1 with ⟨z, hz, hzb⟩ | hz
      · rw [← hzb]; exact h.dist i j z y hne (h1 _ _ hz) (hR _ _ hj)
      · have := lt j y (hR _ _ hj); omega
    · rcases (e.loc j y hj).2.1 with ⟨z, hz, hzb⟩ | hz
      · rw [← hzb]; exact h.dist i j x z hne (hR _ _ hi) (h1 _ _ hz)
      · have := lt i x (hR _ _ hi); omega
    · exact h.dist i j x y hne (hR _ _ hi) (hR _ _ hj)

/-- A contract: from every world in which the known cells and the lent blocks lie. -/
def RetL (w0 : Bs) (G : Mem) (post : Mem → Lo → Value → Prop) (e : Ending) (w' : World) : Prop := ∃ r G' L', e = .returned r ∧ Ext w0.w G w0.L w' G' L' ∧ post G' L' r
abbrev RetTo (w0 : Bs) (G : Mem) (post : Mem → Value → Prop) := RetL w0 G (fun G' _ r => post G' r)
def CtrL (P : Program) (f : FuncId) (args : Array Value) (L : Lo) (pre : Mem → Prop) (post : Mem → Lo → Value → Prop) : Prop :=
  ∀ w G, Hp G L w → pre G → Calls P f args w (RetL ⟨w, L⟩ G post)
/-- .. of a function that nothing is lent, and of whose own blocks nothing is told. -/
abbrev Ctr (P : Program) (f : FuncId) (args : Array Value) (pre : Mem → Prop) (post : Mem → Value → Prop) : Prop := CtrL P f args [] pre (fun G _ r => post G r)

theorem CtrL.mono {P : Program} {f : FuncId} {args : Array Value} {L : Lo} {pre pre' : Mem → Prop} {post post' : Mem → Lo → Value → Prop} (h : CtrL P f args L pre post) (hp : ∀ G, pre' G → pre G)
    (hq : ∀ G L r, post G L r → post' G L r) : CtrL P f args L pre' post' := fun w G hi hG => (h w G hi (hp G hG)).mono fun _ _ ⟨r, G', L', h1, h2, h3⟩ => ⟨r, G', L', h1, h2, hq _ _ _ h3⟩

/-- What an operation comes to. -/
def OpRes (P : Program) : Result Next → (Value → World → Prop) → Prop
  | .ok (.value v) w', Φ => Φ v w'
  | .ok .skip w', Φ => Φ undef w'
  | .ok (.enter f args) w', Φ => Calls P f args w' (fun e w'' => ∃ r, e = .returned r ∧ Φ r w'')
  | _, _ => False
theorem OpRes.mono {P : Program} {r : Result Next} {Φ Φ' : Value → World → Prop} (h : OpRes P r Φ) (hk : ∀ v w, Φ v w → Φ' v w) : OpRes P r Φ' := by
  cases r with
  | ok n w =>
    cases n <;> simp only [OpRes] at h ⊢
    case value v => exact hk _ _ h
    case skip => exact hk _ _ h
    case enter f args => exact h.mono fun e w'' ⟨r, h1, h2⟩ => ⟨r, h1, hk _ _ h2⟩
  | halt x w => exact h
theorem OpRes.wp {P : Program} {o : Oper} {a : Act} {w : World} {Φ : Value → World → Prop} {K : Act → World → Prop} {Q : Post} (h : OpRes P ((execOp a.eval o).run P w) Φ) (hk : ∀ v w', Φ v w' → K (a.put o.dst v) w') : o.wp P a w K Q := by
  unfold Oper.wp
  generalize (execOp a.eval o).run P w = r at h ⊢
  cases r with
  | ok n w' =>
    cases n <;> simp only [OpRes] at h <;> simp only [Oper.upon]
    case value v => exact hk _ _ h
    case skip => exact hk _ _ h
    case enter f args => exact h.mono fun e w'' ⟨r, h1, h2⟩ => by subst h1; exact hk _ _ h2
  | halt x w => exact h.elim

/-- An operation from every frame and world that fit. -/
def YR (P : Program) (N : Nat) (o : Oper) (fr : Fr) (S : Asrt) (Φ : Value → World → Prop) : Prop := ∀ a w, Rel N fr a → S w → OpRes P ((execOp a.eval o).run P w) Φ

section
variable {P : Program} {N : Nat} {Q : Post} {fr : Fr} {S : Asrt} {ops : Array Oper} {l : List Oper}
theorem Y0.yr {o : Oper} {v : Value} (h : Y0 P N o fr S v) : YR P N o fr S (fun v' w' => v' = v ∧ S w') := fun a w ha hs => by rw [h a w ha hs]; exact ⟨rfl, hs⟩
theorem WL.yr {dst : Option Nat} {op : Op} {ty : TypeId} {pos : String} {af : Array Edge} {g : Option (Nat × Bool)} {Φ : Value → Asrt}
    (hg : guardOK ops fr ⟨dst, op, ty, pos, af, g⟩ true) (h : YR P N ⟨dst, op, ty, pos, af, g⟩ fr S Φ) (hd : dstOK N dst) (k : ∀ v, WL P N ops Q l (putFr dst v fr) (Φ v)) : WL P N ops Q (⟨dst, op, ty, pos, af, g⟩ :: l) fr S := by
  intro a w ha hs
  unfold wpList
  rw [if_pos (ha.wanted hg)]
  exact .inl ((h a w ha hs).wp fun v w' hv => k v _ w' (ha.putFr v hd) hv)
end

/-! ### Regions that draw their order -/
/-- Q, but no other way out. -/
def NX (Q : Post) : Post := fun e a w => match e with | .normal => Q .normal a w | _ => False
theorem WE.nx {N : Nat} {Q : Post} {fr : Fr} {S : Asrt} (h : WE N Q .normal fr S) : WE N (NX Q) .normal fr S := h
/-- The known memory of a region that draws, and the blocks that its operations laid (by their numbers: the slot, the object). -/
abbrev Xm := Nat → Option (Nat × Obj)
structure Gx where
  m : Mem
  x : Xm
def Gx.of (G : Mem) : Gx := ⟨G, fun _ => none⟩
def Gx.le (g g' : Gx) : Prop := Mem.le g.m g'.m ∧ ∀ b y, g.x b = some y → g'.x b = some y
theorem Gx.le_refl (g : Gx) : Gx.le g g := ⟨Mem.le_refl _, fun _ _ h => h⟩
theorem Gx.le_trans {a b c : Gx} (h : Gx.le a b) (k : Gx.le b c) : Gx.le a c := ⟨Mem.le_trans h.1 k.1, fun x y e => k.2 x y (h.2 x y e)⟩
structure StX (w0 : Bs) (G0 : Mem) (g : Gx) (L : Lo) (w : World) : Prop where
  st : St w0 G0 g.m L w
  own : ∀ b i o, g.x b = some (i, o) → w.heap[b]? = some o ∧ w0.w.heap.size ≤ b ∧ (∀ k, g.m b k = none) ∧ ∀ j y, L.get j = some y → y.b ≠ b
theorem StX.of {w0 : Bs} {G0 G : Mem} {L : Lo} {w : World} (h : St w0 G0 G L w) : StX w0 G0 (Gx.of G) L w := ⟨h, fun b i o e => by cases e⟩
abbrev Und := List (Nat × (Value → Gx → Prop))
def undFr : Und → (Nat → Value) → Fr
  | [], _ => []
  | p :: r, u => (p.1, u p.1) :: undFr r u
def undAll : Und → (Nat → Value) → Gx → Prop
  | [], _, _ => True
  | p :: r, u, G => p.2 (u p.1) G ∧ undAll r u G
def undLook (ops : Array Oper) (o : Oper) : Und → (Nat → Value) → Gx → Prop
  | [], _, _ => True
  | p :: r, u, G => (bif (o.looksAt ops).contains p.1 then p.2 (u p.1) G else True) ∧ undLook ops o r u G

section
variable (P : Program) (N : Nat) (Q : Post) (fr : Fr) (w0 : Bs) (G0 G : Mem) (L : Lo) (ops : Array Oper)
/-- Operation o, from every frame and world that fit, yields what meets Ψ. -/
def OpOK (F : Fr) (G' : Gx) (o : Oper) (Ψ : Value → Gx → Prop) : Prop :=
  (guardOK ops F o false ∧ Ψ undef G') ∨
  (guardOK ops F o true ∧ YR P N o F (StX w0 G0 G' L) (fun v w' => ∃ G'', Gx.le G' G'' ∧ StX w0 G0 G'' L w' ∧ Ψ v G''))
/-- The premises of the operations, one behind the other (a flag an operation: does it float?); behind them the tail in its order. -/
def Chain : List Bool → List Oper → Fr → Und → Prop
  | [], rest, det, und => ∀ u G', Gx.le (Gx.of G) G' → undAll und u G' → WL P N ops (NX Q) rest (undFr und u ++ (det ++ fr)) (StX w0 G0 G' L)
  | _ :: _, [], det, und => ∀ u G', Gx.le (Gx.of G) G' → undAll und u G' → WL P N ops (NX Q) [] (undFr und u ++ (det ++ fr)) (StX w0 G0 G' L)
  | true :: fs, o :: r, det, und => ∃ c, (∀ u, guardOK ops (undFr und u ++ (det ++ fr)) o true ∧ Y0 P N o (undFr und u ++ (det ++ fr)) (fun _ => True) c) ∧ Chain fs r (putFr o.dst c det) und
  | false :: fs, o :: r, det, und =>
    (∃ c, (∀ u G', Gx.le (Gx.of G) G' → undLook ops o und u G' → OpOK P N w0 G0 L ops (undFr und u ++ (det ++ fr)) G' o (fun v _ => v = c)) ∧ Chain fs r (putFr o.dst c det) und) ∨
    (∃ d φ, o.dst = some d ∧ (∀ v G₁ G₂, Gx.le G₁ G₂ → φ v G₁ → φ v G₂) ∧ (∀ u G', Gx.le (Gx.of G) G' → undLook ops o und u G' → OpOK P N w0 G0 L ops (undFr und u ++ (det ++ fr)) G' o φ) ∧ Chain fs r det ((d, φ) :: und))
end
end Go.EL
/- That a chain of premises serves whatever order a region draws. No condition. -/
namespace Go.EL
open Go Go.RowKit

abbrev Ent := Value ⊕ (Value → Gx → Prop)
def Ent.val (e : Ent) (u : Nat → Value) (t : Nat) : Value := match e with | .inl c => c | .inr _ => u t
def Ent.post : Ent → Value → Gx → Prop
  | .inl c => fun v _ => v = c
  | .inr φ => φ
abbrev Tab := List (Oper × Ent)
def detT : Tab → Fr → Fr
  | [], det => det
  | (o, .inl c) :: r, det => detT r (putFr o.dst c det)
  | (_, .inr _) :: r, det => detT r det
def undT : Tab → Und → Und
  | [], und => und
  | (_, .inl _) :: r, und => undT r und
  | (o, .inr φ) :: r, und => undT r (match o.dst with | some d => (d, φ) :: und | none => und)

theorem Fr.get_append (A B : Fr) (t : Nat) : Fr.get (A ++ B) t = (A.get t).or (B.get t) := by
  induction A with
  | nil => simp [Fr.get]
  | cons p A ih =>
    simp only [List.cons_append, Fr.get]
    cases Nat.beq p.1 t <;> simp [ih]
theorem Fr.get_cons (t : Nat) (v : Value) (A : Fr) (s : Nat) : Fr.get ((t, v) :: A) s = if t = s then some v else A.get s := by
  simp only [Fr.get]
  by_cases e : t = s
  · subst e; simp
  · have : Nat.beq t s = false := by cases hb : Nat.beq t s; rfl; exact absurd (Nat.eq_of_beq_eq_true hb) e
    simp [this, e]
theorem undFr_get_none {und : Und} {u : Nat → Value} {t : Nat} (h : ∀ p ∈ und, p.1 ≠ t) : (undFr und u).get t = none := by
  induction und with
  | nil => rfl
  | cons p r ih =>
    simp only [undFr]
    rw [Fr.get_cons, if_neg (h p (by simp))]
    exact ih (fun q hq => h q (by simp [hq]))

section
variable {fr : Fr} {u : Nat → Value}
/-- The frame behind the operations of T. -/
theorem frame_at : ∀ (T : Tab) (det : Fr) (und : Und) (t : Nat), (∀ p ∈ und, ∀ q ∈ T, q.1.dst ≠ some p.1) → (∀ (j₁ j₂ : Nat) (q₁ q₂ : Oper × Ent) (d : Nat), T[j₁]? = some q₁ → T[j₂]? = some q₂ → q₁.1.dst = some d → q₂.1.dst = some d → j₁ = j₂) → (∀ q ∈ T, ∀ φ, q.2 = .inr φ → q.1.dst.isSome = true) →
    ((∀ q ∈ T, q.1.dst ≠ some t) → Fr.get (undFr (undT T und) u ++ (detT T det ++ fr)) t = Fr.get (undFr und u ++ (det ++ fr)) t) ∧
    (∀ q ∈ T, q.1.dst = some t → Fr.get (undFr (undT T und) u ++ (detT T det ++ fr)) t = some (q.2.val u t))
  | [], det, und, t, _, _, _ => ⟨fun _ => rfl, fun q hq => by simp at hq⟩
  | (o, .inl c) :: r, det, und, t, h1, h2, h3 => by
    have h2' : ∀ j₁ j₂ (q₁ q₂ : Oper × Ent) d, r[j₁]? = some q₁ → r[j₂]? = some q₂ → q₁.1.dst = some d → q₂.1.dst = some d → j₁ = j₂ := fun j₁ j₂ q₁ q₂ d a b c d' => by
      have := h2 (j₁ + 1) (j₂ + 1) q₁ q₂ d (by simpa using a) (by simpa using b) c d'
      omega
    obtain ⟨ih1, ih2⟩ := frame_at r (putFr o.dst c det) und t (fun p hp q hq => h1 p hp q (by simp [hq])) h2' (fun q hq => h3 q (by simp [hq]))
    simp only [detT, undT]
    refine ⟨fun hn => ?_, fun q hq hd => ?_⟩
    · rw [ih1 (fun q hq => hn q (by simp [hq]))]
      have ho : o.dst ≠ some t := hn (o, .inl c) (by simp)
      rw [Fr.get_append, Fr.get_append, Fr.get_append, Fr.get_append]
      congr 2
      cases hd : o.dst with
      | none => rfl
      | some d => simp only [putFr]; rw [Fr.get_cons, if_neg (fun e => ho (by rw [hd, e]))]
    · rcases List.mem_cons.1 hq with rfl | hq
      · have hn : ∀ q ∈ r, q.1.dst ≠ some t := fun q hq' he => by
          obtain ⟨j, hj⟩ := List.getElem?_of_mem hq'
          have := h2 0 (j + 1) (o, .inl c) q t (by simp) (by simpa using hj) hd he
          omega
        rw [ih1 hn, Fr.get_append, undFr_get_none (fun p hp e => h1 p hp (o, .inl c) (by simp) (by rw [hd, e])), Fr.get_append]
        simp only at hd
        rw [hd]
        simp [putFr, Fr.get_cons, Ent.val]
      · exact ih2 q hq hd
  | (o, .inr φ) :: r, det, und, t, h1, h2, h3 => by
    have h2' : ∀ j₁ j₂ (q₁ q₂ : Oper × Ent) d, r[j₁]? = some q₁ → r[j₂]? = some q₂ → q₁.1.dst = some d → q₂.1.dst = some d → j₁ = j₂ := fun j₁ j₂ q₁ q₂ d a b c d' => by
      have := h2 (j₁ + 1) (j₂ + 1) q₁ q₂ d (by simpa using a) (by simpa using b) c d'
      omega
    obtain ⟨d, hd0⟩ := Option.isSome_iff_exists.1 (h3 (o, .inr φ) (by simp) φ rfl)
    simp only at hd0
    have hnr : ∀ q ∈ r, q.1.dst ≠ some d := fun q hq' he => by
      obtain ⟨j, hj⟩ := List.getElem?_of_mem hq'
      have := h2 0 (j + 1) (o, .inr φ) q d (by simp) (by simpa using hj) hd0 he
      omega
    obtain ⟨ih1, ih2⟩ := frame_at r det ((d, φ) :: und) t (fun p hp q hq => by
      rcases List.mem_cons.1 hp with rfl | hp
      · exact hnr q hq
      · exact h1 p hp q (by simp [hq])) h2' (fun q hq => h3 q (by simp [hq]))
    simp only [detT, undT, hd0]
    refine ⟨fun hn => ?_, fun q hq hd => ?_⟩
    · rw [ih1 (fun q hq => hn q (by simp [hq]))]
      have ho : o.dst ≠ some t := hn (o, .inr φ) (by simp)
      simp only [undFr, List.cons_append]
      rw [Fr.get_cons, if_neg (fun e => ho (by rw [hd0, e]))]
    · rcases List.mem_cons.1 hq with rfl | hq
      · simp only at hd
        have hdt : d = t := by rw [hd0] at hd; simpa using hd
        subst hdt
        rw [ih1 hnr]
        simp only [undFr, List.cons_append]
        rw [Fr.get_cons, if_pos rfl]
        rfl
      · exact ih2 q hq hd

theorem und_mem : ∀ (T : Tab) (und : Und) (p : Nat × (Value → Gx → Prop)), p ∈ undT T und → p ∈ und ∨ ∃ (j : Nat) (o : Oper), T[j]? = some (o, (.inr p.2 : Ent)) ∧ o.dst = some p.1
  | [], und, p, h => .inl h
  | (o, .inl c) :: r, und, p, h => by
    rcases und_mem r und p h with h | ⟨j, o', h1, h2⟩
    · exact .inl h
    · exact .inr ⟨j + 1, o', by simpa using h1, h2⟩
  | (o, .inr φ) :: r, und, p, h => by
    simp only [undT] at h
    rcases und_mem r _ p h with h | ⟨j, o', h1, h2⟩
    · cases hd : o.dst with
      | none => rw [hd] at h; exact .inl h
      | some d =>
        rw [hd] at h
        rcases List.mem_cons.1 h with rfl | h
        · exact .inr ⟨0, o, by simp, hd⟩
        · exact .inl h
    · exact .inr ⟨j + 1, o', by simpa using h1, h2⟩

theorem undAll_of {und : Und} {u : Nat → Value} {G : Gx} (h : ∀ p ∈ und, p.2 (u p.1) G) : undAll und u G := by
  induction und with
  | nil => trivial
  | cons p r ih => exact ⟨h p (by simp), ih (fun q hq => h q (by simp [hq]))⟩
theorem undLook_of {ops : Array Oper} {o : Oper} {und : Und} {u : Nat → Value} {G : Gx} (h : ∀ p ∈ und, p.1 ∈ o.looksAt ops → p.2 (u p.1) G) : undLook ops o und u G := by
  induction und with
  | nil => trivial
  | cons p r ih =>
    refine ⟨?_, ih (fun q hq => h q (by simp [hq]))⟩
    cases hc : (o.looksAt ops).contains p.1
    · trivial
    · exact h p (by simp) (by simpa using hc)
end

section
variable {P : Program} {N : Nat} {Q : Post} {fr : Fr} {w0 : Bs} {G0 G : Mem} {L : Lo} {ops : Array Oper}
/-- The table of a chain. -/
theorem chain_tab : ∀ (fl : List Bool) (rest : List Oper) (det : Fr) (und : Und), Chain P N Q fr w0 G0 G L ops fl rest det und →
    ∃ T : Tab, T.map (·.1) = rest.take fl.length ∧
      (∀ j o e, T[j]? = some (o, e) → ∀ u G', Gx.le (Gx.of G) G' → undLook ops o (undT (T.take j) und) u G' → OpOK P N w0 G0 L ops (undFr (undT (T.take j) und) u ++ (detT (T.take j) det ++ fr)) G' o e.post) ∧
      (∀ q ∈ T, ∀ φ, q.2 = .inr φ → q.1.dst.isSome = true ∧ ∀ v G₁ G₂, Gx.le G₁ G₂ → φ v G₁ → φ v G₂) ∧
      (∀ j o e, T[j]? = some (o, e) → fl.getD j false = true → ∃ c, e = .inl c ∧ ∀ u, guardOK ops (undFr (undT (T.take j) und) u ++ (detT (T.take j) det ++ fr)) o true ∧ Y0 P N o (undFr (undT (T.take j) und) u ++ (detT (T.take j) det ++ fr)) (fun _ => True) c) ∧
      (∀ u G', Gx.le (Gx.of G) G' → undAll (undT T und) u G' → WL P N ops (NX Q) (rest.drop fl.length) (undFr (undT T und) u ++ (detT T det ++ fr)) (StX w0 G0 G' L))
  | [], rest, det, und, h => ⟨[], by simp, by simp, by simp, by simp, by simpa [undT, detT, Chain] using h⟩
  | f :: fs, [], det, und, h => ⟨[], by simp, by simp, by simp, by simp, by cases f <;> simpa [undT, detT, Chain] using h⟩
  | true :: fs, o :: r, det, und, h => by
    simp only [Chain] at h
    obtain ⟨c, hp, hr⟩ := h
    obtain ⟨T, t1, t2, t3, t5, t4⟩ := chain_tab fs r _ und hr
    refine ⟨(o, .inl c) :: T, by simp [t1], fun j o' e hj => ?_, fun q hq => ?_, fun j o' e hj hf => ?_, by simpa [undT, detT] using t4⟩
    · cases j with
      | zero =>
        simp only [List.getElem?_cons_zero, Option.some.injEq, Prod.mk.injEq] at hj
        obtain ⟨rfl, rfl⟩ := hj
        intro u G' hle _
        simp only [List.take_zero, undT, detT, Ent.post]
        exact .inr ⟨(hp u).1, fun a w ha hs => by rw [(hp u).2 a w ha trivial]; exact ⟨G', Gx.le_refl _, hs, rfl⟩⟩
      | succ j =>
        simp only [List.getElem?_cons_succ] at hj
        simpa [undT, detT] using t2 j o' e hj
    · rcases List.mem_cons.1 hq with rfl | hq
      · intro φ he; cases he
      · exact t3 q hq
    · cases j with
      | zero =>
        simp only [List.getElem?_cons_zero, Option.some.injEq, Prod.mk.injEq] at hj
        obtain ⟨rfl, rfl⟩ := hj
        exact ⟨c, rfl, by simpa [undT, detT] using hp⟩
      | succ j =>
        simp only [List.getElem?_cons_succ] at hj
        simpa [undT, detT] using t5 j o' e hj (by simpa using hf)
  | false :: fs, o :: r, det, und, h => by
    simp only [Chain] at h
    rcases h with ⟨c, hp, hr⟩ | ⟨d, φ, hd, hm, hp, hr⟩
    · obtain ⟨T, t1, t2, t3, t5, t4⟩ := chain_tab fs r _ und hr
      refine ⟨(o, .inl c) :: T, by simp [t1], fun j o' e hj => ?_, fun q hq => ?_, fun j o' e hj hf => ?_, by simpa [undT, detT] using t4⟩
      · cases j with
        | zero =>
          simp only [List.getElem?_cons_zero, Option.some.injEq, Prod.mk.injEq] at hj
          obtain ⟨rfl, rfl⟩ := hj
          simpa [undT, detT, Ent.post] using hp
        | succ j =>
          simp only [List.getElem?_cons_succ] at hj
          simpa [undT, detT] using t2 j o' e hj
      · rcases List.mem_cons.1 hq with rfl | hq
        · intro φ he; cases he
        · exact t3 q hq
      · cases j with
        | zero => simp at hf
        | succ j =>
          simp only [List.getElem?_cons_succ] at hj
          simpa [undT, detT] using t5 j o' e hj (by simpa using hf)
    · obtain ⟨T, t1, t2, t3, t5, t4⟩ := chain_tab fs r det _ hr
      refine ⟨(o, .inr φ) :: T, by simp [t1], fun j o' e hj => ?_, fun q hq => ?_, fun j o' e hj hf => ?_, by simpa [undT, detT, hd] using t4⟩
      · cases j with
        | zero =>
          simp only [List.getElem?_cons_zero, Option.some.injEq, Prod.mk.injEq] at hj
          obtain ⟨rfl, rfl⟩ := hj
          simpa [undT, detT, Ent.post] using hp
        | succ j =>
          simp only [List.getElem?_cons_succ] at hj
          simpa [undT, detT, hd] using t2 j o' e hj
      · rcases List.mem_cons.1 hq with rfl | hq
        · intro φ' he
          cases he
          exact ⟨by simp [hd], hm⟩
        · exact t3 q hq
      · cases j with
        | zero => simp at hf
        | succ j =>
          simp only [List.getElem?_cons_succ] at hj
          simpa [undT, detT, hd] using t5 j o' e hj (by simpa using hf)
end

/-- Slots: written once, within the frame; who looks at a slot waits for its writer, or its writer for him. -/
def slotsB (N : Nat) (l : List Oper) (n : Nat) : Bool :=
  let A := ancs .any l []
  let ops := l.toArray
  let L := (l.take n).zipIdx
  L.all fun p => (match p.1.dst with
    | none => true
    | some t => Nat.blt t N && L.all fun q => Nat.beq p.2 q.2 || ((match q.1.dst with | none => true | some s => !Nat.beq t s) &&
        (!((q.1.looksAt ops).contains t) || bif Nat.blt p.2 q.2 then (A.getD q.2 []).contains p.2 else (A.getD p.2 []).contains q.2)))
/-- Operations that float: what the tail writes they neither look at nor write; who of the tail looks at what they write waits for them; they do not write what an earlier one of them looks at. -/
def floatB (l : List Oper) (fl : List Bool) : Bool :=
  let A := ancs .any l []
  let ops := l.toArray
  (List.range fl.length).all fun i => !fl.getD i false || ((l[i]?).map fun oi =>
    (List.range l.length).all fun k => ((l[k]?).map fun ok =>
      (Nat.blt k fl.length || (((A.getD k []).contains i || (match ok.dst with | none => true | some t => !(oi.looksAt ops).contains t && (match oi.dst with | none => true | some s => !Nat.beq t s))) &&
        (match oi.dst with | none => true | some t => !(ok.looksAt ops).contains t || (A.getD k []).contains i))) &&
      (!(Nat.ble k i && fl.getD k false) || (match oi.dst with | none => true | some t => !(ok.looksAt ops).contains t))).getD true).getD true
def drawB (N : Nat) (l : List Oper) (fl : List Bool) : Bool := edgesB .any l && tailB .any l fl && slotsB N l fl.length && Region.noSelect l.toArray && floatB l fl
theorem floatB_spec {l : List Oper} {fl : List Bool} (h : floatB l fl = true) {i k : Nat} {oi ok : Oper} (hi : i < fl.length) (hf : fl.getD i false = true) (hoi : l[i]? = some oi) (hok : l[k]? = some ok) :
    (fl.length ≤ k → (∀ t, i ∉ (ancs .any l []).getD k [] → ok.dst = some t → t ∉ oi.looksAt l.toArray ∧ oi.dst ≠ some t) ∧ (∀ t, oi.dst = some t → t ∈ ok.looksAt l.toArray → i ∈ (ancs .any l []).getD k [])) ∧
    (k ≤ i → fl.getD k false = true → ∀ t, oi.dst = some t → t ∉ ok.looksAt l.toArray) := by
  simp only [floatB, List.all_eq_true, List.mem_range, Bool.or_eq_true, Bool.not_eq_true'] at h
  have hkl : k < l.length := (List.getElem?_eq_some_iff.1 hok).1
  have h1 := (h i hi).resolve_left (by rw [hf]; simp)
  rw [hoi] at h1
  simp only [Option.map_some, Option.getD_some, List.all_eq_true, List.mem_range] at h1
  have h2 := h1 k hkl
  rw [hok] at h2
  simp only [Option.map_some, Option.getD_some, Bool.and_eq_true, Bool.or_eq_true, Nat.blt_eq] at h2
  obtain ⟨h3, h4⟩ := h2
  refine ⟨fun hk => ?_, fun hki hfk t ht => ?_⟩
  · have h5 := h3.resolve_left (by omega)
    refine ⟨fun t hna ht => ?_, fun t ht hl => ?_⟩
    · have h6 := h5.1
      rw [show ((ancs .any l []).getD k []).contains i = false by simpa using hna] at h6
      rw [ht] at h6
      simp only [Bool.false_eq_true, false_or, Bool.and_eq_true, Bool.not_eq_true'] at h6
      refine ⟨by simpa using h6.1, fun e => ?_⟩
      have h7 := h6.2
      rw [e] at h7
      simp at h7
    · have h6 := h5.2
      rw [ht] at h6
      simp only [Bool.or_eq_true, Bool.not_eq_true'] at h6
      rcases h6 with h6 | h6
      · simp at h6; exact absurd hl h6
      · simpa using h6
  · rcases h4 with h4 | h4
    · simp only [Bool.not_eq_true', Bool.and_eq_false_iff] at h4
      rcases h4 with h4 | h4
      · have : Nat.ble k i = true := by simpa using hki
        rw [this] at h4; cases h4
      · rw [hfk] at h4; cases h4
    · rw [ht] at h4
      simpa using h4

theorem drawB_slots {N : Nat} {l : List Oper} {n : Nat} (h : slotsB N l n = true) {i : Nat} {o : Oper} {t : Nat} (hi : i < n) (ho : l[i]? = some o) (hd : o.dst = some t) :
    t < N ∧ ∀ j o', j < n → l[j]? = some o' → i ≠ j → o'.dst ≠ some t ∧ (t ∈ o'.looksAt l.toArray → (i < j → i ∈ (ancs .any l []).getD j []) ∧ (j < i → j ∈ (ancs .any l []).getD i [])) := by
  simp only [slotsB, List.all_eq_true] at h
  have hm : ∀ j o', j < n → l[j]? = some o' → (o', j) ∈ (l.take n).zipIdx := fun j o' hj hl => by
    rw [List.mem_zipIdx_iff_getElem?]
    simp only [List.getElem?_take, if_pos hj]
    exact hl
  have h0 := h (o, i) (hm i o hi ho)
  simp only [hd, Bool.and_eq_true, List.all_eq_true, Nat.blt_eq] at h0
  refine ⟨h0.1, fun j o' hj hl hne => ?_⟩
  have h1 := h0.2 (o', j) (hm j o' hj hl)
  have hb : Nat.beq i j = false := by cases hb : Nat.beq i j; rfl; exact absurd (Nat.eq_of_beq_eq_true hb) hne
  simp only [hb, Bool.false_or, Bool.and_eq_true, Bool.or_eq_true] at h1
  refine ⟨fun e => ?_, fun hl' => ?_⟩
  · have h2 := h1.1
    simp only [e] at h2
    simp at h2
  · have h2 := h1.2
    have hc : (o'.looksAt l.toArray).contains t = true := by simpa using hl'
    rw [hc] at h2
    simp only [Bool.not_true, Bool.false_eq_true, false_or] at h2
    refine ⟨fun hij => ?_, fun hji => ?_⟩
    · rw [show Nat.blt i j = true by simpa using hij] at h2
      simpa using h2
    · rw [show Nat.blt i j = false by cases hb : Nat.blt i j; rfl; rw [Nat.blt_eq] at hb; omega] at h2
      simpa using h2

/-- A frame as F says, else as a. -/
def fill (F : Fr) (a : Act) : Act := { tmps := a.tmps.mapIdx fun t x => (F.get t).getD x, defers := a.defers }
theorem fill_at (F : Fr) (a : Act) (t : Nat) : (fill F a).tmps[t]? = (a.tmps[t]?).map fun x => (F.get t).getD x := by simp [fill]
theorem fill_rel {N : Nat} {F : Fr} {a : Act} (hd : a.defers = []) (hs : a.tmps.size = N) (hF : ∀ t v, F.get t = some v → t < N) : Rel N F (fill F a) where
  defers := hd
  size := by simp [fill, hs]
  here := fun t v h => by
    rw [fill_at]
    have := hF t v h
    rw [Array.getElem?_eq_getElem (by omega)]
    simp [h]
end Go.EL
/- The rule for a region that draws its order. No condition. -/
namespace Go.EL
open Go Go.RowKit

theorem looks_eval {ops : Array Oper} {o : Oper} {a b : Act} (hs : ∀ cs q, o.op ≠ .select cs q) (h : ∀ t, t ∈ o.looksAt ops → a.tmps[t]? = b.tmps[t]?) : execOp a.eval o = execOp b.eval o := by
  refine execOp_congr o hs fun x hx => ?_
  cases x with
  | tmp t =>
    have := h t (List.mem_append_left _ (List.mem_filterMap.2 ⟨.tmp t, by simpa using hx, rfl⟩))
    simp [Act.eval, this]
  | _ => rfl
theorem looks_wanted {ops : Array Oper} {o : Oper} {a b : Act} (h : ∀ t, t ∈ o.looksAt ops → a.tmps[t]? = b.tmps[t]?) : Region.wanted o (yielded ops a.tmps) = Region.wanted o (yielded ops b.tmps) := by
  unfold Region.wanted
  cases hg : o.guard with
  | none => rfl
  | some gw =>
    obtain ⟨g, want⟩ := gw
    have hy : yielded ops a.tmps g = yielded ops b.tmps g := by
      unfold yielded
      cases ht : (ops[g]?).bind (·.dst) with
      | none => rfl
      | some t =>
        have := h t (List.mem_append_right _ (by simp [hg, ht]))
        simp [this]
    simp only [hy]

section
variable {P : Program} {N : Nat} {Q : Post} {fr : Fr} {w0 : Bs} {G0 G : Mem} {L : Lo} {l : List Oper}

theorem WC.drawn {id : Nat} (fl : List Bool) (hm : P.follows .mixedOrders = true) (hB : drawB N l fl = true) (h : Mem.le G0 G → Chain P N Q fr w0 G0 G L l.toArray fl l [] []) :
    WC P N (.region id l.toArray true) Q fr (St w0 G0 G L) := by
  intro a w ha hw
  replace h := h hw.base
  revert a w
  simp only [drawB, Bool.and_eq_true] at hB
  obtain ⟨⟨⟨⟨hE, hT⟩, hS⟩, hsel⟩, hFl⟩ := hB
  obtain ⟨T, t1, t2, t3, t5, t4⟩ := chain_tab fl l [] [] h
  generalize hn : fl.length = n at *
  have hlen : T.length = min n l.length := by have := congrArg List.length t1; simpa using this
  have hTl : ∀ (j : Nat) (q : Oper × Ent), T[j]? = some q → j < n ∧ l[j]? = some q.1 := by
    intro j q hj
    have h1 : (T.map (·.1))[j]? = some q.1 := by simp [hj]
    rw [t1, List.getElem?_take] at h1
    split at h1
    · exact ⟨by assumption, h1⟩
    · cases h1
  have hlT : ∀ (j : Nat) (o : Oper), j < n → l[j]? = some o → ∃ e, T[j]? = some (o, e) := by
    intro j o hj hl
    have hjl : j < T.length := by have := (List.getElem?_eq_some_iff.1 hl).1; omega
    refine ⟨T[j].2, ?_⟩
    rw [List.getElem?_eq_getElem hjl]
    have h1 := (hTl j T[j] (List.getElem?_eq_getElem hjl)).2
    rw [hl] at h1
    cases h1
    rfl
  have hnd : ∀ (j₁ j₂ : Nat) (q₁ q₂ : Oper × Ent) (d : Nat), T[j₁]? = some q₁ → T[j₂]? = some q₂ → q₁.1.dst = some d → q₂.1.dst = some d → j₁ = j₂ := by
    intro j₁ j₂ q₁ q₂ d h1 h2 e1 e2
    apply Classical.byContradiction
    intro hne
    obtain ⟨a1, b1⟩ := hTl j₁ q₁ h1
    obtain ⟨a2, b2⟩ := hTl j₂ q₂ h2
    exact ((drawB_slots hS a1 b1 e1).2 j₂ q₂.1 a2 b2 hne).1 e2
  have hnoSel := Region.noSelect_spec hsel
  intro a w ha hw
  have frameOf : ∀ (i : Nat) (u : Nat → Value) (t : Nat),
      ((∀ j q, j < i → T[j]? = some q → q.1.dst ≠ some t) → Fr.get (undFr (undT (T.take i) []) u ++ (detT (T.take i) [] ++ fr)) t = fr.get t) ∧
      (∀ (j : Nat) (q : Oper × Ent), j < i → T[j]? = some q → q.1.dst = some t → Fr.get (undFr (undT (T.take i) []) u ++ (detT (T.take i) [] ++ fr)) t = some (q.2.val u t)) := by
    intro i u t
    have hsub : ∀ (j : Nat) (q : Oper × Ent), (T.take i)[j]? = some q → j < i ∧ T[j]? = some q := by
      intro j q hj
      rw [List.getElem?_take] at hj
      split at hj
      · exact ⟨by assumption, hj⟩
      · cases hj
    obtain ⟨f1, f2⟩ := frame_at (fr := fr) (u := u) (T.take i) [] [] t (by simp) (fun j₁ j₂ q₁ q₂ d h1 h2 => hnd j₁ j₂ q₁ q₂ d (hsub _ _ h1).2 (hsub _ _ h2).2)
      (fun q hq φ he => (t3 q (List.mem_of_mem_take hq) φ he).1)
    refine ⟨fun hn => ?_, fun j q hj hq hd => ?_⟩
    · rw [f1 (fun q hq => by
        obtain ⟨j, hj⟩ := List.getElem?_of_mem hq
        exact hn j q (hsub j q hj).1 (hsub j q hj).2)]
      rfl
    · refine f2 q ?_ hd
      have : (T.take i)[j]? = some q := by rw [List.getElem?_take, if_pos hj]; exact hq
      exact List.mem_of_getElem? this
  let Inv : (Nat → Prop) → Act → World → Prop := fun D a w => ∃ (u : Nat → Value) (G' : Gx), Gx.le (Gx.of G) G' ∧ StX w0 G0 G' L w ∧ a.defers = [] ∧ a.tmps.size = N ∧
    (∀ (j : Nat) (q : Oper × Ent) (t : Nat), T[j]? = some q → q.1.dst = some t → (D j → a.tmps[t]? = some (q.2.val u t) ∧ ∀ φ, q.2 = .inr φ → φ (u t) G') ∧ (¬ D j → ∀ v, fr.get t = some v → a.tmps[t]? = some v)) ∧
    (∀ t, (∀ (j : Nat) (q : Oper × Ent), T[j]? = some q → q.1.dst ≠ some t) → ∀ v, fr.get t = some v → a.tmps[t]? = some v)
  -- the tail: some that float may be missing
  let Inv2 : (Nat → Prop) → Nat → Act → World → Prop := fun D m a w => ∃ (u : Nat → Value) (af : Act), wpList P l.toArray (NX Q) (l.drop m) af w ∧ a.defers = af.defers ∧ a.tmps.size = N ∧ af.tmps.size = N ∧
    (∀ t, (∀ (j : Nat) (q : Oper × Ent), T[j]? = some q → fl.getD j false = true → ¬ D j → q.1.dst ≠ some t) → a.tmps[t]? = af.tmps[t]?) ∧
    (∀ (j : Nat) (o : Oper) (c : Value) (t : Nat), T[j]? = some (o, .inl c) → fl.getD j false = true → ¬ D j → o.dst = some t → af.tmps[t]? = some c) ∧
    (∀ (j : Nat) (q : Oper × Ent), T[j]? = some q → fl.getD j false = true → ¬ D j → ∀ t, t ∈ q.1.looksAt l.toArray → ∀ v, Fr.get (undFr (undT (T.take j) []) u ++ (detT (T.take j) [] ++ fr)) t = some v → af.tmps[t]? = some v)
  have hfln : ∀ j, fl.getD j false = true → j < n := fun j hj => by
    rcases Nat.lt_or_ge j n with h | h
    · exact h
    · rw [List.getD_eq_getElem?_getD, List.getElem?_eq_none (by omega)] at hj; cases hj
  refine wp_region_inv (fl := fl) hm Inv Inv2 hE hT ?_ ?_ ?_ ?_ ?_ ?_
  · exact ⟨fun _ => undef, Gx.of G, Gx.le_refl _, StX.of hw.drew, ha.defers, ha.size, fun j q t _ _ => ⟨fun h => h.elim, fun _ v hv => ha.here t v hv⟩, fun t _ v hv => ha.here t v hv⟩
  · intro D a w i o hc _ hi ho hni hr hI
    rw [hn] at hi
    obtain ⟨u, G', hle, hst, hd, hsz, hslot, hbase⟩ := hI
    obtain ⟨e, hTi⟩ := hlT i o hi ho
    have hanc := closed_anc hc i o ho hr
    let F : Fr := undFr (undT (T.take i) []) u ++ (detT (T.take i) [] ++ fr)
    have hF : ∀ t v, F.get t = some v → t < N := by
      intro t v hv
      by_cases hex : ∃ (j : Nat) (q : Oper × Ent), j < i ∧ T[j]? = some q ∧ q.1.dst = some t
      · obtain ⟨j, q, h1, h2, h3⟩ := hex
        obtain ⟨a1, b1⟩ := hTl j q h2
        exact (drawB_slots hS a1 b1 h3).1
      · have := (frameOf i u t).1 (fun j q h1 h2 h3 => hex ⟨j, q, h1, h2, h3⟩)
        have hv' : fr.get t = some v := by rw [← this]; exact hv
        have := ha.here t v hv'
        have := (Array.getElem?_eq_some_iff.1 this).1
        have hs0 := ha.size
        omega
    have hlook : ∀ t, t ∈ o.looksAt l.toArray → (fill F a).tmps[t]? = a.tmps[t]? := by
      intro t ht
      rw [fill_at]
      cases hx : a.tmps[t]? with
      | none => rfl
      | some x =>
        simp only [Option.map_some, Option.some.injEq]
        cases hf : F.get t with
        | none => rfl
        | some v =>
          simp only [Option.getD_some]
          have key : a.tmps[t]? = some v := by
            by_cases hex : ∃ (j : Nat) (q : Oper × Ent), j < i ∧ T[j]? = some q ∧ q.1.dst = some t
            · obtain ⟨j, q, h1, h2, h3⟩ := hex
              have hv := (frameOf i u t).2 j q h1 h2 h3
              have hvv : q.2.val u t = v := by rw [hf] at hv; simpa using hv.symm
              obtain ⟨a1, b1⟩ := hTl j q h2
              have hD : D j := hanc j (((drawB_slots hS a1 b1 h3).2 i o hi ho (by omega)).2 ht |>.1 h1)
              rw [← hvv]
              exact ((hslot j q t h2 h3).1 hD).1
            · have hb := (frameOf i u t).1 (fun j q h1 h2 h3 => hex ⟨j, q, h1, h2, h3⟩)
              have hv' : fr.get t = some v := by rw [← hb]; exact hf
              by_cases hex2 : ∃ (j : Nat) (q : Oper × Ent), T[j]? = some q ∧ q.1.dst = some t
              · obtain ⟨j, q, h2, h3⟩ := hex2
                have hji : i ≤ j := by
                  rcases Nat.lt_or_ge j i with h | h
                  · exact absurd ⟨j, q, h, h2, h3⟩ hex
                  · exact h
                have hnj : ¬ D j := by
                  rcases Nat.lt_or_ge i j with h | h
                  · intro hDj
                    obtain ⟨a1, b1⟩ := hTl j q h2
                    have hij := (((drawB_slots hS a1 b1 h3).2 i o hi ho (by omega)).2 ht).2 h
                    exact hni (closed_anc hc j q.1 b1 (fun e he hb => hc j q.1 (by simpa using b1) hDj e he hb) i hij)
                  · have : i = j := by omega
                    subst this
                    exact hni
                exact (hslot j q t h2 h3).2 hnj v hv'
              · exact hbase t (fun j q h2 h3 => hex2 ⟨j, q, h2, h3⟩) v hv'
          rw [hx] at key
          simpa using key.symm
    have hrel : Rel N F (fill F a) := fill_rel hd hsz hF
    have hex : execOp (fill F a).eval o = execOp a.eval o := looks_eval (fun cs b => hnoSel i o cs b (by simpa using ho)) hlook
    have hwt : Region.wanted o (yielded l.toArray (fill F a).tmps) = Region.wanted o (yielded l.toArray a.tmps) := looks_wanted hlook
    have hul : undLook l.toArray o (undT (T.take i) []) u G' := by
      refine undLook_of fun p hp hpl => ?_
      rcases und_mem (T.take i) [] p hp with h | ⟨j, o', h1, h2⟩
      · cases h
      · rw [List.getElem?_take] at h1
        split at h1
        · rename_i hji
          obtain ⟨a1, b1⟩ := hTl j _ h1
          have hD : D j := hanc j (((drawB_slots hS a1 b1 h2).2 i o hi ho (by omega)).2 hpl |>.1 hji)
          exact ((hslot j _ p.1 h1 h2).1 hD).2 p.2 rfl
        · cases h1
    have hop := t2 i o e hTi u G' hle hul
    -- the state behind the operation
    have behind : ∀ v w' G'', Gx.le G' G'' → StX w0 G0 G'' L w' → e.post v G'' → Inv (fun j => D j ∨ j = i) (a.put o.dst v) w' := by
      intro v w' G'' hle' hst' hpost
      let u' : Nat → Value := fun t => if o.dst = some t then v else u t
      refine ⟨u', G'', Gx.le_trans hle hle', hst', by cases o.dst <;> exact hd, by cases o.dst <;> simpa [Act.put] using hsz, fun j q t hj hdt => ?_, fun t hn x hx => ?_⟩
      · by_cases hji : j = i
        · subst hji
          rw [hTi] at hj
          cases hj
          simp only at hdt
          refine ⟨fun _ => ?_, fun h => absurd (Or.inr rfl) h⟩
          have htN := (drawB_slots hS hi ho hdt).1
          refine ⟨?_, fun φ he => ?_⟩
          · rw [hdt]
            simp only [Act.put]
            rw [Array.getElem?_setIfInBounds_self_of_lt (by omega)]
            cases e with
            | inl c => simp only [Ent.post] at hpost; simp [Ent.val, hpost]
            | inr φ => simp [Ent.val, u', hdt]
          · simp only at he
            subst he
            simp only [u', hdt, if_true]
            exact hpost
        · have hne : o.dst ≠ some t := fun he => hji (hnd j i q (o, e) t hj hTi hdt he)
          have hput : (a.put o.dst v).tmps[t]? = a.tmps[t]? := by
            cases ho' : o.dst with
            | none => rfl
            | some s =>
              simp only [Act.put]
              rw [Array.getElem?_setIfInBounds_ne (fun e => hne (by rw [ho', e]))]
          have hu' : u' t = u t := by simp only [u']; rw [if_neg hne]
          have hval : q.2.val u' t = q.2.val u t := by
            cases q.2 with
            | inl c => rfl
            | inr φ => simp only [Ent.val]; exact hu'
          rw [hput, hval]
          refine ⟨fun hD => ?_, fun hD => (hslot j q t hj hdt).2 (fun h => hD (.inl h))⟩
          have hDj : D j := hD.resolve_right hji
          have := (hslot j q t hj hdt).1 hDj
          refine ⟨this.1, fun φ he => ?_⟩
          rw [hu']
          exact (t3 q (List.mem_of_getElem? hj) φ he).2 _ _ _ hle' (this.2 φ he)
      · have hne : o.dst ≠ some t := hn i (o, e) hTi
        have hput : (a.put o.dst v).tmps[t]? = a.tmps[t]? := by
          cases ho' : o.dst with
          | none => rfl
          | some s =>
            simp only [Act.put]
            rw [Array.getElem?_setIfInBounds_ne (fun e => hne (by rw [ho', e]))]
        rw [hput]
        exact hbase t hn x hx
    unfold wpOp
    have hoa : l.toArray[i]? = some o := by simpa using ho
    simp only [hoa]
    rcases hop with ⟨hg, hpost⟩ | ⟨hg, hyr⟩
    · rw [if_neg (by rw [← hwt, hrel.wanted hg]; simp)]
      exact behind undef w G' (Gx.le_refl _) hst hpost
    · rw [if_pos (by rw [← hwt, hrel.wanted hg])]
      have hres := hyr (fill F a) w hrel hst
      rw [hex] at hres
      exact .inl (hres.wp fun v w' ⟨G'', h1, h2, h3⟩ => behind v w' G'' h1 h2 h3)
  · -- the turn
    intro D a w hcl hall _ hI
    obtain ⟨u, G', hle, hst, hd, hsz, hslot, hbase⟩ := hI
    have hTT : T.take T.length = T := List.take_length
    let F : Fr := undFr (undT T []) u ++ (detT T [] ++ fr)
    have hfr : ∀ t, ((∀ (j : Nat) (q : Oper × Ent), T[j]? = some q → q.1.dst ≠ some t) → F.get t = fr.get t) ∧ (∀ (j : Nat) (q : Oper × Ent), T[j]? = some q → q.1.dst = some t → F.get t = some (q.2.val u t)) := by
      intro t
      have h0 := frameOf T.length u t
      rw [hTT] at h0
      exact ⟨fun h => h0.1 (fun j q _ hj => h j q hj), fun j q hj hd => h0.2 j q (List.getElem?_eq_some_iff.1 hj).1 hj hd⟩
    have hDj : ∀ (j : Nat) (q : Oper × Ent), T[j]? = some q → ¬ fl.getD j false = true → D j := fun j q hj hf => by
      obtain ⟨a1, b1⟩ := hTl j q hj
      exact hall j (by omega) (List.getElem?_eq_some_iff.1 b1).1 (by simpa using hf)
    have hF : ∀ t v, F.get t = some v → t < N := by
      intro t v hv
      by_cases hex : ∃ (j : Nat) (q : Oper × Ent), T[j]? = some q ∧ q.1.dst = some t
      · obtain ⟨j, q, h2, h3⟩ := hex
        obtain ⟨a1, b1⟩ := hTl j q h2
        exact (drawB_slots hS a1 b1 h3).1
      · rw [(hfr t).1 (fun j q h2 h3 => hex ⟨j, q, h2, h3⟩)] at hv
        have := ha.here t v hv
        have := (Array.getElem?_eq_some_iff.1 this).1
        have hs0 := ha.size
        omega
    have hund : undAll (undT T []) u G' := undAll_of fun p hp => by
      rcases und_mem T [] p hp with h | ⟨j, o', h1, h2⟩
      · cases h
      · refine ((hslot j _ p.1 h1 h2).1 (hDj j _ h1 (fun hf => ?_))).2 p.2 rfl
        obtain ⟨c, hc, _⟩ := t5 j o' _ h1 hf
        cases hc
    refine ⟨u, fill F a, ?_, rfl, hsz, by simp [fill, hsz], fun t ht => ?_, fun j o c t hj hf hnD hdt => ?_, fun j q hj hf hnD t ht v hv => ?_⟩
    · have := t4 u G' hle hund (fill F a) w (fill_rel hd hsz hF) hst
      rw [hn]
      exact this
    · rw [fill_at]
      cases hx : a.tmps[t]? with
      | none => rfl
      | some x =>
        simp only [Option.map_some, Option.some.injEq]
        cases hf : F.get t with
        | none => rfl
        | some v =>
          simp only [Option.getD_some]
          have key : a.tmps[t]? = some v := by
            by_cases hex : ∃ (j : Nat) (q : Oper × Ent), T[j]? = some q ∧ q.1.dst = some t
            · obtain ⟨j, q, h2, h3⟩ := hex
              have hv := (hfr t).2 j q h2 h3
              rw [hf] at hv
              simp only [Option.some.injEq] at hv
              rw [hv]
              have hD : D j := by
                apply Classical.byContradiction
                intro hnD
                by_cases hfj : fl.getD j false = true
                · exact ht j q h2 hfj hnD h3
                · exact hnD (hDj j q h2 hfj)
              exact ((hslot j q t h2 h3).1 hD).1
            · have hb := (hfr t).1 (fun j q h2 h3 => hex ⟨j, q, h2, h3⟩)
              exact hbase t (fun j q h2 h3 => hex ⟨j, q, h2, h3⟩) v (by rw [← hb]; exact hf)
          rw [hx] at key
          simpa using key
    · rw [fill_at]
      have htN := (drawB_slots hS (hTl j _ hj).1 (hTl j _ hj).2 hdt).1
      rw [Array.getElem?_eq_getElem (show t < a.tmps.size by rw [hsz]; exact htN)]
      have hv := (hfr t).2 j _ hj hdt
      simp only [Option.map_some, hv, Option.getD_some]
      rfl
    · rw [fill_at]
      have hFt : F.get t = some v := by
        by_cases hex : ∃ (i : Nat) (q' : Oper × Ent), i < j ∧ T[i]? = some q' ∧ q'.1.dst = some t
        · obtain ⟨i, q', h1, h2, h3⟩ := hex
          rw [(frameOf j u t).2 i q' h1 h2 h3] at hv
          rw [(hfr t).2 i q' h2 h3]
          exact hv
        · rw [(frameOf j u t).1 (fun i q' h1 h2 h3 => hex ⟨i, q', h1, h2, h3⟩)] at hv
          rw [(hfr t).1 (fun i q' h2 h3 => ?_)]
          · exact hv
          · obtain ⟨a1, b1⟩ := hTl i q' h2
            obtain ⟨a2, b2⟩ := hTl j q hj
            have hij : j ≤ i := by
              rcases Nat.lt_or_ge i j with h | h
              · exact absurd ⟨i, q', h, h2, h3⟩ hex
              · exact h
            by_cases hfi : fl.getD i false = true
            · exact (floatB_spec hFl (by omega) hfi b1 b2).2 hij hf t h3 ht
            · rcases Nat.lt_or_ge j i with h | h
              · have hDi := hDj i q' h2 hfi
                have hanc := (((drawB_slots hS a1 b1 h3).2 j q.1 a2 b2 (by omega)).2 ht).2 h
                exact hnD (closed_anc hcl i q'.1 b1 (fun e he hb => hcl i q'.1 (by simpa using b1) hDi e he hb) j hanc)
              · have : i = j := by omega
                subst this
                exact hfi hf
      have htN : t < a.tmps.size := by rw [hsz]; exact hF t v hFt
      rw [Array.getElem?_eq_getElem htN]
      simp [hFt]
  · -- the tail
    intro D a w m o hcl hm' ho hmD hr hI
    obtain ⟨u, af, hwp, hdf, hsz, hszf, heq, hmiss, hlook⟩ := hI
    rw [hn] at hm'
    have hml : m < l.length := (List.getElem?_eq_some_iff.1 ho).1
    have hom : l[m] = o := by rw [List.getElem?_eq_getElem hml] at ho; simpa using ho
    have hanc := closed_anc hcl m o ho hr
    have hag : ∀ t, t ∈ o.looksAt l.toArray → af.tmps[t]? = a.tmps[t]? := fun t ht => (heq t (fun j q hj hf hnD hdt => by
      obtain ⟨a1, b1⟩ := hTl j q hj
      exact hnD (hanc j (((floatB_spec hFl (by omega) hf b1 ho).1 (by omega)).2 t hdt ht)))).symm
    have hex : execOp af.eval o = execOp a.eval o := looks_eval (fun cs b => hnoSel m o cs b (by simpa using ho)) hag
    have hwt : Region.wanted o (yielded l.toArray af.tmps) = Region.wanted o (yielded l.toArray a.tmps) := looks_wanted hag
    rw [List.drop_eq_getElem_cons hml, hom] at hwp
    unfold wpList at hwp
    -- behind the operation
    have behind : ∀ v w' ds, wpList P l.toArray (NX Q) (l.drop (m + 1)) (({ af with defers := ds } : Act).put o.dst v) w' → Inv2 (fun j => D j ∨ j = m) (m + 1) (({ a with defers := ds } : Act).put o.dst v) w' := by
      intro v w' ds hw'
      have hput : ∀ (x : Act) t, o.dst ≠ some t → (x.put o.dst v).tmps[t]? = x.tmps[t]? := fun x t hne => by
        cases ho' : o.dst with
        | none => rfl
        | some s =>
          simp only [Act.put]
          rw [Array.getElem?_setIfInBounds_ne (fun e => hne (by rw [ho', e]))]
      refine ⟨u, _, hw', by cases o.dst <;> rfl, by cases o.dst <;> simpa [Act.put] using hsz, by cases o.dst <;> simpa [Act.put] using hszf, fun t ht => ?_, fun j o' c t hj hf hnD hdt => ?_, fun j q hj hf hnD t ht v' hv' => ?_⟩
      · by_cases hdt : o.dst = some t
        · rw [hdt]
          simp only [Act.put, Array.getElem?_setIfInBounds, hsz, hszf, if_true]
        · rw [hput _ t hdt, hput _ t hdt]
          exact heq t (fun j q hj hf hnD hd => by
            have := (hTl j q hj).1
            exact ht j q hj hf (fun h => h.elim hnD (fun e => by omega)) hd)
      · obtain ⟨a1, b1⟩ := hTl j _ hj
        have hne : o.dst ≠ some t := fun e => (((floatB_spec hFl (by omega) hf b1 ho).1 (by omega)).1 t (fun hj' => hnD (.inl (hanc j hj'))) e).2 hdt
        rw [hput _ t hne]
        exact hmiss j o' c t hj hf (fun h => hnD (.inl h)) hdt
      · obtain ⟨a1, b1⟩ := hTl j _ hj
        have hne : o.dst ≠ some t := fun e => (((floatB_spec hFl (by omega) hf b1 ho).1 (by omega)).1 t (fun hj' => hnD (.inl (hanc j hj'))) e).1 ht
        rw [hput _ t hne]
        exact hlook j q hj hf (fun h => hnD (.inl h)) t ht v' hv'
    have haf : ({ af with defers := a.defers } : Act) = af := by rw [hdf]
    have plain : ∀ v w', wpList P l.toArray (NX Q) (l.drop (m + 1)) (af.put o.dst v) w' → Inv2 (fun j => D j ∨ j = m) (m + 1) (a.put o.dst v) w' := fun v w' h => behind v w' a.defers (by rw [haf]; exact h)
    unfold wpOp
    have hoa : l.toArray[m]? = some o := by simpa using ho
    simp only [hoa]
    by_cases hw' : Region.wanted o (yielded l.toArray a.tmps) = true
    · rw [if_pos hw']
      rw [if_pos (by rw [hwt]; exact hw')] at hwp
      refine .inl ?_
      rcases hwp with hwp | ⟨_, a₀, w₀, hq⟩
      · unfold Oper.wp at hwp ⊢
        rw [hex] at hwp
        generalize (execOp a.eval o).run P w = r at hwp ⊢
        cases r with
        | ok x w' =>
          cases x <;> simp only [Oper.upon] at hwp ⊢
          case value v => exact plain v w' hwp
          case skip => exact plain undef w' hwp
          case defer d => exact behind undef w' (d :: a.defers) (by rw [hdf]; exact hwp)
          case enter f args =>
            refine Calls.mono hwp fun e w'' he => ?_
            cases e with
            | returned v => exact plain v w'' he
            | panicked c => exact he.elim
            | outgrown => obtain ⟨_, _, h⟩ := he; exact h.elim
          case row row args => exact Rows.mono hwp fun v w'' he => plain v w'' he
        | halt x w' => cases x <;> simp only [Oper.upon] at hwp ⊢; exact hwp.elim
      · exact hq.elim
    · rw [if_neg hw']
      rw [if_neg (by rw [hwt]; exact hw')] at hwp
      exact plain undef w hwp
  · -- one that floats
    intro D a w m i o hcl hi hm' hf ho hni hr hI
    obtain ⟨u, af, hwp, hdf, hsz, hszf, heq, hmiss, hlook⟩ := hI
    rw [hn] at hi hm'
    obtain ⟨e, hTi⟩ := hlT i o hi ho
    obtain ⟨c, rfl, hY⟩ := t5 i o e hTi hf
    have hanc := closed_anc hcl i o ho hr
    let F : Fr := undFr (undT (T.take i) []) u ++ (detT (T.take i) [] ++ fr)
    have hF : ∀ t v, F.get t = some v → t < N := by
      intro t v hv
      by_cases hex : ∃ (j : Nat) (q : Oper × Ent), j < i ∧ T[j]? = some q ∧ q.1.dst = some t
      · obtain ⟨j, q, h1, h2, h3⟩ := hex
        obtain ⟨a1, b1⟩ := hTl j q h2
        exact (drawB_slots hS a1 b1 h3).1
      · have := (frameOf i u t).1 (fun j q h1 h2 h3 => hex ⟨j, q, h1, h2, h3⟩)
        have hv' : fr.get t = some v := by rw [← this]; exact hv
        have := ha.here t v hv'
        have := (Array.getElem?_eq_some_iff.1 this).1
        have hs0 := ha.size
        omega
    have hag : ∀ t, t ∈ o.looksAt l.toArray → af.tmps[t]? = a.tmps[t]? := fun t ht => (heq t (fun j q hj hfj hnD hdt => by
      obtain ⟨a1, b1⟩ := hTl j q hj
      rcases Nat.lt_trichotomy j i with h | h | h
      · exact hnD (hanc j ((((drawB_slots hS a1 b1 hdt).2 i o hi ho (by omega)).2 ht).1 h))
      · subst h
        rw [hTi] at hj
        cases hj
        exact (floatB_spec hFl (by omega) hf ho ho).2 (Nat.le_refl _) hf t hdt ht
      · exact (floatB_spec hFl (by omega) hfj b1 ho).2 (by omega) hf t hdt ht)).symm
    have hfill : ∀ t, t ∈ o.looksAt l.toArray → (fill F a).tmps[t]? = a.tmps[t]? := by
      intro t ht
      rw [fill_at]
      cases hx : a.tmps[t]? with
      | none => rfl
      | some x =>
        simp only [Option.map_some, Option.some.injEq]
        cases hfg : F.get t with
        | none => rfl
        | some v =>
          have h1 := hlook i (o, .inl c) hTi hf hni t ht v hfg
          rw [hag t ht, hx] at h1
          simpa using h1.symm
    have hrel : Rel N F (fill F { a with defers := [] }) := fill_rel rfl hsz hF
    have hex : execOp (fill F { a with defers := [] }).eval o = execOp a.eval o := looks_eval (ops := l.toArray) (fun cs b => hnoSel i o cs b (by simpa using ho)) hfill
    have hwt : Region.wanted o (yielded l.toArray (fill F { a with defers := [] }).tmps) = Region.wanted o (yielded l.toArray a.tmps) := looks_wanted (a := fill F { a with defers := [] }) hfill
    unfold wpOp
    have hoa : l.toArray[i]? = some o := by simpa using ho
    simp only [hoa]
    rw [if_pos (by rw [← hwt, hrel.wanted (hY u).1])]
    refine .inl ?_
    have hrun := (hY u).2 (fill F { a with defers := [] }) w hrel trivial
    rw [hex] at hrun
    simp only [Oper.wp, hrun, Oper.upon]
    refine ⟨u, af, hwp, by cases o.dst <;> exact hdf, by cases o.dst <;> simpa [Act.put] using hsz, hszf, fun t ht => ?_, fun j o' c' t hj hfj hnD hdt => ?_, fun j q hj hfj hnD t ht v' hv' => ?_⟩
    · by_cases hdt : o.dst = some t
      · have htN := (drawB_slots hS hi ho hdt).1
        rw [hdt]
        simp only [Act.put]
        rw [Array.getElem?_setIfInBounds_self_of_lt (by omega)]
        exact (hmiss i o c t hTi hf hni hdt).symm
      · have hput : (a.put o.dst c).tmps[t]? = a.tmps[t]? := by
          cases ho' : o.dst with
          | none => rfl
          | some s =>
            simp only [Act.put]
            rw [Array.getElem?_setIfInBounds_ne (fun e => hdt (by rw [ho', e]))]
        rw [hput]
        refine heq t (fun j q hj hfj hnD hd => ?_)
        by_cases hji : j = i
        · subst hji
          rw [hTi] at hj
          cases hj
          exact hdt hd
        · exact ht j q hj hfj (fun h => h.elim hnD hji) hd
    · exact hmiss j o' c' t hj hfj (fun h => hnD (.inl h)) hdt
    · exact hlook j q hj hfj (fun h => hnD (.inl h)) t ht v' hv'
  · -- the end
    intro D a w m hall hml hI
    obtain ⟨u, af, hwp, hdf, hsz, hszf, heq, _, _⟩ := hI
    rw [List.drop_eq_nil_of_le hml] at hwp
    have hta : a.tmps = af.tmps := by
      apply Array.ext_getElem?
      intro t
      exact heq t (fun j q hj _ hnD => absurd (hall j (List.getElem?_eq_some_iff.1 (hTl j q hj).2).1) hnD)
    have : a = af := by cases a; cases af; simp_all
    rw [this]
    exact hwp
end
end Go.EL
/- Rules for single operations: values. No condition. -/
namespace Go.EL
open Go Go.RowKit

/-- Neither a struct nor an array. -/
def scal : TypeDesc → Bool
  | .struct _ | .array _ _ => false
  | _ => true
def ScalT (P : Program) (t : TypeId) : Prop := (P.underlying t).map scal = some true
def AggT (P : Program) (t : TypeId) (n : Nat) : Prop := (P.underlying t).map scal = some false ∧ (P.info? t).map (·.size) = some n
theorem ScalT.run {P : Program} {t : TypeId} (h : ScalT P t) (w : World) : (isAgg t).run P w = .ok false w := by
  unfold ScalT at h
  cases hu : P.underlying t with
  | none => rw [hu] at h; cases h
  | some d => rw [hu] at h; cases d <;> simp_all [isAgg, run_underlying hu, scal]
theorem AggT.run {P : Program} {t : TypeId} {n : Nat} (h : AggT P t n) (w : World) : (isAgg t).run P w = .ok true w := by
  have h := h.1
  cases hu : P.underlying t with
  | none => rw [hu] at h; cases h
  | some d => rw [hu] at h; cases d <;> simp_all [isAgg, run_underlying hu, scal]
theorem run_sizeOf {P : Program} {t : TypeId} {n : Nat} (h : (P.info? t).map (·.size) = some n) (w : World) : (sizeOf t).run P w = .ok n w := by
  cases hq : P.info? t with
  | none => simp [hq] at h
  | some i => simp [hq] at h; simp [sizeOf, typeInfo, hq, h]

theorem run_bind_ok {α β : Type} {P : Program} {m : Sem α} {f : α → Sem β} {w w' : World} {x : α} (h : m.run P w = .ok x w') : (m >>= f).run P w = (f x).run P w' := by
  simp [h]

section
variable {P : Program} {N : Nat} {fr : Fr} {S : Asrt} {dst : Option Nat} {ty : TypeId} {pos : String} {af : Array Edge} {g : Option (Nat × Bool)}

theorem Y0.move {x : Operand} {v : Value} (hx : fr.ev x = some v) : Y0 P N ⟨dst, .move x, ty, pos, af, g⟩ fr S v := fun a w ha _ => by simp [execOp, ha.ev hx]
theorem Y0.assign {x : Operand} {v : Value} (hx : fr.ev x = some v) : Y0 P N ⟨dst, .assign x, ty, pos, af, g⟩ fr S v := fun a w ha _ => by simp [execOp, ha.ev hx]
theorem Y0.pickT {c x y : Operand} {v : Value} (hc : fr.ev c = some (.bool true)) (hx : fr.ev x = some v) : Y0 P N ⟨dst, .pick c x y, ty, pos, af, g⟩ fr S v := fun a w ha _ => by
  simp [execOp, ha.ev hc, ha.ev hx, asBool]
theorem Y0.pickF {c x y : Operand} {v : Value} (hc : fr.ev c = some (.bool false)) (hy : fr.ev y = some v) : Y0 P N ⟨dst, .pick c x y, ty, pos, af, g⟩ fr S v := fun a w ha _ => by
  simp [execOp, ha.ev hc, ha.ev hy, asBool]

theorem Y0.bin {op : BinOp} {t yt : TypeId} {x y : Operand} {vx vy v : Value} (hx : fr.ev x = some vx) (hy : fr.ev y = some vy) (hg : ∀ w, (eqGuard op t x y vx vy).run P w = .ok () w) (h : ∀ w, (binOp op t vx vy).run P w = .ok v w) :
    Y0 P N ⟨dst, .binOp op t x y yt, ty, pos, af, g⟩ fr S v := fun a w ha _ => by
  simp [execOp, ha.ev hx, ha.ev hy, hg w, h w]
theorem guard_int (op : BinOp) (t : TypeId) (x y : Operand) (k k' : IntKind) (a b : Int) (w : World) : (eqGuard op t x y (.int k a) (.int k' b)).run P w = .ok () w := by
  cases op <;> simp [eqGuard]
theorem guard_bool (op : BinOp) (t : TypeId) (x y : Operand) (a b : Bool) (w : World) : (eqGuard op t x y (.bool a) (.bool b)).run P w = .ok () w := by
  cases op <;> simp [eqGuard]
theorem guard_string (op : BinOp) (t : TypeId) (x y : Operand) (a b : ByteArray) (w : World) : (eqGuard op t x y (.string a) (.string b)).run P w = .ok () w := by
  cases op <;> simp [eqGuard]

section
variable {t yt : TypeId} {x y : Operand} {k : IntKind} {a b : Int}
theorem Y0.add (hx : fr.ev x = some (.int k a)) (hy : fr.ev y = some (.int k b)) : Y0 P N ⟨dst, .binOp .add t x y yt, ty, pos, af, g⟩ fr S (.int k (k.wrap (a + b))) :=
  Y0.bin hx hy (guard_int _ _ _ _ _ _ _ _) fun w => by simp [binOp, Op.intArith]
theorem Y0.sub (hx : fr.ev x = some (.int k a)) (hy : fr.ev y = some (.int k b)) : Y0 P N ⟨dst, .binOp .sub t x y yt, ty, pos, af, g⟩ fr S (.int k (k.wrap (a - b))) :=
  Y0.bin hx hy (guard_int _ _ _ _ _ _ _ _) fun w => by simp [binOp, Op.intArith]
theorem Y0.mul (hx : fr.ev x = some (.int k a)) (hy : fr.ev y = some (.int k b)) : Y0 P N ⟨dst, .binOp .mul t x y yt, ty, pos, af, g⟩ fr S (.int k (k.wrap (a * b))) :=
  Y0.bin hx hy (guard_int _ _ _ _ _ _ _ _) fun w => by simp [binOp, Op.intArith]
theorem Y0.lss (hx : fr.ev x = some (.int k a)) (hy : fr.ev y = some (.int k b)) : Y0 P N ⟨dst, .binOp .lss t x y yt, ty, pos, af, g⟩ fr S (.bool (decide (a < b))) :=
  Y0.bin hx hy (guard_int _ _ _ _ _ _ _ _) fun w => by simp [binOp, Op.intCmp]
theorem Y0.leq (hx : fr.ev x = some (.int k a)) (hy : fr.ev y = some (.int k b)) : Y0 P N ⟨dst, .binOp .leq t x y yt, ty, pos, af, g⟩ fr S (.bool (decide (a ≤ b))) :=
  Y0.bin hx hy (guard_int _ _ _ _ _ _ _ _) fun w => by simp [binOp, Op.intCmp]
theorem Y0.gtr (hx : fr.ev x = some (.int k a)) (hy : fr.ev y = some (.int k b)) : Y0 P N ⟨dst, .binOp .gtr t x y yt, ty, pos, af, g⟩ fr S (.bool (decide (b < a))) :=
  Y0.bin hx hy (guard_int _ _ _ _ _ _ _ _) fun w => by simp [binOp, Op.intCmp]
theorem Y0.geq (hx : fr.ev x = some (.int k a)) (hy : fr.ev y = some (.int k b)) : Y0 P N ⟨dst, .binOp .geq t x y yt, ty, pos, af, g⟩ fr S (.bool (decide (b ≤ a))) :=
  Y0.bin hx hy (guard_int _ _ _ _ _ _ _ _) fun w => by simp [binOp, Op.intCmp]
theorem int_beq (a b : Int) : (a == b) = decide (a = b) := by by_cases h : a = b <;> simp [h]
theorem Y0.eql (hx : fr.ev x = some (.int k a)) (hy : fr.ev y = some (.int k b)) : Y0 P N ⟨dst, .binOp .eql t x y yt, ty, pos, af, g⟩ fr S (.bool (decide (a = b))) :=
  Y0.bin hx hy (guard_int _ _ _ _ _ _ _ _) fun w => by rw [← int_beq]; simp [binOp, Op.intCmp]
theorem Y0.neq (hx : fr.ev x = some (.int k a)) (hy : fr.ev y = some (.int k b)) : Y0 P N ⟨dst, .binOp .neq t x y yt, ty, pos, af, g⟩ fr S (.bool (decide (¬ a = b))) :=
  Y0.bin hx hy (guard_int _ _ _ _ _ _ _ _) fun w => by
    have : (a != b) = decide (¬ a = b) := by by_cases h : a = b <;> simp [h]
    rw [← this]; simp [binOp, Op.intCmp]
theorem Y0.quo (hx : fr.ev x = some (.int k a)) (hy : fr.ev y = some (.int k b)) (hb : b ≠ 0) : Y0 P N ⟨dst, .binOp .quo t x y yt, ty, pos, af, g⟩ fr S (.int k (k.wrap (a.tdiv b))) :=
  Y0.bin hx hy (guard_int _ _ _ _ _ _ _ _) fun w => by simp [binOp, Op.intDiv, hb]
theorem Y0.rem (hx : fr.ev x = some (.int k a)) (hy : fr.ev y = some (.int k b)) (hb : b ≠ 0) : Y0 P N ⟨dst, .binOp .rem t x y yt, ty, pos, af, g⟩ fr S (.int k (a.tmod b)) :=
  Y0.bin hx hy (guard_int _ _ _ _ _ _ _ _) fun w => by simp [binOp, Op.intDiv, hb]
theorem Y0.shl {k' : IntKind} (hx : fr.ev x = some (.int k a)) (hy : fr.ev y = some (.int k' b)) (hb : 0 ≤ b) : Y0 P N ⟨dst, .binOp .shl t x y yt, ty, pos, af, g⟩ fr S (.int k (k.wrap (a * 2 ^ (min b.toNat k.bits)))) :=
  Y0.bin hx hy (guard_int _ _ _ _ _ _ _ _) fun w => by
    have : ¬ b < 0 := by omega
    simp [binOp, Op.shift, this]
theorem Y0.shr {k' : IntKind} (hx : fr.ev x = some (.int k a)) (hy : fr.ev y = some (.int k' b)) (hb : 0 ≤ b) : Y0 P N ⟨dst, .binOp .shr t x y yt, ty, pos, af, g⟩ fr S (.int k (a.fdiv (2 ^ (min b.toNat k.bits)))) :=
  Y0.bin hx hy (guard_int _ _ _ _ _ _ _ _) fun w => by
    have : ¬ b < 0 := by omega
    simp [binOp, Op.shift, this]
theorem Y0.or (hx : fr.ev x = some (.int k a)) (hy : fr.ev y = some (.int k b)) : Y0 P N ⟨dst, .binOp .or t x y yt, ty, pos, af, g⟩ fr S (.int k (k.wrap (BitVec.ofInt k.bits a ||| BitVec.ofInt k.bits b).toNat)) :=
  Y0.bin hx hy (guard_int _ _ _ _ _ _ _ _) fun w => by simp [binOp, Op.intBits]
theorem Y0.and (hx : fr.ev x = some (.int k a)) (hy : fr.ev y = some (.int k b)) : Y0 P N ⟨dst, .binOp .and t x y yt, ty, pos, af, g⟩ fr S (.int k (k.wrap (BitVec.ofInt k.bits a &&& BitVec.ofInt k.bits b).toNat)) :=
  Y0.bin hx hy (guard_int _ _ _ _ _ _ _ _) fun w => by simp [binOp, Op.intBits]
theorem Y0.andNot (hx : fr.ev x = some (.int k a)) (hy : fr.ev y = some (.int k b)) : Y0 P N ⟨dst, .binOp .andNot t x y yt, ty, pos, af, g⟩ fr S (.int k (k.wrap (BitVec.ofInt k.bits a &&& ~~~ BitVec.ofInt k.bits b).toNat)) :=
  Y0.bin hx hy (guard_int _ _ _ _ _ _ _ _) fun w => by simp [binOp, Op.intBits]
theorem Y0.xor (hx : fr.ev x = some (.int k a)) (hy : fr.ev y = some (.int k b)) : Y0 P N ⟨dst, .binOp .xor t x y yt, ty, pos, af, g⟩ fr S (.int k (k.wrap (BitVec.ofInt k.bits a ^^^ BitVec.ofInt k.bits b).toNat)) :=
  Y0.bin hx hy (guard_int _ _ _ _ _ _ _ _) fun w => by simp [binOp, Op.intBits]
/-- The same on int, where the result fits. -/
theorem Y0.addI (hx : fr.ev x = some (.int .i64 a)) (hy : fr.ev y = some (.int .i64 b)) (hb : -9223372036854775808 ≤ a + b ∧ a + b ≤ 9223372036854775807) : Y0 P N ⟨dst, .binOp .add t x y yt, ty, pos, af, g⟩ fr S (.int .i64 (a + b)) := by
  have := Y0.add (P := P) (N := N) (S := S) (dst := dst) (ty := ty) (pos := pos) (af := af) (g := g) (t := t) (yt := yt) hx hy
  rwa [IntWalk.i64_in _ hb] at this
theorem Y0.subI (hx : fr.ev x = some (.int .i64 a)) (hy : fr.ev y = some (.int .i64 b)) (hb : -9223372036854775808 ≤ a - b ∧ a - b ≤ 9223372036854775807) : Y0 P N ⟨dst, .binOp .sub t x y yt, ty, pos, af, g⟩ fr S (.int .i64 (a - b)) := by
  have := Y0.sub (P := P) (N := N) (S := S) (dst := dst) (ty := ty) (pos := pos) (af := af) (g := g) (t := t) (yt := yt) hx hy
  rwa [IntWalk.i64_in _ hb] at this
theorem Y0.mulI (hx : fr.ev x = some (.int .i64 a)) (hy : fr.ev y = some (.int .i64 b)) (hb : -9223372036854775808 ≤ a * b ∧ a * b ≤ 9223372036854775807) : Y0 P N ⟨dst, .binOp .mul t x y yt, ty, pos, af, g⟩ fr S (.int .i64 (a * b)) := by
  have := Y0.mul (P := P) (N := N) (S := S) (dst := dst) (ty := ty) (pos := pos) (af := af) (g := g) (t := t) (yt := yt) hx hy
  rwa [IntWalk.i64_in _ hb] at this
/-- A value in another spelling. -/
theorem Y0.eq {o : Oper} {v v' : Value} (h : Y0 P N o fr S v) (e : v = v') : Y0 P N o fr S v' := e ▸ h
end

theorem run_equal_bool {t : TypeId} (ht : P.underlying t = some .bool) (a b : Bool) (w : World) : (Op.equal t (.bool a) (.bool b)).run P w = .ok (a == b) w := by
  have h : ∀ d, (Op.equalIn (d + 1) t (.bool a) (.bool b)).run P w = .ok (a == b) w := fun d => by simp [Op.equalIn, run_underlying ht]
  exact h 9999
theorem Y0.eqlB {t yt : TypeId} {x y : Operand} {a b : Bool} (ht : P.underlying t = some .bool) (hx : fr.ev x = some (.bool a)) (hy : fr.ev y = some (.bool b)) : Y0 P N ⟨dst, .binOp .eql t x y yt, ty, pos, af, g⟩ fr S (.bool (decide (a = b))) :=
  Y0.bin hx hy (guard_bool _ _ _ _ _ _) fun w => by simp [binOp, run_equal_bool ht]; cases a <;> cases b <;> rfl
theorem Y0.neqB {t yt : TypeId} {x y : Operand} {a b : Bool} (ht : P.underlying t = some .bool) (hx : fr.ev x = some (.bool a)) (hy : fr.ev y = some (.bool b)) : Y0 P N ⟨dst, .binOp .neq t x y yt, ty, pos, af, g⟩ fr S (.bool (decide (¬ a = b))) :=
  Y0.bin hx hy (guard_bool _ _ _ _ _ _) fun w => by simp [binOp, run_equal_bool ht]; cases a <;> cases b <;> rfl
theorem Y0.not {t : TypeId} {x : Operand} {b : Bool} (hx : fr.ev x = some (.bool b)) : Y0 P N ⟨dst, .unOp .not t x, ty, pos, af, g⟩ fr S (.bool (!b)) := fun a w ha _ => by simp [execOp, ha.ev hx, Op.unary]
theorem Y0.neg {t : TypeId} {x : Operand} {k : IntKind} {n : Int} (hx : fr.ev x = some (.int k n)) : Y0 P N ⟨dst, .unOp .neg t x, ty, pos, af, g⟩ fr S (.int k (k.wrap (0 - n))) := fun a w ha _ => by simp [execOp, ha.ev hx, Op.unary, Op.intArith]
theorem Y0.conv {s d : TypeId} {x : Operand} {ds : TypeDesc} {k k' : IntKind} {n : Int} (hs : P.underlying s = some ds) (hd : P.underlying d = some (.int k')) (hx : fr.ev x = some (.int k n)) : Y0 P N ⟨dst, .convert s d x, ty, pos, af, g⟩ fr S (.int k' (k'.wrap n)) := fun a w ha _ => by
  simp [execOp, ha.ev hx, convert, run_underlying hs, run_underlying hd, Conv.intToInt]
theorem Y0.extract {x : Operand} {i : Nat} {vs : Array Value} {v : Value} (hx : fr.ev x = some (.tuple vs)) (hv : vs[i]? = some v) : Y0 P N ⟨dst, .extract x i, ty, pos, af, g⟩ fr S v := fun a w ha _ => by
  simp [execOp, ha.ev hx, Instr.extract, hv]
theorem run_part_scal {t : TypeId} {cs : Array Value} {off : Nat} {v : Value} (ht : ScalT P t) (hv : cs[off]? = some v) (w : World) : (part t cs off).run P w = .ok v w := by
  simp [part, ht.run, hv]
theorem run_part_agg {t : TypeId} {cs : Array Value} {off n : Nat} (ht : AggT P t n) (w : World) : (part t cs off).run P w = .ok (.agg (cs.extract off (off + n))) w := by
  simp [part, ht.run, run_sizeOf ht.2]
/-- An element of an array that is a value. -/
theorem Y0.index {t e : TypeId} {x y : Operand} {len : Nat} {cs : Array Value} {k : IntKind} {i : Int} {v : Value} (ht : P.underlying t = some (.array len e)) (he : ScalT P e) (hsz : (P.info? e).map (·.size) = some 1)
    (hx : fr.ev x = some (.agg cs)) (hy : fr.ev y = some (.int k i)) (hi : 0 ≤ i ∧ i < len) (hv : cs[i.toNat]? = some v) : Y0 P N ⟨dst, .index t x y, ty, pos, af, g⟩ fr S v := fun a w ha _ => by
  have hv' : cs[i.toNat * 1]? = some v := by simpa using hv
  simp [execOp, ha.ev hx, ha.ev hy, Instr.index, asIntOf, run_underlying ht, hi, run_sizeOf hsz, run_part_scal he hv]
theorem Y0.field {s : TypeId} {x : Operand} {f : Nat} {fs : Array Field} {fd : Field} {cs : Array Value} {v : Value} (hs : P.underlying s = some (.struct fs)) (hf : fs[f]? = some fd) (he : ScalT P fd.type)
    (hx : fr.ev x = some (.agg cs)) (hv : cs[fd.offset]? = some v) : Y0 P N ⟨dst, .field s x f, ty, pos, af, g⟩ fr S v := fun a w ha _ => by
  simp [execOp, ha.ev hx, Instr.field, run_underlying hs, hf, asAgg, run_part_scal he hv]

theorem add_none (b off n : Nat) : (⟨b, off, none⟩ : Addr).add n = ⟨b, off + n, none⟩ := by
  unfold Addr.add
  split
  · rename_i h; subst h; rfl
  · rfl
/-- The address of an element of an array. -/
theorem Y0.idxArr {t e : TypeId} {x y : Operand} {len b off sz : Nat} {k : IntKind} {i : Int} (ht : P.underlying t = some (.array len e)) (hsz : (P.info? e).map (·.size) = some sz)
    (hx : fr.ev x = some (.pointer (some ⟨b, off, none⟩))) (hy : fr.ev y = some (.int k i)) (hi : 0 ≤ i ∧ i < len) : Y0 P N ⟨dst, .indexAddr t x y, ty, pos, af, g⟩ fr S (.pointer (some ⟨b, off + i.toNat * sz, none⟩)) := fun a w ha _ => by
  simp [execOp, ha.ev hx, ha.ev hy, Instr.indexAt, asIntOf, run_underlying ht, hi, run_sizeOf hsz, Instr.sureAddr, add_none]
/-- The address of an element of a slice. -/
theorem Y0.idxSl {t e : TypeId} {x y : Operand} {len cap b off sz : Nat} {k : IntKind} {i : Int} (ht : P.underlying t = some (.slice e)) (hsz : (P.info? e).map (·.size) = some sz)
    (hx : fr.ev x = some (.slice (some ⟨b, off, none⟩) len cap)) (hy : fr.ev y = some (.int k i)) (hi : 0 ≤ i ∧ i < len) : Y0 P N ⟨dst, .indexAddr t x y, ty, pos, af, g⟩ fr S (.pointer (some ⟨b, off + i.toNat * sz, none⟩)) := fun a w ha _ => by
  simp [execOp, ha.ev hx, ha.ev hy, Instr.indexAt, asIntOf, run_underlying ht, hi, run_sizeOf hsz, add_none]
theorem Y0.fieldAddr {s : TypeId} {x : Operand} {f b off : Nat} {fs : Array Field} {fd : Field} (hs : P.underlying s = some (.struct fs)) (hf : fs[f]? = some fd) (hp : ∀ w, (fieldPlace ⟨b, off, none⟩ fd).run P w = .ok ⟨b, off + fd.offset, none⟩ w)
    (hx : fr.ev x = some (.pointer (some ⟨b, off, none⟩))) : Y0 P N ⟨dst, .fieldAddr s x f, ty, pos, af, g⟩ fr S (.pointer (some ⟨b, off + fd.offset, none⟩)) := fun a w ha _ => by
  simp [execOp, ha.ev hx, Instr.fieldAt, run_underlying hs, hf, Instr.sureAddr, hp w]
theorem Y0.build {t : TypeId} {parts : Array (Nat × Operand)} {vs : Array (Nat × Value)} {v : Value} (hps : fr.evs (parts.toList.map (·.2)) = some (vs.toList.map (·.2))) (hix : parts.toList.map (·.1) = vs.toList.map (·.1))
    (h : ∀ w, (Instr.build t vs).run P w = .ok v w) : Y0 P N ⟨dst, .build t parts, ty, pos, af, g⟩ fr S v := fun a w ha _ => by
  have h1 := ha.evs _ _ hps
  have h2 : (parts.map fun p => (p.1, a.eval p.2)) = vs := by
    apply Array.ext'
    simp only [Array.toList_map]
    have hl : parts.toList.length = vs.toList.length := by have := congrArg List.length hix; simpa using this
    generalize parts.toList = ps at *
    generalize vs.toList = us at *
    induction ps generalizing us with
    | nil => cases us <;> simp_all
    | cons p ps ih =>
      cases us with
      | nil => simp at hl
      | cons q us =>
        simp only [List.map_cons, List.cons.injEq] at hix h1 ⊢
        refine ⟨Prod.ext hix.1 h1.1, ?_⟩
        simp only [Fr.evs, List.map_cons] at hps
        split at hps
        · rename_i v' us' e1 e2
          simp only [Option.some.injEq, List.cons.injEq] at hps
          exact ih us (by rw [e2, hps.2]) hix.2 h1.2 (by simpa using hl)
        · cases hps
  have h3 : (parts.map fun (i, x) => (i, a.eval x)) = vs := h2
  simp only [execOp, h3]
  simp [h w]
theorem Y0.makeFunc {fn : Fn} {first captured : Array Operand} {v1 v2 : List Value} (h1 : fr.evs first.toList = some v1) (h2 : fr.evs captured.toList = some v2) : Y0 P N ⟨dst, .makeFunc fn first captured, ty, pos, af, g⟩ fr S (.func fn v1.toArray v2.toArray) := fun a w ha _ => by
  have e1 : first.map a.eval = v1.toArray := by apply Array.ext'; simpa using ha.evs _ _ h1
  have e2 : captured.map a.eval = v2.toArray := by apply Array.ext'; simpa using ha.evs _ _ h2
  simp [execOp, e1, e2, Instr.makeFunc]
theorem Y0.lenSl {x : Operand} {t e : TypeId} {p : Option Addr} {n cap : Nat} (ht : P.underlying t = some (.slice e)) (hx : fr.ev x = some (.slice p n cap)) : Y0 P N ⟨dst, .call ⟨.builtin .len, #[x], #[t]⟩, ty, pos, af, g⟩ fr S (.int .i64 (n : Int)) := fun a w ha _ => by
  simp [execOp, resolve, invoke, builtin, ha.ev hx, Builtin.len_, run_underlying ht, goInt]
theorem Y0.max2 {x y : Operand} {ts : Array TypeId} {k k' : IntKind} {a b : Int} (hx : fr.ev x = some (.int k a)) (hy : fr.ev y = some (.int k' b)) : Y0 P N ⟨dst, .call ⟨.builtin .max, #[x, y], ts⟩, ty, pos, af, g⟩ fr S (.int k (if a < b then b else a)) := fun A w ha _ => by
  simp [execOp, resolve, invoke, builtin, ha.ev hx, ha.ev hy, Builtin.max_, Builtin.max2]
theorem Y0.min2 {x y : Operand} {ts : Array TypeId} {k k' : IntKind} {a b : Int} (hx : fr.ev x = some (.int k a)) (hy : fr.ev y = some (.int k' b)) : Y0 P N ⟨dst, .call ⟨.builtin .min, #[x, y], ts⟩, ty, pos, af, g⟩ fr S (.int k (if b < a then b else a)) := fun A w ha _ => by
  simp [execOp, resolve, invoke, builtin, ha.ev hx, ha.ev hy, Builtin.min_, Builtin.min2]
end
end Go.EL
