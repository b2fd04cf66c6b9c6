/- Rules for single operations: values. No condition. -/
import Derived.Test.YtbdknlblnfnkkaaEle
import Derived.WalkKit
import Derived.Shelf.Abstract
namespace Go.EL
open Go Go.RowKit

/-- Neither a struct nor an array. -/
def scal : TypeDesc → Bool
  | .struct _ | .array _ _ => false
  | _ => true
def ScalT (P : Program) (t : TypeId) : Prop := (P.underlying t).map scal = some true
def AggT (P : Program) (t : TypeId) (n : Nat) : Prop := (P.underlying t).map scal = some false ∧ (P.info? t).map (·.size) = some n
theorem ScalT.run {P : Program} {t : TypeId} (h : ScalT P t) (w : World) : (isAgg t).run P w = .ok false w := by
  unfold ScalT at h
  cases hu : P.underlying t with
  | none => rw [hu] at h; cases h
  | some d => rw [hu] at h; cases d <;> simp_all [isAgg, run_underlying hu, scal]
theorem AggT.run {P : Program} {t : TypeId} {n : Nat} (h : AggT P t n) (w : World) : (isAgg t).run P w = .ok true w := by
  have h := h.1
  cases hu : P.underlying t with
  | none => rw [hu] at h; cases h
  | some d => rw [hu] at h; cases d <;> simp_all [isAgg, run_underlying hu, scal]
theorem run_sizeOf {P : Program} {t : TypeId} {n : Nat} (h : (P.info? t).map (·.size) = some n) (w : World) : (sizeOf t).run P w = .ok n w := by
  cases hq : P.info? t with
  | none => simp [hq] at h
  | some i => simp [hq] at h; simp [sizeOf, typeInfo, hq, h]

theorem run_bind_ok {α β : Type} {P : Program} {m : Sem α} {f : α → Sem β} {w w' : World} {x : α} (h : m.run P w = .ok x w') : (m >>= f).run P w = (f x).run P w' := by
  simp [h]

section
variable {P : Program} {N : Nat} {fr : Fr} {S : Asrt} {dst : Option Nat} {ty : TypeId} {pos : String} {af : Array Edge} {g : Option (Nat × Bool)}

theorem Y0.move {x : Operand} {v : Value} (hx : fr.ev x = some v) : Y0 P N ⟨dst, .move x, ty, pos, af, g⟩ fr S v := fun a w ha _ => by simp [execOp, ha.ev hx]
theorem Y0.assign {x : Operand} {v : Value} (hx : fr.ev x = some v) : Y0 P N ⟨dst, .assign x, ty, pos, af, g⟩ fr S v := fun a w ha _ => by simp [execOp, ha.ev hx]
theorem Y0.pickT {c x y : Operand} {v : Value} (hc : fr.ev c = some (.bool true)) (hx : fr.ev x = some v) : Y0 P N ⟨dst, .pick c x y, ty, pos, af, g⟩ fr S v := fun a w ha _ => by
  simp [execOp, ha.ev hc, ha.ev hx, asBool]
theorem Y0.pickF {c x y : Operand} {v : Value} (hc : fr.ev c = some (.bool false)) (hy : fr.ev y = some v) : Y0 P N ⟨dst, .pick c x y, ty, pos, af, g⟩ fr S v := fun a w ha _ => by
  simp [execOp, ha.ev hc, ha.ev hy, asBool]

theorem Y0.bin {op : BinOp} {t yt : TypeId} {x y : Operand} {vx vy v : Value} (hx : fr.ev x = some vx) (hy : fr.ev y = some vy) (hg : ∀ w, (eqGuard op t x y vx vy).run P w = .ok () w) (h : ∀ w, (binOp op t vx vy).run P w = .ok v w) :
    Y0 P N ⟨dst, .binOp op t x y yt, ty, pos, af, g⟩ fr S v := fun a w ha _ => by
  simp [execOp, ha.ev hx, ha.ev hy, hg w, h w]
theorem guard_int (op : BinOp) (t : TypeId) (x y : Operand) (k k' : IntKind) (a b : Int) (w : World) : (eqGuard op t x y (.int k a) (.int k' b)).run P w = .ok () w := by
  cases op <;> simp [eqGuard]
theorem guard_bool (op : BinOp) (t : TypeId) (x y : Operand) (a b : Bool) (w : World) : (eqGuard op t x y (.bool a) (.bool b)).run P w = .ok () w := by
  cases op <;> simp [eqGuard]
theorem guard_string (op : BinOp) (t : TypeId) (x y : Operand) (a b : ByteArray) (w : World) : (eqGuard op t x y (.string a) (.string b)).run P w = .ok () w := by
  cases op <;> simp [eqGuard]

section
variable {t yt : TypeId} {x y : Operand} {k : IntKind} {a b : Int}
theorem Y0.add (hx : fr.ev x = some (.int k a)) (hy : fr.ev y = some (.int k b)) : Y0 P N ⟨dst, .binOp .add t x y yt, ty, pos, af, g⟩ fr S (.int k (k.wrap (a + b))) :=
  Y0.bin hx hy (guard_int _ _ _ _ _ _ _ _) fun w => by simp [binOp, Op.intArith]
theorem Y0.sub (hx : fr.ev x = some (.int k a)) (hy : fr.ev y = some (.int k b)) : Y0 P N ⟨dst, .binOp .sub t x y yt, ty, pos, af, g⟩ fr S (.int k (k.wrap (a - b))) :=
  Y0.bin hx hy (guard_int _ _ _ _ _ _ _ _) fun w => by simp [binOp, Op.intArith]
theorem Y0.mul (hx : fr.ev x = some (.int k a)) (hy : fr.ev y = some (.int k b)) : Y0 P N ⟨dst, .binOp .mul t x y yt, ty, pos, af, g⟩ fr S (.int k (k.wrap (a * b))) :=
  Y0.bin hx hy (guard_int _ _ _ _ _ _ _ _) fun w => by simp [binOp, Op.intArith]
theorem Y0.lss (hx : fr.ev x = some (.int k a)) (hy : fr.ev y = some (.int k b)) : Y0 P N ⟨dst, .binOp .lss t x y yt, ty, pos, af, g⟩ fr S (.bool (decide (a < b))) :=
  Y0.bin hx hy (guard_int _ _ _ _ _ _ _ _) fun w => by simp [binOp, Op.intCmp]
theorem Y0.leq (hx : fr.ev x = some (.int k a)) (hy : fr.ev y = some (.int k b)) : Y0 P N ⟨dst, .binOp .leq t x y yt, ty, pos, af, g⟩ fr S (.bool (decide (a ≤ b))) :=
  Y0.bin hx hy (guard_int _ _ _ _ _ _ _ _) fun w => by simp [binOp, Op.intCmp]
theorem Y0.gtr (hx : fr.ev x = some (.int k a)) (hy : fr.ev y = some (.int k b)) : Y0 P N ⟨dst, .binOp .gtr t x y yt, ty, pos, af, g⟩ fr S (.bool (decide (b < a))) :=
  Y0.bin hx hy (guard_int _ _ _ _ _ _ _ _) fun w => by simp [binOp, Op.intCmp]
theorem Y0.geq (hx : fr.ev x = some (.int k a)) (hy : fr.ev y = some (.int k b)) : Y0 P N ⟨dst, .binOp .geq t x y yt, ty, pos, af, g⟩ fr S (.bool (decide (b ≤ a))) :=
  Y0.bin hx hy (guard_int _ _ _ _ _ _ _ _) fun w => by simp [binOp, Op.intCmp]
theorem int_beq (a b : Int) : (a == b) = decide (a = b) := by by_cases h : a = b <;> simp [h]
theorem Y0.eql (hx : fr.ev x = some (.int k a)) (hy : fr.ev y = some (.int k b)) : Y0 P N ⟨dst, .binOp .eql t x y yt, ty, pos, af, g⟩ fr S (.bool (decide (a = b))) :=
  Y0.bin hx hy (guard_int _ _ _ _ _ _ _ _) fun w => by rw [← int_beq]; simp [binOp, Op.intCmp]
theorem Y0.neq (hx : fr.ev x = some (.int k a)) (hy : fr.ev y = some (.int k b)) : Y0 P N ⟨dst, .binOp .neq t x y yt, ty, pos, af, g⟩ fr S (.bool (decide (¬ a = b))) :=
  Y0.bin hx hy (guard_int _ _ _ _ _ _ _ _) fun w => by
    have : (a != b) = decide (¬ a = b) := by by_cases h : a = b <;> simp [h]
    rw [← this]; simp [binOp, Op.intCmp]
theorem Y0.quo (hx : fr.ev x = some (.int k a)) (hy : fr.ev y = some (.int k b)) (hb : b ≠ 0) : Y0 P N ⟨dst, .binOp .quo t x y yt, ty, pos, af, g⟩ fr S (.int k (k.wrap (a.tdiv b))) :=
  Y0.bin hx hy (guard_int _ _ _ _ _ _ _ _) fun w => by simp [binOp, Op.intDiv, hb]
theorem Y0.rem (hx : fr.ev x = some (.int k a)) (hy : fr.ev y = some (.int k b)) (hb : b ≠ 0) : Y0 P N ⟨dst, .binOp .rem t x y yt, ty, pos, af, g⟩ fr S (.int k (a.tmod b)) :=
  Y0.bin hx hy (guard_int _ _ _ _ _ _ _ _) fun w => by simp [binOp, Op.intDiv, hb]
theorem Y0.shl {k' : IntKind} (hx : fr.ev x = some (.int k a)) (hy : fr.ev y = some (.int k' b)) (hb : 0 ≤ b) : Y0 P N ⟨dst, .binOp .shl t x y yt, ty, pos, af, g⟩ fr S (.int k (k.wrap (a * 2 ^ (min b.toNat k.bits)))) :=
  Y0.bin hx hy (guard_int _ _ _ _ _ _ _ _) fun w => by
    have : ¬ b < 0 := by omega
    simp [binOp, Op.shift, this]
theorem Y0.shr {k' : IntKind} (hx : fr.ev x = some (.int k a)) (hy : fr.ev y = some (.int k' b)) (hb : 0 ≤ b) : Y0 P N ⟨dst, .binOp .shr t x y yt, ty, pos, af, g⟩ fr S (.int k (a.fdiv (2 ^ (min b.toNat k.bits)))) :=
  Y0.bin hx hy (guard_int _ _ _ _ _ _ _ _) fun w => by
    have : ¬ b < 0 := by omega
    simp [binOp, Op.shift, this]
theorem Y0.or (hx : fr.ev x = some (.int k a)) (hy : fr.ev y = some (.int k b)) : Y0 P N ⟨dst, .binOp .or t x y yt, ty, pos, af, g⟩ fr S (.int k (k.wrap (BitVec.ofInt k.bits a ||| BitVec.ofInt k.bits b).toNat)) :=
  Y0.bin hx hy (guard_int _ _ _ _ _ _ _ _) fun w => by simp [binOp, Op.intBits]
theorem Y0.and (hx : fr.ev x = some (.int k a)) (hy : fr.ev y = some (.int k b)) : Y0 P N ⟨dst, .binOp .and t x y yt, ty, pos, af, g⟩ fr S (.int k (k.wrap (BitVec.ofInt k.bits a &&& BitVec.ofInt k.bits b).toNat)) :=
  Y0.bin hx hy (guard_int _ _ _ _ _ _ _ _) fun w => by simp [binOp, Op.intBits]
theorem Y0.andNot (hx : fr.ev x = some (.int k a)) (hy : fr.ev y = some (.int k b)) : Y0 P N ⟨dst, .binOp .andNot t x y yt, ty, pos, af, g⟩ fr S (.int k (k.wrap (BitVec.ofInt k.bits a &&& ~~~ BitVec.ofInt k.bits b).toNat)) :=
  Y0.bin hx hy (guard_int _ _ _ _ _ _ _ _) fun w => by simp [binOp, Op.intBits]
theorem Y0.xor (hx : fr.ev x = some (.int k a)) (hy : fr.ev y = some (.int k b)) : Y0 P N ⟨dst, .binOp .xor t x y yt, ty, pos, af, g⟩ fr S (.int k (k.wrap (BitVec.ofInt k.bits a ^^^ BitVec.ofInt k.bits b).toNat)) :=
  Y0.bin hx hy (guard_int _ _ _ _ _ _ _ _) fun w => by simp [binOp, Op.intBits]
/-- The same on int, where the result fits. -/
theorem Y0.addI (hx : fr.ev x = some (.int .i64 a)) (hy : fr.ev y = some (.int .i64 b)) (hb : -9223372036854775808 ≤ a + b ∧ a + b ≤ 9223372036854775807) : Y0 P N ⟨dst, .binOp .add t x y yt, ty, pos, af, g⟩ fr S (.int .i64 (a + b)) := by
  have := Y0.add (P := P) (N := N) (S := S) (dst := dst) (ty := ty) (pos := pos) (af := af) (g := g) (t := t) (yt := yt) hx hy
  rwa [IntWalk.i64_in _ hb] at this
theorem Y0.subI (hx : fr.ev x = some (.int .i64 a)) (hy : fr.ev y = some (.int .i64 b)) (hb : -9223372036854775808 ≤ a - b ∧ a - b ≤ 9223372036854775807) : Y0 P N ⟨dst, .binOp .sub t x y yt, ty, pos, af, g⟩ fr S (.int .i64 (a - b)) := by
  have := Y0.sub (P := P) (N := N) (S := S) (dst := dst) (ty := ty) (pos := pos) (af := af) (g := g) (t := t) (yt := yt) hx hy
  rwa [IntWalk.i64_in _ hb] at this
theorem Y0.mulI (hx : fr.ev x = some (.int .i64 a)) (hy : fr.ev y = some (.int .i64 b)) (hb : -9223372036854775808 ≤ a * b ∧ a * b ≤ 9223372036854775807) : Y0 P N ⟨dst, .binOp .mul t x y yt, ty, pos, af, g⟩ fr S (.int .i64 (a * b)) := by
  have := Y0.mul (P := P) (N := N) (S := S) (dst := dst) (ty := ty) (pos := pos) (af := af) (g := g) (t := t) (yt := yt) hx hy
  rwa [IntWalk.i64_in _ hb] at this
/-- A value in another spelling. -/
theorem Y0.eq {o : Oper} {v v' : Value} (h : Y0 P N o fr S v) (e : v = v') : Y0 P N o fr S v' := e ▸ h
end

theorem run_equal_bool {t : TypeId} (ht : P.underlying t = some .bool) (a b : Bool) (w : World) : (Op.equal t (.bool a) (.bool b)).run P w = .ok (a == b) w := by
  have h : ∀ d, (Op.equalIn (d + 1) t (.bool a) (.bool b)).run P w = .ok (a == b) w := fun d => by simp [Op.equalIn, run_underlying ht]
  exact h 9999
theorem Y0.eqlB {t yt : TypeId} {x y : Operand} {a b : Bool} (ht : P.underlying t = some .bool) (hx : fr.ev x = some (.bool a)) (hy : fr.ev y = some (.bool b)) : Y0 P N ⟨dst, .binOp .eql t x y yt, ty, pos, af, g⟩ fr S (.bool (decide (a = b))) :=
  Y0.bin hx hy (guard_bool _ _ _ _ _ _) fun w => by simp [binOp, run_equal_bool ht]; cases a <;> cases b <;> rfl
theorem Y0.neqB {t yt : TypeId} {x y : Operand} {a b : Bool} (ht : P.underlying t = some .bool) (hx : fr.ev x = some (.bool a)) (hy : fr.ev y = some (.bool b)) : Y0 P N ⟨dst, .binOp .neq t x y yt, ty, pos, af, g⟩ fr S (.bool (decide (¬ a = b))) :=
  Y0.bin hx hy (guard_bool _ _ _ _ _ _) fun w => by simp [binOp, run_equal_bool ht]; cases a <;> cases b <;> rfl
theorem Y0.not {t : TypeId} {x : Operand} {b : Bool} (hx : fr.ev x = some (.bool b)) : Y0 P N ⟨dst, .unOp .not t x, ty, pos, af, g⟩ fr S (.bool (!b)) := fun a w ha _ => by simp [execOp, ha.ev hx, Op.unary]
theorem Y0.neg {t : TypeId} {x : Operand} {k : IntKind} {n : Int} (hx : fr.ev x = some (.int k n)) : Y0 P N ⟨dst, .unOp .neg t x, ty, pos, af, g⟩ fr S (.int k (k.wrap (0 - n))) := fun a w ha _ => by simp [execOp, ha.ev hx, Op.unary, Op.intArith]
theorem Y0.conv {s d : TypeId} {x : Operand} {ds : TypeDesc} {k k' : IntKind} {n : Int} (hs : P.underlying s = some ds) (hd : P.underlying d = some (.int k')) (hx : fr.ev x = some (.int k n)) : Y0 P N ⟨dst, .convert s d x, ty, pos, af, g⟩ fr S (.int k' (k'.wrap n)) := fun a w ha _ => by
  simp [execOp, ha.ev hx, convert, run_underlying hs, run_underlying hd, Conv.intToInt]
theorem Y0.extract {x : Operand} {i : Nat} {vs : Array Value} {v : Value} (hx : fr.ev x = some (.tuple vs)) (hv : vs[i]? = some v) : Y0 P N ⟨dst, .extract x i, ty, pos, af, g⟩ fr S v := fun a w ha _ => by
  simp [execOp, ha.ev hx, Instr.extract, hv]
theorem run_part_scal {t : TypeId} {cs : Array Value} {off : Nat} {v : Value} (ht : ScalT P t) (hv : cs[off]? = some v) (w : World) : (part t cs off).run P w = .ok v w := by
  simp [part, ht.run, hv]
theorem run_part_agg {t : TypeId} {cs : Array Value} {off n : Nat} (ht : AggT P t n) (w : World) : (part t cs off).run P w = .ok (.agg (cs.extract off (off + n))) w := by
  simp [part, ht.run, run_sizeOf ht.2]
/-- An element of an array that is a value. -/
theorem Y0.index {t e : TypeId} {x y : Operand} {len : Nat} {cs : Array Value} {k : IntKind} {i : Int} {v : Value} (ht : P.underlying t = some (.array len e)) (he : ScalT P e) (hsz : (P.info? e).map (·.size) = some 1)
    (hx : fr.ev x = some (.agg cs)) (hy : fr.ev y = some (.int k i)) (hi : 0 ≤ i ∧ i < len) (hv : cs[i.toNat]? = some v) : Y0 P N ⟨dst, .index t x y, ty, pos, af, g⟩ fr S v := fun a w ha _ => by
  have hv' : cs[i.toNat * 1]? = some v := by simpa using hv
  simp [execOp, ha.ev hx, ha.ev hy, Instr.index, asIntOf, run_underlying ht, hi, run_sizeOf hsz, run_part_scal he hv]
theorem Y0.field {s : TypeId} {x : Operand} {f : Nat} {fs : Array Field} {fd : Field} {cs : Array Value} {v : Value} (hs : P.underlying s = some (.struct fs)) (hf : fs[f]? = some fd) (he : ScalT P fd.type)
    (hx : fr.ev x = some (.agg cs)) (hv : cs[fd.offset]? = some v) : Y0 P N ⟨dst, .field s x f, ty, pos, af, g⟩ fr S v := fun a w ha _ => by
  simp [execOp, ha.ev hx, Instr.field, run_underlying hs, hf, asAgg, run_part_scal he hv]

theorem add_none (b off n : Nat) : (⟨b, off, none⟩ : Addr).add n = ⟨b, off + n, none⟩ := by
  unfold Addr.add
  split
  · rename_i h; subst h; rfl
  · rfl
/-- The address of an element of an array. -/
theorem Y0.idxArr {t e : TypeId} {x y : Operand} {len b off sz : Nat} {k : IntKind} {i : Int} (ht : P.underlying t = some (.array len e)) (hsz : (P.info? e).map (·.size) = some sz)
    (hx : fr.ev x = some (.pointer (some ⟨b, off, none⟩))) (hy : fr.ev y = some (.int k i)) (hi : 0 ≤ i ∧ i < len) : Y0 P N ⟨dst, .indexAddr t x y, ty, pos, af, g⟩ fr S (.pointer (some ⟨b, off + i.toNat * sz, none⟩)) := fun a w ha _ => by
  simp [execOp, ha.ev hx, ha.ev hy, Instr.indexAt, asIntOf, run_underlying ht, hi, run_sizeOf hsz, Instr.sureAddr, add_none]
/-- The address of an element of a slice. -/
theorem Y0.idxSl {t e : TypeId} {x y : Operand} {len cap b off sz : Nat} {k : IntKind} {i : Int} (ht : P.underlying t = some (.slice e)) (hsz : (P.info? e).map (·.size) = some sz)
    (hx : fr.ev x = some (.slice (some ⟨b, off, none⟩) len cap)) (hy : fr.ev y = some (.int k i)) (hi : 0 ≤ i ∧ i < len) : Y0 P N ⟨dst, .indexAddr t x y, ty, pos, af, g⟩ fr S (.pointer (some ⟨b, off + i.toNat * sz, none⟩)) := fun a w ha _ => by
  simp [execOp, ha.ev hx, ha.ev hy, Instr.indexAt, asIntOf, run_underlying ht, hi, run_sizeOf hsz, add_none]
theorem Y0.fieldAddr {s : TypeId} {x : Operand} {f b off : Nat} {fs : Array Field} {fd : Field} (hs : P.underlying s = some (.struct fs)) (hf : fs[f]? = some fd) (hp : ∀ w, (fieldPlace ⟨b, off, none⟩ fd).run P w = .ok ⟨b, off + fd.offset, none⟩ w)
    (hx : fr.ev x = some (.pointer (some ⟨b, off, none⟩))) : Y0 P N ⟨dst, .fieldAddr s x f, ty, pos, af, g⟩ fr S (.pointer (some ⟨b, off + fd.offset, none⟩)) := fun a w ha _ => by
  simp [execOp, ha.ev hx, Instr.fieldAt, run_underlying hs, hf, Instr.sureAddr, hp w]
theorem Y0.build {t : TypeId} {parts : Array (Nat × Operand)} {vs : Array (Nat × Value)} {v : Value} (hps : fr.evs (parts.toList.map (·.2)) = some (vs.toList.map (·.2))) (hix : parts.toList.map (·.1) = vs.toList.map (·.1))
    (h : ∀ w, (Instr.build t vs).run P w = .ok v w) : Y0 P N ⟨dst, .build t parts, ty, pos, af, g⟩ fr S v := fun a w ha _ => by
  have h1 := ha.evs _ _ hps
  have h2 : (parts.map fun p => (p.1, a.eval p.2)) = vs := by
    apply Array.ext'
    simp only [Array.toList_map]
    have hl : parts.toList.length = vs.toList.length := by have := congrArg List.length hix; simpa using this
    generalize parts.toList = ps at *
    generalize vs.toList = us at *
    induction ps generalizing us with
    | nil => cases us <;> simp_all
    | cons p ps ih =>
      cases us with
      | nil => simp at hl
      | cons q us =>
        simp only [List.map_cons, List.cons.injEq] at hix h1 ⊢
        refine ⟨Prod.ext hix.1 h1.1, ?_⟩
        simp only [Fr.evs, List.map_cons] at hps
        split at hps
        · rename_i v' us' e1 e2
          simp only [Option.some.injEq, List.cons.injEq] at hps
          exact ih us (by rw [e2, hps.2]) hix.2 h1.2 (by simpa using hl)
        · cases hps
  have h3 : (parts.map fun (i, x) => (i, a.eval x)) = vs := h2
  simp only [execOp, h3]
  simp [h w]
theorem Y0.makeFunc {fn : Fn} {first captured : Array Operand} {v1 v2 : List Value} (h1 : fr.evs first.toList = some v1) (h2 : fr.evs captured.toList = some v2) : Y0 P N ⟨dst, .makeFunc fn first captured, ty, pos, af, g⟩ fr S (.func fn v1.toArray v2.toArray) := fun a w ha _ => by
  have e1 : first.map a.eval = v1.toArray := by apply Array.ext'; simpa using ha.evs _ _ h1
  have e2 : captured.map a.eval = v2.toArray := by apply Array.ext'; simpa using ha.evs _ _ h2
  simp [execOp, e1, e2, Instr.makeFunc]
theorem Y0.lenSl {x : Operand} {t e : TypeId} {p : Option Addr} {n cap : Nat} (ht : P.underlying t = some (.slice e)) (hx : fr.ev x = some (.slice p n cap)) : Y0 P N ⟨dst, .call ⟨.builtin .len, #[x], #[t]⟩, ty, pos, af, g⟩ fr S (.int .i64 (n : Int)) := fun a w ha _ => by
  simp [execOp, resolve, invoke, builtin, ha.ev hx, Builtin.len_, run_underlying ht, goInt]
theorem Y0.max2 {x y : Operand} {ts : Array TypeId} {k k' : IntKind} {a b : Int} (hx : fr.ev x = some (.int k a)) (hy : fr.ev y = some (.int k' b)) : Y0 P N ⟨dst, .call ⟨.builtin .max, #[x, y], ts⟩, ty, pos, af, g⟩ fr S (.int k (if a < b then b else a)) := fun A w ha _ => by
  simp [execOp, resolve, invoke, builtin, ha.ev hx, ha.ev hy, Builtin.max_, Builtin.max2]
theorem Y0.min2 {x y : Operand} {ts : Array TypeId} {k k' : IntKind} {a b : Int} (hx : fr.ev x = some (.int k a)) (hy : fr.ev y = some (.int k' b)) : Y0 P N ⟨dst, .call ⟨.builtin .min, #[x, y], ts⟩, ty, pos, af, g⟩ fr S (.int k (if b < a then b else a)) := fun A w ha _ => by
  simp [execOp, resolve, invoke, builtin, ha.ev hx, ha.ev hy, Builtin.min_, Builtin.min2]
end
end Go.EL
