/- More rules: cases, spellings. No condition. -/
import Derived.Test.YtbdknlblnfnkkaaElg
namespace Go.EL
open Go Go.RowKit Go.Proofs

section
variable {P : Program} {N : Nat} {Q : Post} {fr : Fr} {S : Asrt} {ops : Array Oper} {l : List Oper} {dst : Option Nat} {ty : TypeId} {pos : String} {af : Array Edge} {g : Option (Nat × Bool)}
variable {w0 : Bs} {G0 G : Mem} {L : Lo}

theorem WL.caseY0 {op : Op} {p : Prop} [Decidable p] (hg : guardOK ops fr ⟨dst, op, ty, pos, af, g⟩ true) (h : Y0 P N ⟨dst, op, ty, pos, af, g⟩ fr S (.bool (decide p))) (hd : dstOK N dst)
    (kt : p → WL P N ops Q l (putFr dst (.bool true) fr) S) (kf : ¬ p → WL P N ops Q l (putFr dst (.bool false) fr) S) : WL P N ops Q (⟨dst, op, ty, pos, af, g⟩ :: l) fr S := by
  by_cases hp : p
  · exact WL.y0' hg (h.eq (congrArg Value.bool (decide_eq_true hp))) hd (kt hp)
  · exact WL.y0' hg (h.eq (congrArg Value.bool (decide_eq_false hp))) hd (kf hp)
theorem Chain.caseY0 {fs : List Bool} {r : List Oper} {det : Fr} {o : Oper} {p : Prop} [Decidable p] (hg : guardOK ops (det ++ fr) o true) (h : ∀ G', Mem.le G G' → Y0 P N o (det ++ fr) (St w0 G0 G' L) (.bool (decide p)))
    (kt : p → Chain P N Q fr w0 G0 G L ops fs r (putFr o.dst (.bool true) det) []) (kf : ¬ p → Chain P N Q fr w0 G0 G L ops fs r (putFr o.dst (.bool false) det) []) : Chain P N Q fr w0 G0 G L ops (false :: fs) (o :: r) det [] := by
  by_cases hp : p
  · exact Chain.y0 hg (fun G' hle => (h G' hle).eq (congrArg Value.bool (decide_eq_true hp))) (kt hp)
  · exact Chain.y0 hg (fun G' hle => (h G' hle).eq (congrArg Value.bool (decide_eq_false hp))) (kf hp)

theorem Y0.notD {t : TypeId} {x : Operand} {p : Prop} [Decidable p] (hx : fr.ev x = some (.bool (decide p))) : Y0 P N ⟨dst, .unOp .not t x, ty, pos, af, g⟩ fr S (.bool (decide (¬ p))) :=
  (Y0.not hx).eq (by by_cases h : p <;> simp [h])
theorem Y0.convI {s d : TypeId} {x : Operand} {ds : TypeDesc} {k : IntKind} {n : Int} (hs : P.underlying s = some ds) (hd : P.underlying d = some (.int .i64)) (hx : fr.ev x = some (.int k n)) (hb : -9223372036854775808 ≤ n ∧ n ≤ 9223372036854775807) :
    Y0 P N ⟨dst, .convert s d x, ty, pos, af, g⟩ fr S (.int .i64 n) := (Y0.conv hs hd hx).eq (by rw [IntWalk.i64_in _ hb])
/-- The address of an element of one cell of an array at its block's head; the index a natural number. -/
theorem Y0.idxArr1 {t e : TypeId} {x y : Operand} {len b i : Nat} {k : IntKind} (ht : P.underlying t = some (.array len e)) (hsz : (P.info? e).map (·.size) = some 1)
    (hx : fr.ev x = some (.pointer (some ⟨b, 0, none⟩))) (hy : fr.ev y = some (.int k (i : Int))) (hi : i < len) : Y0 P N ⟨dst, .indexAddr t x y, ty, pos, af, g⟩ fr S (.pointer (some ⟨b, i, none⟩)) :=
  (Y0.idxArr ht hsz hx hy (by omega)).eq (by simp)
theorem Y0.idxSlN {t e : TypeId} {x y : Operand} {len cap b off sz i : Nat} {k : IntKind} (ht : P.underlying t = some (.slice e)) (hsz : (P.info? e).map (·.size) = some sz)
    (hx : fr.ev x = some (.slice (some ⟨b, off, none⟩) len cap)) (hy : fr.ev y = some (.int k (i : Int))) (hi : i < len) : Y0 P N ⟨dst, .indexAddr t x y, ty, pos, af, g⟩ fr S (.pointer (some ⟨b, off + i * sz, none⟩)) :=
  (Y0.idxSl ht hsz hx hy (by omega)).eq (by simp)

/-- Where ways meet: a ghost state. -/
def Mid {X : Type} (N : Nat) (F : X → Fr) (I : X → Asrt) : Act → World → Prop := fun a w => ∃ x, Rel N (F x) a ∧ I x w
theorem WC.seqC {X : Type} {x y : Code} (F : X → Fr) (I : X → Asrt) (h1 : WC P N x (Exit.then (Mid N F I) Q) fr S) (h2 : ∀ x, WC P N y Q (F x) (I x)) : WC P N (.seq x y) Q fr S :=
  fun a w ha hs => wp_seq (Code.wp_mono (fun e a' w' hq => by
    cases e <;> first | exact hq | (obtain ⟨x', q1, q2⟩ := hq; exact h2 x' a' w' q1 q2)) (h1 a w ha hs))
theorem WE.mid {X : Type} {F : X → Fr} {I : X → Asrt} (x : X) (hF : Fr.sub (F x) fr) (hI : ∀ w, S w → I x w) : WE N (Exit.then (Mid N F I) Q) .normal fr S := fun _ w ha hs => ⟨x, ha.weaken hF, hI w hs⟩
/-- A loop with a ghost state x: what is known of the frame, a plain fact, an assertion, a measure. -/
def BackH {X : Type} (N : Nat) (F : X → Fr) (H : X → Prop) (I : X → Asrt) (m : X → Nat) (x : X) : Act → World → Prop := fun a w => ∃ x', H x' ∧ Rel N (F x') a ∧ I x' w ∧ m x' < m x
theorem WC.loopH {c : Code} {X : Type} (F : X → Fr) (H : X → Prop) (I : X → Asrt) (m : X → Nat) (x₀ : X) (hF : Fr.sub (F x₀) fr) (hH : H x₀) (hI : ∀ w, S w → I x₀ w)
    (round : ∀ x, H x → WC P N c (Exit.then (BackH N F H I m x) Q) (F x) (I x)) : WC P N (.loop c) Q fr S :=
  WC.loop (fun x : { x : X // H x } => F x.1) (fun x => I x.1) (fun x => m x.1) ⟨x₀, hH⟩ hF hI fun x a w ha hs => Code.wp_mono (fun e a' w' hq => by
    cases e <;> first | exact hq | (obtain ⟨x', q1, q2, q3, q4⟩ := hq; exact ⟨⟨x', q1⟩, q2, q3, q4⟩)) (round x.1 x.2 a w ha hs)
theorem WE.backH {X : Type} {F : X → Fr} {H : X → Prop} {I : X → Asrt} {m : X → Nat} {x : X} (x' : X) (hH : H x') (hF : Fr.sub (F x') fr) (hI : ∀ w, S w → I x' w) (hm : m x' < m x) :
    WE N (Exit.then (BackH N F H I m x) Q) .normal fr S := fun _ w ha hs => ⟨x', hH, ha.weaken hF, hI w hs, hm⟩
/-- A fact on the known cells that the state itself gives. -/
theorem WC.base {c : Code} (h : Mem.le G0 G → WC P N c Q fr (St w0 G0 G L)) : WC P N c Q fr (St w0 G0 G L) := fun a w ha hs => h hs.base a w ha hs
theorem St.conseqL {L' : Lo} (hs : Lo.sub L' L) : ∀ w, St w0 G0 G L w → St w0 G0 G L' w := fun _ h => h.weaken hs
end
end Go.EL
