/- Plain computations, and the rules that carry them through code: loops and places where ways meet. No condition. -/
import Derived.Test.YtbdknlblnfnkkaaElh
namespace Go.EL
open Go

/-- A plain computation: what holds of all that it returns, for sure, and a way to run it. -/
structure Comp (α : Type) where
  wp : (α → Prop) → Prop
  mono : ∀ {p q : α → Prop}, (∀ a, p a → q a) → wp p → wp q
  ev : Nat → Option α
  sound : ∀ n a, ev n = some a → ∀ p : α → Prop, p a → wp p
/-- It surely returns this. -/
def Comp.Ret {α : Type} (c : Comp α) (r : α) : Prop := c.wp fun a => a = r
/-- How a round ends: the loop goes on, or it is left. -/
def Out {σ ρ : Type} (A : σ → Prop) (Φ : ρ → Prop) : σ ⊕ ρ → Prop
  | .inl s => A s
  | .inr r => Φ r
theorem Out.mono {σ ρ : Type} {A A' : σ → Prop} {Φ Φ' : ρ → Prop} (h : ∀ s, A s → A' s) (k : ∀ r, Φ r → Φ' r) : ∀ o, Out A Φ o → Out A' Φ' o
  | .inl s, x => h s x
  | .inr r, x => k r x

namespace Comp
variable {α β σ ρ : Type}
def ret (a : α) : Comp α := ⟨fun p => p a, fun h => h a, fun _ => some a, fun n b h p hp => by cases h; exact hp⟩
def fail : Comp α := ⟨fun _ => False, fun _ h => h, fun _ => none, fun _ _ h => by cases h⟩
/-- A call: what it returns is one thing. -/
def bind (c : Comp α) (k : α → Comp β) : Comp β :=
  ⟨fun p => ∃ a, c.Ret a ∧ (k a).wp p, fun h ⟨a, h1, h2⟩ => ⟨a, h1, (k a).mono h h2⟩, fun n => (c.ev n).bind fun a => (k a).ev n, fun n b h p hp => by
    cases hc : c.ev n with
    | none => rw [hc] at h; cases h
    | some a => rw [hc] at h; exact ⟨a, c.sound n a hc _ rfl, (k a).sound n b h p hp⟩⟩
/-- One after the other. -/
def next (c : Comp α) (k : α → Comp β) : Comp β :=
  ⟨fun p => c.wp fun a => (k a).wp p, fun h => c.mono fun a => (k a).mono h, fun n => (c.ev n).bind fun a => (k a).ev n, fun n b h p hp => by
    cases hc : c.ev n with
    | none => rw [hc] at h; cases h
    | some a => rw [hc] at h; exact c.sound n a hc _ ((k a).sound n b h p hp)⟩
/-- A condition without which the program stops. -/
def chk (p : Prop) [Decidable p] (c : Comp α) : Comp α := ⟨fun q => p ∧ c.wp q, fun h ⟨h1, h2⟩ => ⟨h1, c.mono h h2⟩, fun n => if p then c.ev n else none, fun n a h q hq => by
  by_cases hp : p
  · rw [if_pos hp] at h; exact ⟨hp, c.sound n a h q hq⟩
  · rw [if_neg hp] at h; cases h⟩
/-- A way for the slice that is nil, and one for all others. -/
def nilCase {β : Type} (l : List β) (c d : Comp α) : Comp α := ⟨fun p => (l = [] → c.wp p) ∧ d.wp p, fun h ⟨h1, h2⟩ => ⟨fun e => c.mono h (h1 e), d.mono h h2⟩, fun _ => none, fun _ _ h => by cases h⟩
/-- An element of a list. -/
def at' (l : List α) (i : Int) (k : α → Comp β) : Comp β := ⟨fun p => ∃ a, (0 ≤ i ∧ l[i.toNat]? = some a) ∧ (k a).wp p, fun h ⟨a, h1, h2⟩ => ⟨a, h1, (k a).mono h h2⟩,
  fun n => if 0 ≤ i then (l[i.toNat]?).bind fun a => (k a).ev n else none, fun n b h p hp => by
  by_cases hi : 0 ≤ i
  · rw [if_pos hi] at h
    cases hl : l[i.toNat]? with
    | none => rw [hl] at h; cases h
    | some a => rw [hl] at h; exact ⟨a, ⟨hi, rfl⟩, (k a).sound n b h p hp⟩
  · rw [if_neg hi] at h; cases h⟩
/-- Whatever of these comes. -/
def any (q : α → Prop) (k : α → Comp β) : Comp β := ⟨fun p => ∀ a, q a → (k a).wp p, fun h h1 a ha => (k a).mono h (h1 a ha), fun _ => none, fun _ _ h => by cases h⟩
def loopEv (step : σ → Comp (σ ⊕ ρ)) (n : Nat) : Nat → σ → Option ρ
  | 0, _ => none
  | k + 1, s => match (step s).ev n with
    | none => none
    | some (.inr r) => some r
    | some (.inl s') => loopEv step n k s'
theorem loopEv_sound (step : σ → Comp (σ ⊕ ρ)) (n : Nat) (p : ρ → Prop) : ∀ k s r, loopEv step n k s = some r → p r → ∀ A : σ → Prop, (∀ s, (step s).wp (Out A p) → A s) → A s
  | 0, _, _, h => by cases h
  | k + 1, s, r, h => by
    intro hp A hA
    simp only [loopEv] at h
    split at h
    · cases h
    · rename_i r' hr
      simp only [Option.some.injEq] at h
      subst h
      exact hA s ((step s).sound n _ hr _ hp)
    · rename_i s' hs
      exact hA s ((step s).sound n _ hs _ (loopEv_sound step n p k s' r h hp A hA))
/-- Rounds until it is left; it ends for sure. -/
def loop (step : σ → Comp (σ ⊕ ρ)) (s : σ) : Comp ρ := ⟨fun p => ∀ A : σ → Prop, (∀ s, (step s).wp (Out A p) → A s) → A s, fun h h1 A hA => h1 A fun s hs => hA s ((step s).mono (Out.mono (fun _ x => x) h) hs),
  fun n => loopEv step n n s, fun n a h p hp => loopEv_sound step n p n s a h hp⟩
theorem loop_fold {step : σ → Comp (σ ⊕ ρ)} {s : σ} {p : ρ → Prop} (h : (step s).wp (Out (fun s' => (loop step s').wp p) p)) : (loop step s).wp p :=
  fun A hA => hA s ((step s).mono (Out.mono (fun s' h' => h' A hA) (fun _ x => x)) h)
/-- A loop by an invariant and a measure. -/
theorem loop_inv {step : σ → Comp (σ ⊕ ρ)} {p : ρ → Prop} (I : σ → Prop) (m : σ → Nat) (h : ∀ s, I s → (step s).wp (Out (fun s' => I s' ∧ m s' < m s) p)) : ∀ s, I s → (loop step s).wp p := by
  have key : ∀ n s, m s = n → I s → (loop step s).wp p := by
    intro n
    induction n using Nat.strongRecOn with
    | _ n ih =>
      intro s hn hI
      exact loop_fold ((step s).mono (Out.mono (fun s' ⟨h1, h2⟩ => ih (m s') (by omega) s' rfl h1) (fun _ x => x)) (h s hI))
  exact fun s => key _ s rfl
theorem Ret.of_ev {c : Comp α} {a : α} (n : Nat) (h : c.ev n = some a) : c.Ret a := c.sound n a h _ rfl
theorem wp.pos {p : Prop} [Decidable p] {A B : Comp α} {q : α → Prop} (h : (if p then A else B).wp q) (hp : p) : A.wp q := by rwa [if_pos hp] at h
theorem wp.neg {p : Prop} [Decidable p] {A B : Comp α} {q : α → Prop} (h : (if p then A else B).wp q) (hp : ¬ p) : B.wp q := by rwa [if_neg hp] at h
theorem Ret.pos {p : Prop} [Decidable p] {A B : Comp α} {r : α} (h : (if p then A else B).Ret r) (hp : p) : A.Ret r := by rwa [if_pos hp] at h
theorem Ret.neg {p : Prop} [Decidable p] {A B : Comp α} {r : α} (h : (if p then A else B).Ret r) (hp : ¬ p) : B.Ret r := by rwa [if_neg hp] at h
theorem wp.yes {p : Prop} [Decidable p] {A B : Comp α} {q : α → Prop} (hp : p) (h : A.wp q) : (if p then A else B).wp q := by rwa [if_pos hp]
theorem wp.no {p : Prop} [Decidable p] {A B : Comp α} {q : α → Prop} (hp : ¬ p) (h : B.wp q) : (if p then A else B).wp q := by rwa [if_neg hp]
end Comp

section
variable {P : Program} {N : Nat} {Q : Post} {fr : Fr} {S : Asrt}
/-- The code of a loop, in the midst of it. -/
def LoopIn (P : Program) (c : Code) (Q : Post) (a : Act) (w : World) : Prop :=
  ∀ (b : Frame) (k : List Item) (cs : List Frame), ∃ e a' w', Q e a' w' ∧ Arrives P (lone (b.at a (.code c :: .inLoop c :: k)) cs w) b k cs e a' w'
theorem LoopIn.fold {c : Code} {a : Act} {w : World} (h : c.wp P (Exit.then (LoopIn P c Q) Q) a w) : LoopIn P c Q a w := by
  intro b k cs
  obtain ⟨e, a₁, w₁, hq, harr⟩ := h b (.inLoop c :: k) cs
  cases e with
  | normal =>
    obtain ⟨e₂, a₂, w₂, hq₂, harr₂⟩ := hq b k cs
    exact ⟨e₂, a₂, w₂, hq₂, .of_steps (Steps.trans harr (.one step_inLoop)) harr₂⟩
  | exit id => exact ⟨_, a₁, w₁, hq, .pass (x := .inLoop c) rfl (fun _ _ => .inl (by simp)) harr⟩
  | goto l => exact ⟨_, a₁, w₁, hq, .pass (x := .inLoop c) rfl (fun _ _ => .inl (by simp)) harr⟩
  | ret => exact ⟨_, a₁, w₁, hq, .pass (x := .inLoop c) rfl (fun _ _ => .inl (by simp)) harr⟩
  | panic ch => exact ⟨_, a₁, w₁, hq, .pass (x := .inLoop c) rfl (fun _ _ => .inl (by simp)) harr⟩
  | outgrown => exact ⟨_, a₁, w₁, hq, .pass (x := .inLoop c) rfl (fun _ _ => .inl (by simp)) harr⟩
theorem LoopIn.wp {c : Code} {a : Act} {w : World} (h : LoopIn P c Q a w) : (Code.loop c).wp P Q a w := by
  intro b k cs
  obtain ⟨e, a', w', hq, harr⟩ := h b k cs
  exact ⟨e, a', w', hq, .of_steps (.one step_loop) harr⟩

def BackR {X σ : Type} (N : Nat) (F : X → Fr) (H : X → Prop) (I : X → Asrt) (π : X → σ) (A : σ → Prop) : Act → World → Prop := fun a w => ∃ x', H x' ∧ A (π x') ∧ Rel N (F x') a ∧ I x' w
theorem WC.loopR {c : Code} {X σ ρ : Type} {step : σ → Comp (σ ⊕ ρ)} {Φ : ρ → Prop} (π : X → σ) (F : X → Fr) (H : X → Prop) (I : X → Asrt) (x₀ : X) (hl : (Comp.loop step (π x₀)).wp Φ) (hF : Fr.sub (F x₀) fr) (hH : H x₀) (hI : ∀ w, S w → I x₀ w)
    (round : ∀ (A : σ → Prop) x, H x → (step (π x)).wp (Out A Φ) → WC P N c (Exit.then (BackR N F H I π A) Q) (F x) (I x)) : WC P N (.loop c) Q fr S := by
  have key := hl (fun s => ∀ x, π x = s → H x → ∀ a w, Rel N (F x) a → I x w → LoopIn P c Q a w) (fun s hs x hx hH a w ha hI => by
    subst hx
    refine LoopIn.fold (Code.wp_mono (fun e a' w' hq => ?_) (round _ x hH hs a w ha hI))
    cases e <;> first | exact hq | skip
    obtain ⟨x', h1, h2, h3, h4⟩ := hq
    exact h2 x' rfl h1 a' w' h3 h4)
  exact fun a w ha hs => (key x₀ rfl hH a w (ha.weaken hF) (hI w hs)).wp
theorem WE.backR {X σ : Type} {F : X → Fr} {H : X → Prop} {I : X → Asrt} {π : X → σ} {A : σ → Prop} (x' : X) (hA : A (π x')) (hH : H x') (hF : Fr.sub (F x') fr) (hI : ∀ w, S w → I x' w) : WE N (Exit.then (BackR N F H I π A) Q) .normal fr S :=
  fun _ w ha hs => ⟨x', hH, hA, ha.weaken hF, hI w hs⟩

/-- Where ways meet: a ghost state and a plain fact. -/
def MidH {X : Type} (N : Nat) (F : X → Fr) (H : X → Prop) (I : X → Asrt) : Act → World → Prop := fun a w => ∃ x, H x ∧ Rel N (F x) a ∧ I x w
theorem WC.seqH {X : Type} {x y : Code} (F : X → Fr) (H : X → Prop) (I : X → Asrt) (h1 : WC P N x (Exit.then (MidH N F H I) Q) fr S) (h2 : ∀ x, H x → WC P N y Q (F x) (I x)) : WC P N (.seq x y) Q fr S :=
  fun a w ha hs => wp_seq (Code.wp_mono (fun e a' w' hq => by
    cases e <;> first | exact hq | (obtain ⟨x', q0, q1, q2⟩ := hq; exact h2 x' q0 a' w' q1 q2)) (h1 a w ha hs))
theorem WE.midH {X : Type} {F : X → Fr} {H : X → Prop} {I : X → Asrt} (x : X) (hH : H x) (hF : Fr.sub (F x) fr) (hI : ∀ w, S w → I x w) : WE N (Exit.then (MidH N F H I) Q) .normal fr S := fun _ w ha hs => ⟨x, hH, ha.weaken hF, hI w hs⟩
/-- The same at the end of a block. -/
def EndH {X : Type} (N : Nat) (F : X → Fr) (H : X → Prop) (I : X → Asrt) (Q : Post) : Post := fun e a w => match e with
  | .normal => ∃ x, H x ∧ Rel N (F x) a ∧ I x w
  | e => Q e a w
theorem WC.meetH {X : Type} {x : Code} (F : X → Fr) (H : X → Prop) (I : X → Asrt) (h1 : WC P N x (EndH N F H I Q) fr S) (h2 : ∀ x, H x → WE N Q .normal (F x) (I x)) : WC P N x Q fr S :=
  fun a w ha hs => Code.wp_mono (fun e a' w' hq => by
    cases e <;> first | exact hq | (obtain ⟨x', q0, q1, q2⟩ := hq; exact h2 x' q0 a' w' q1 q2)) (h1 a w ha hs)
theorem WE.endH {X : Type} {F : X → Fr} {H : X → Prop} {I : X → Asrt} (x : X) (hH : H x) (hF : Fr.sub (F x) fr) (hI : ∀ w, S w → I x w) : WE N (EndH N F H I Q) .normal fr S := fun _ w ha hs => ⟨x, hH, ha.weaken hF, hI w hs⟩
theorem WE.endRet {X : Type} {F : X → Fr} {H : X → Prop} {I : X → Asrt} (h : WE N Q .ret fr S) : WE N (EndH N F H I Q) .ret fr S := h
theorem WE.endExit {X : Type} {F : X → Fr} {H : X → Prop} {I : X → Asrt} {id : Nat} (h : WE N Q (.exit id) fr S) : WE N (EndH N F H I Q) (.exit id) fr S := h
end
end Go.EL
