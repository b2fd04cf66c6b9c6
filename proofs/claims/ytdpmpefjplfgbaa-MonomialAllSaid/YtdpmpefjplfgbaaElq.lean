/- Cuts with a plain fact; plain facts for the law on all monomials. The conditions stand in each statement. -/
import Derived.Test.YtdpmpefjplfgbaaElp
namespace Go.EL
open Go Go.RowKit

section
variable {P : Program} {N : Nat} {Q : Post} {fr : Fr} {S : Asrt}
/-- Where ways meet: a ghost state, a plain fact. -/
def MidH {X : Type} (N : Nat) (F : X → Fr) (H : X → Prop) (I : X → Asrt) : Act → World → Prop := fun a w => ∃ x, H x ∧ Rel N (F x) a ∧ I x w
theorem WC.seqH {X : Type} {x y : Code} (F : X → Fr) (H : X → Prop) (I : X → Asrt) (h1 : WC P N x (Exit.then (MidH N F H I) Q) fr S) (h2 : ∀ x, H x → WC P N y Q (F x) (I x)) : WC P N (.seq x y) Q fr S :=
  fun a w ha hs => wp_seq (Code.wp_mono (fun e a' w' hq => by
    cases e <;> first | exact hq | (obtain ⟨x', q0, q1, q2⟩ := hq; exact h2 x' q0 a' w' q1 q2)) (h1 a w ha hs))
theorem WC.seqH2 {X : Type} {x1 x2 y : Code} (F : X → Fr) (H : X → Prop) (I : X → Asrt) (h1 : WC P N x1 (Exit.then (x2.wp P (Exit.then (MidH N F H I) Q)) Q) fr S) (h2 : ∀ x, H x → WC P N y Q (F x) (I x)) : WC P N (.seq x1 (.seq x2 y)) Q fr S :=
  fun a w ha hs => wp_seq (Code.wp_mono (fun e a' w' hq => by
    cases e <;> first | exact hq | exact wp_seq (Code.wp_mono (fun e a'' w'' hq' => by
      cases e <;> first | exact hq' | (obtain ⟨x', q0, q1, q2⟩ := hq'; exact h2 x' q0 a'' w'' q1 q2)) hq)) (h1 a w ha hs))
theorem WE.midH {X : Type} {F : X → Fr} {H : X → Prop} {I : X → Asrt} (x : X) (hH : H x) (hF : Fr.sub (F x) fr) (hI : ∀ w, S w → I x w) : WE N (Exit.then (MidH N F H I) Q) .normal fr S := fun _ w ha hs => ⟨x, hH, ha.weaken hF, hI w hs⟩
end

theorem tmod_nat (n k : Nat) : Int.tmod (n : Int) (k : Int) = ((n % k : Nat) : Int) := rfl
/-- How many monomials of degree d in k variables, as the law counts. -/
def manyTo (d : Nat) : Nat → Nat
  | 0 => 1
  | 1 => 1
  | i + 2 => manyTo d (i + 1) * (d + (i + 1)) / (i + 1)
def manyN (n d : Nat) : Nat := if n = 0 ∧ 0 < d then 0 else manyTo d n
theorem manyTo_step (d : Nat) {x : Nat} (h : 0 < x) : manyTo d (x + 1) = manyTo d x * (d + x) / x := by
  match x, h with
  | x + 1, _ => rfl
def decL : List M → Bool
  | a :: b :: r => decide (0 < cmpM a b) && decL (b :: r)
  | _ => true
theorem decL_at : ∀ {l : List M} {i : Nat}, decL l = true → (h : i + 1 < l.length) → 0 < cmpM l[i] l[i + 1]
  | a :: b :: r, 0, h, _ => by simp only [decL, Bool.and_eq_true, decide_eq_true_eq] at h; exact h.1
  | a :: b :: r, i + 1, h, hi => by
    simp only [decL, Bool.and_eq_true] at h
    exact decL_at (l := b :: r) (i := i) h.2 (by simpa using hi)
  | [_], i, _, hi => by simp at hi
  | [], i, _, hi => by simp at hi
def chkAt (n d : Nat) : Bool := decide ((allM n d).length = manyN n d) && (allM n d).all (fun m => decide (degM m = (d : Int)) && decide (Ok m) && decide (∀ i : Fin 8, n ≤ i.val → m i = 0)) && decL (allM n d)
theorem chk_all : ((List.range 9).all fun n => (List.range 13).all fun d => (Nat.blt 4 n && Nat.ble 5 d) || chkAt n d) = true := by decide +kernel
theorem chk {n d : Nat} (hn : n ≤ 8) (hd : d ≤ 12) (h : 4 < n → d < 5) : chkAt n d = true := by
  have h0 := chk_all
  simp only [List.all_eq_true, List.mem_range, Bool.or_eq_true] at h0
  rcases h0 n (by omega) d (by omega) with h1 | h1
  · simp only [Bool.and_eq_true, Nat.blt_eq, Nat.ble_eq] at h1
    have := h h1.1
    omega
  · exact h1
theorem chk_len {n d : Nat} (h : chkAt n d = true) : (allM n d).length = manyN n d := by
  simp only [chkAt, Bool.and_eq_true, decide_eq_true_eq] at h
  exact h.1.1
theorem chk_el {n d i : Nat} (h : chkAt n d = true) (hi : i < (allM n d).length) : degM (allM n d)[i] = (d : Int) ∧ Ok (allM n d)[i] ∧ ∀ j : Fin 8, n ≤ j.val → (allM n d)[i] j = 0 := by
  simp only [chkAt, Bool.and_eq_true, List.all_eq_true, decide_eq_true_eq] at h
  have := h.1.2 _ (List.getElem_mem hi)
  exact ⟨this.1.1, this.1.2, this.2⟩
theorem chk_dec {n d i : Nat} (h : chkAt n d = true) (hi : i + 1 < (allM n d).length) : 0 < cmpM (allM n d)[i] (allM n d)[i + 1] := by
  simp only [chkAt, Bool.and_eq_true] at h
  exact decL_at h.2 hi
theorem many_all : ((List.range 13).all fun d => (List.range 9).all fun x => Nat.ble (manyTo d x) 1000000) = true := by decide +kernel
theorem many_le {d x : Nat} (hd : d ≤ 12) (hx : x ≤ 8) : manyTo d x ≤ 1000000 := by
  have h0 := many_all
  simp only [List.all_eq_true, List.mem_range, Nat.ble_eq] at h0
  exact h0 d (by omega) x (by omega)
theorem many_mul {mn d x : Nat} (h : mn ≤ 1000000) (hd : d ≤ 12) (hx : x ≤ 8) : mn * (d + x) ≤ 20000000 := by
  have : mn * (d + x) ≤ 1000000 * 20 := Nat.mul_le_mul h (by omega)
  omega
theorem many_bd {mn d x : Nat} (h : mn ≤ 1000000) (hd : d ≤ 12) (hx : x ≤ 8) : -9223372036854775808 ≤ (mn : Int) * ((d : Int) + (x : Int)) ∧ (mn : Int) * ((d : Int) + (x : Int)) ≤ 9223372036854775807 := by
  have := many_mul h hd hx
  rw [← Int.natCast_add, ← Int.natCast_mul]
  omega
theorem many_quo {mn d x : Nat} (h : mn ≤ 1000000) (hd : d ≤ 12) (hx : x ≤ 8) : IntKind.i64.wrap (Int.tdiv ((mn : Int) * ((d : Int) + (x : Int))) (x : Int)) = ((mn * (d + x) / x : Nat) : Int) := by
  have h1 := many_mul h hd hx
  have h2 : mn * (d + x) / x ≤ 20000000 := Nat.le_trans (Nat.div_le_self _ _) h1
  rw [← Int.natCast_add, ← Int.natCast_mul]
  have h3 : ∀ q : Nat, q ≤ 20000000 → IntKind.i64.wrap (q : Int) = (q : Int) := fun q hq => IntWalk.i64_in _ (by omega)
  exact h3 _ h2
/-- The monomial that the law draws, behind the first i variables. -/
structure DrawM (dg : Nat) (mm : M) (i lf : Nat) : Prop where
  le : lf ≤ dg
  nonneg : ∀ j : Fin 8, 0 ≤ mm j
  zero : ∀ j : Fin 8, i ≤ j.val → mm j = 0
  deg : degTo mm i + (lf : Int) = (dg : Int)
  small : ∀ j : Fin 8, mm j ≤ (dg : Int)
theorem degTo_upd (m : M) (i : Nat) (x : Int) : ∀ k, k ≤ i → degTo (upd m i x) k = degTo m k
  | 0, _ => rfl
  | k + 1, h => by
    simp only [degTo, degTo_upd m i x k (by omega)]
    split
    · simp only [upd]; rw [if_neg (by omega)]
    · rfl
theorem DrawM.step {dg : Nat} {mm : M} {i lf z : Nat} (h : DrawM dg mm i lf) (hi : i < 8) (hz : z ≤ lf) : DrawM dg (upd mm i (z : Int)) (i + 1) (lf - z) where
  le := by have := h.le; omega
  nonneg := fun j => by simp only [upd]; split; · omega
                        · exact h.nonneg j
  zero := fun j hj => by simp only [upd]; rw [if_neg (by omega)]; exact h.zero j (by omega)
  deg := by
    rw [← degTo_step _ hi, degTo_upd _ _ _ _ (Nat.le_refl _)]
    have := h.deg
    simp only [upd, if_true]
    omega
  small := fun j => by
    have := h.le
    simp only [upd]; split
    · omega
    · exact h.small j
theorem DrawM.done {dg t lf : Nat} {mm : M} (h : DrawM dg mm (t + 1) lf) (hn : t < 8) : upd mm t (mm ⟨t, hn⟩ + (lf : Int)) ∈ allM (t + 1) dg := by
  refine allM_mem (by omega) (fun j => ?_) (fun j hj => ?_) ?_
  · simp only [upd]; split
    · have := h.nonneg ⟨t, hn⟩; omega
    · exact h.nonneg j
  · simp only [upd]; rw [if_neg (by omega)]; exact h.zero j hj
  · have hd := h.deg
    rw [← degTo_step _ hn] at hd
    rw [← degTo_step _ hn, degTo_upd _ _ _ _ (Nat.le_refl _)]
    simp only [upd, if_true]
    omega
theorem chk_dec1 {n d x : Nat} (h : chkAt n d = true) (h0 : 0 < x) (hx : x < (allM n d).length) : 0 < cmpM ((allM n d)[x - 1]'(by omega)) (allM n d)[x] := by
  obtain ⟨t, rfl⟩ : ∃ t, x = t + 1 := ⟨x - 1, by omega⟩
  exact chk_dec h hx
theorem DrawM.mem {dg vr lf : Nat} {mm : M} (h : DrawM dg mm vr lf) (h8 : vr - 1 < 8) (h0 : 0 < vr) : upd mm (vr - 1) (mm ⟨vr - 1, h8⟩ + (lf : Int)) ∈ allM vr dg := by
  obtain ⟨t, rfl⟩ : ∃ t, vr = t + 1 := ⟨vr - 1, by omega⟩
  exact DrawM.done h (by omega)
theorem set_get (a : M) {k : Nat} (h : k < 8) (v : Value) : ((vecA a).setIfInBounds k v)[k]? = some v := Array.getElem?_setIfInBounds_self_of_lt h
theorem Y0.idxArrN {P : Program} {N : Nat} {fr : Fr} {S : Asrt} {dst : Option Nat} {ty : TypeId} {pos : String} {af : Array Edge} {g : Option (Nat × Bool)} {t e : TypeId} {x y : Operand} {len b off i : Nat} {k : IntKind} (ht : P.underlying t = some (.array len e)) (hsz : (P.info? e).map (·.size) = some 1)
    (hx : fr.ev x = some (.pointer (some ⟨b, off, none⟩))) (hy : fr.ev y = some (.int k (i : Int))) (hi : i < len) : Y0 P N ⟨dst, .indexAddr t x y, ty, pos, af, g⟩ fr S (.pointer (some ⟨b, off + i, none⟩)) :=
  (Y0.idxArr ht hsz hx hy (by omega)).eq (by simp)
end Go.EL
