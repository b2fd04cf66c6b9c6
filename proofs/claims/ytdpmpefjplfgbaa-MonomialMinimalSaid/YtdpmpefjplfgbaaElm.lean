/- Monomials as functions on eight indexes: their cells; plain facts. No condition. -/
import Derived.Test.YtdpmpefjplfgbaaElh
import Derived.ChangeKeysEq
import Derived.Laws.StructEq
namespace Go.EL
open Go Go.RowKit Go.Proofs

abbrev M := Fin 8 → Int
instance decM : DecidableEq M := fun a b => decidable_of_iff (∀ i, a i = b i) ⟨fun h => funext h, fun h i => by rw [h]⟩
def vecA (a : M) : Array Value := #[.int .i64 (a 0), .int .i64 (a 1), .int .i64 (a 2), .int .i64 (a 3), .int .i64 (a 4), .int .i64 (a 5), .int .i64 (a 6), .int .i64 (a 7)]
theorem vecA_get (a : M) {k : Nat} (h : k < 8) : (vecA a)[k]? = some (.int .i64 (a ⟨k, h⟩)) := by
  match k, h with
  | 0, _ => rfl | 1, _ => rfl | 2, _ => rfl | 3, _ => rfl | 4, _ => rfl | 5, _ => rfl | 6, _ => rfl | 7, _ => rfl
def upd (a : M) (k : Nat) (x : Int) : M := fun i => if i.val = k then x else a i
theorem vecA_set (a : M) {k : Nat} (h : k < 8) (x : Int) : (vecA a).setIfInBounds k (.int .i64 x) = vecA (upd a k x) := by
  match k, h with
  | 0, _ => rfl | 1, _ => rfl | 2, _ => rfl | 3, _ => rfl | 4, _ => rfl | 5, _ => rfl | 6, _ => rfl | 7, _ => rfl
/-- The first k entries by f, the rest by a. -/
def mixM (k : Nat) (f a : M) : M := fun i => if i.val < k then f i else a i
theorem mix_step {k : Nat} (f a : M) (h : k < 8) : upd (mixM k f a) k (f ⟨k, h⟩) = mixM (k + 1) f a := by
  funext i; unfold upd mixM
  by_cases e : i.val = k
  · have : i = ⟨k, h⟩ := Fin.ext e
    subst this; simp
  · have e1 : (i.val < k + 1) = (i.val < k) := by apply propext; omega
    simp [e, e1]
theorem mix_at {k : Nat} (f a : M) (h : k < 8) : mixM k f a ⟨k, h⟩ = a ⟨k, h⟩ := by unfold mixM; simp
theorem mix_zero (f a : M) : mixM 0 f a = a := by funext i; simp [mixM]
theorem mix_all {k : Nat} (f a : M) (h : ¬ k < 8) : mixM k f a = f := by
  funext i
  have : i.val < k := by omega
  simp [mixM, this]
theorem all_step {p : Fin 8 → Prop} {k : Nat} (hall : ∀ i : Fin 8, i.val < k → p i) (h : k < 8) (hk : p ⟨k, h⟩) : ∀ i : Fin 8, i.val < k + 1 → p i := fun i hi => by
  by_cases e : i.val = k
  · have : i = ⟨k, h⟩ := Fin.ext e
    rw [this]; exact hk
  · exact hall i (by omega)
theorem mix_get (f a : M) {k : Nat} (h : k < 8) : (vecA (mixM k f a))[k]? = some (.int .i64 (a ⟨k, h⟩)) := by rw [vecA_get _ h, mix_at]
theorem vecA_size (a : M) : (vecA a).size = 8 := rfl
theorem vec_step {k : Nat} (f a : M) (h : k < 8) : (vecA (mixM k f a)).setIfInBounds k (.int .i64 (f ⟨k, h⟩)) = vecA (mixM (k + 1) f a) := by rw [vecA_set _ h, mix_step]

/-- Descriptions of monomials: eight numbers of 16 bits. -/
def vecU (a : M) : Array Value := #[.int .u16 (a 0), .int .u16 (a 1), .int .u16 (a 2), .int .u16 (a 3), .int .u16 (a 4), .int .u16 (a 5), .int .u16 (a 6), .int .u16 (a 7)]
theorem vecU_get (a : M) {k : Nat} (h : k < 8) : (vecU a)[k]? = some (.int .u16 (a ⟨k, h⟩)) := by
  match k, h with
  | 0, _ => rfl | 1, _ => rfl | 2, _ => rfl | 3, _ => rfl | 4, _ => rfl | 5, _ => rfl | 6, _ => rfl | 7, _ => rfl
def mono3 (a b c : Int) : M := fun i => match i.val with | 0 => a | 1 => b | 2 => c | _ => 0
def zeroM : M := fun _ => 0
def addM (a b : M) : M := fun i => a i + b i
def subM (a b : M) : M := fun i => a i - b i
def maxM (a b : M) : M := fun i => if a i < b i then b i else a i
def minM (a b : M) : M := fun i => if b i < a i then b i else a i
/-- In the range of exponents. -/
def Ok (a : M) : Prop := ∀ i, 0 ≤ a i ∧ a i ≤ 65535
instance decOk (a : M) : Decidable (Ok a) := inferInstanceAs (Decidable (∀ i, 0 ≤ a i ∧ a i ≤ 65535))
def dvdM (a b : M) : Prop := ∀ i, a i ≤ b i
instance decDvd (a b : M) : Decidable (dvdM a b) := inferInstanceAs (Decidable (∀ i, a i ≤ b i))
/-- Small enough for sums. -/
def Sm (a : M) : Prop := ∀ i, -1000000000000 ≤ a i ∧ a i ≤ 1000000000000
theorem Ok.sm {a : M} (h : Ok a) : Sm a := fun i => by have := h i; omega
/-- The sum of the first k exponents. -/
def degTo (a : M) : Nat → Int
  | 0 => 0
  | k + 1 => degTo a k + (if h : k < 8 then a ⟨k, h⟩ else 0)
def degM (a : M) : Int := degTo a 8
theorem degTo_le {a : M} (h : Sm a) : ∀ k : Nat, k ≤ 8 → -1000000000000 * (k : Int) ≤ degTo a k ∧ degTo a k ≤ 1000000000000 * (k : Int)
  | 0, _ => by simp [degTo]
  | k + 1, hk => by
    have ih := degTo_le h k (by omega)
    have hl : k < 8 := by omega
    have := h ⟨k, hl⟩
    simp only [degTo, dif_pos hl]
    omega
theorem degTo_step (a : M) {k : Nat} (h : k < 8) : degTo a k + a ⟨k, h⟩ = degTo a (k + 1) := by simp [degTo, h]
/-- The lexicographic comparison from index k on (fuel n). -/
def cmpFrom (a b : M) : Nat → Nat → Int
  | 0, _ => 0
  | n + 1, k => if h : k < 8 then (if a ⟨k, h⟩ < b ⟨k, h⟩ then -1 else if b ⟨k, h⟩ < a ⟨k, h⟩ then 1 else cmpFrom a b n (k + 1)) else 0
def cmpM (a b : M) : Int := cmpFrom a b 8 0
theorem cmpFrom_eq (a b : M) : ∀ (k : Nat), k ≤ 8 → (∀ i : Fin 8, i.val < k → a i = b i) → cmpM a b = cmpFrom a b (8 - k) k
  | 0, _, _ => rfl
  | k + 1, hk, h => by
    rw [cmpFrom_eq a b k (by omega) (fun i hi => h i (by omega))]
    have hl : k < 8 := by omega
    have e := h ⟨k, hl⟩ (by simp)
    rw [show 8 - k = (8 - (k + 1)) + 1 by omega]
    simp [cmpFrom, hl, e]
theorem cmpM_lt (a b : M) {k : Nat} (hk : k < 8) (h : ∀ i : Fin 8, i.val < k → a i = b i) (hlt : a ⟨k, hk⟩ < b ⟨k, hk⟩) : cmpM a b = -1 := by
  rw [cmpFrom_eq a b k (by omega) h, show 8 - k = (7 - k) + 1 by omega]
  simp [cmpFrom, hk, hlt]
theorem cmpM_gt (a b : M) {k : Nat} (hk : k < 8) (h : ∀ i : Fin 8, i.val < k → a i = b i) (hlt : b ⟨k, hk⟩ < a ⟨k, hk⟩) : cmpM a b = 1 := by
  rw [cmpFrom_eq a b k (by omega) h, show 8 - k = (7 - k) + 1 by omega]
  have : ¬ a ⟨k, hk⟩ < b ⟨k, hk⟩ := by omega
  simp [cmpFrom, hk, hlt, this]
theorem cmpM_eq (a b : M) (h : ∀ i, a i = b i) : cmpM a b = 0 := by
  rw [cmpFrom_eq a b 8 (by omega) (fun i _ => h i)]
  rfl

/-- Powers of 2. -/
def p2 : Nat → Int
  | 0 => 1
  | k + 1 => 2 * p2 k
theorem p2_le : ∀ {k : Nat}, k ≤ 8 → 1 ≤ p2 k ∧ p2 k ≤ 256
  | 0, _ => by decide
  | 1, _ => by decide
  | 2, _ => by decide
  | 3, _ => by decide
  | 4, _ => by decide
  | 5, _ => by decide
  | 6, _ => by decide
  | 7, _ => by decide
  | 8, _ => by decide
  | k + 9, h => by omega
theorem p2_lt {k : Nat} (h : k < 8) : 1 ≤ p2 k ∧ p2 k ≤ 128 := by
  have := p2_le (k := k + 1) (by omega)
  simp only [p2] at this
  omega
theorem p2_shift {k : Nat} (h : k < 8) : IntKind.u8.wrap (1 * 2 ^ (min (k : Int).toNat IntKind.u8.bits)) = p2 k := by
  match k, h with
  | 0, _ => decide | 1, _ => decide | 2, _ => decide | 3, _ => decide | 4, _ => decide | 5, _ => decide | 6, _ => decide | 7, _ => decide
theorem p2_wrap {k : Nat} (h : k < 8) : IntKind.u8.wrap (p2 k) = p2 k := by
  match k, h with
  | 0, _ => decide | 1, _ => decide | 2, _ => decide | 3, _ => decide | 4, _ => decide | 5, _ => decide | 6, _ => decide | 7, _ => decide
/-- The variables below k that occur, as bits. -/
def suppTo (a : M) : Nat → Int
  | 0 => 0
  | k + 1 => suppTo a k + (if h : k < 8 then (if 0 < a ⟨k, h⟩ then p2 k else 0) else 0)
def suppM (a : M) : Int := suppTo a 8
theorem suppTo_lt (a : M) : ∀ k : Nat, 0 ≤ suppTo a k ∧ suppTo a k < p2 k
  | 0 => by simp [suppTo, p2]
  | k + 1 => by
    have ih := suppTo_lt a k
    simp only [suppTo, p2]
    split
    · split <;> omega
    · omega
theorem suppTo_yes (a : M) {k : Nat} (h : k < 8) (ha : 0 < a ⟨k, h⟩) : suppTo a k + p2 k = suppTo a (k + 1) := by simp [suppTo, h, ha]
theorem suppTo_no (a : M) {k : Nat} (h : k < 8) (ha : ¬ 0 < a ⟨k, h⟩) : suppTo a k = suppTo a (k + 1) := by simp [suppTo, h, ha]
theorem or_p2_nat : ∀ k : Fin 8, ∀ s : Fin 128, s.val < 2 ^ k.val → IntKind.u8.wrap (BitVec.ofInt IntKind.u8.bits (s.val : Int) ||| BitVec.ofInt IntKind.u8.bits (p2 k.val)).toNat = s.val + p2 k.val := by decide +kernel
theorem p2_nat : ∀ k : Nat, p2 k = ((2 ^ k : Nat) : Int)
  | 0 => rfl
  | k + 1 => by rw [p2, p2_nat k, Nat.pow_succ]; omega
theorem or_p2 {k : Nat} (h : k < 8) {s : Int} (h0 : 0 ≤ s) (h1 : s < p2 k) : IntKind.u8.wrap (BitVec.ofInt IntKind.u8.bits s ||| BitVec.ofInt IntKind.u8.bits (p2 k)).toNat = s + p2 k := by
  obtain ⟨n, rfl⟩ := Int.eq_ofNat_of_zero_le h0
  have h2 := p2_lt h
  rw [p2_nat] at h1
  exact or_p2_nat ⟨k, h⟩ ⟨n, by rw [p2_nat] at h2; omega⟩ (by simp; omega)
theorem add_p2 {k : Nat} (h : k < 8) {s : Int} (h0 : 0 ≤ s) (h1 : s < p2 k) : IntKind.u8.wrap (s + p2 k) = s + p2 k := by
  have h2 := p2_lt h
  simp only [IntKind.wrap, IntKind.bits, IntKind.signed, Bool.false_and, Bool.false_eq_true, if_false]
  omega

theorem ne_next {a b : M} (hab : ¬ a = b) {k : Nat} (hk : k < 8) (h : ∀ i : Fin 8, i.val < k → a i = b i) (e : a ⟨k, hk⟩ = b ⟨k, hk⟩) : k + 1 < 8 := by
  apply Classical.byContradiction
  intro hn
  exact hab (funext fun i => all_step (p := fun i => a i = b i) h hk e i (by omega))
theorem run_eqItems_vec {P : Program} {e : TypeId} (he : P.underlying e = some (.int .i64)) (hs : ScalT P e) (hc : P.cellsOf e = 1) (a b : M) (w : World) (d : Nat) : ∀ (is : List Nat), (∀ i, i ∈ is → i < 8) →
    (Op.eqItems (d + 1) e (P.cellsOf e) (vecA a) (vecA b) is).run P w = .ok (decide (∀ i : Fin 8, i.val ∈ is → a i = b i)) w
  | [], _ => by simp [Op.eqItems]
  | i :: is, h => by
    have hi : i < 8 := h i (by simp)
    have ih := run_eqItems_vec he hs hc a b w d is (fun j hj => h j (by simp [hj]))
    have p1 : (part e (vecA a) (i * P.cellsOf e)).run P w = .ok (.int .i64 (a ⟨i, hi⟩)) w := run_part_scal hs (by rw [hc, Nat.mul_one]; exact vecA_get a hi) w
    have p2 : (part e (vecA b) (i * P.cellsOf e)).run P w = .ok (.int .i64 (b ⟨i, hi⟩)) w := run_part_scal hs (by rw [hc, Nat.mul_one]; exact vecA_get b hi) w
    have p3 := run_equalIn_int (P := P) w d e .i64 .i64 (a ⟨i, hi⟩) (b ⟨i, hi⟩) he
    simp only [Op.eqItems, Sem.run_bind, p1, p2, p3, Result.andThen_ok]
    by_cases hab : a ⟨i, hi⟩ = b ⟨i, hi⟩
    · simp only [hab, beq_self_eq_true, Bool.not_true, Bool.false_eq_true, if_false, ih]
      congr 1
      apply decide_eq_decide.2
      constructor
      · intro hh j hj
        rcases List.mem_cons.1 hj with e | e
        · have : j = ⟨i, hi⟩ := Fin.ext e
          rw [this]; exact hab
        · exact hh j e
      · exact fun hh j hj => hh j (by simp [hj])
    · have hb : (a ⟨i, hi⟩ == b ⟨i, hi⟩) = false := by simpa using hab
      have hd : decide (∀ j : Fin 8, j.val ∈ i :: is → a j = b j) = false := decide_eq_false fun hh => hab (hh ⟨i, hi⟩ (by simp))
      rw [hd]
      simp [hb]

theorem run_equal_vec {P : Program} {t e : TypeId} (ht : P.underlying t = some (.array 8 e)) (he : P.underlying e = some (.int .i64)) (hs : ScalT P e) (hz : (P.info? e).map (·.size) = some 1) (a b : M) (w : World) :
    (Op.equal t (.agg (vecA a)) (.agg (vecA b))).run P w = .ok (decide (a = b)) w := by
  cases hi : P.info? e with
  | none => simp [hi] at hz
  | some i =>
    have hc : P.cellsOf e = 1 := by simp [Program.cellsOf, hz]
    have h1 := run_equalIn_array (P := P) w 9999 (vecA a) (vecA b) ht hi
    have h2 := run_eqItems_vec he hs hc a b w 9998 (List.range 8) (by simp)
    unfold Op.equal
    show (Op.equalIn (9999 + 1) t _ _).run P w = _
    rw [h1, h2]
    congr 1
    apply decide_eq_decide.2
    constructor
    · intro h; funext j; exact h j (by simp)
    · intro h j _; rw [h]

section
variable {P : Program} {N : Nat} {fr : Fr} {S : Asrt} {dst : Option Nat} {ty : TypeId} {pos : String} {af : Array Edge} {g : Option (Nat × Bool)}
theorem Y0.eqlM {t e yt : TypeId} {x y : Operand} {a b : M} (ht : P.underlying t = some (.array 8 e)) (he : P.underlying e = some (.int .i64)) (hs : ScalT P e) (hz : (P.info? e).map (·.size) = some 1) (hgd : P.eqGuardType P.depth t = false)
    (hx : fr.ev x = some (.agg (vecA a))) (hy : fr.ev y = some (.agg (vecA b))) : Y0 P N ⟨dst, .binOp .eql t x y yt, ty, pos, af, g⟩ fr S (.bool (decide (a = b))) :=
  Y0.bin hx hy (fun w => run_eqGuard_agg w _ _ _ _ _ _ hgd) fun w => by simp [binOp, run_equal_vec ht he hs hz]
theorem Y0.buildM0 {t : TypeId} (h : ∀ w, (Instr.build t #[]).run P w = .ok (.agg (vecA zeroM)) w) : Y0 P N ⟨dst, .build t #[], ty, pos, af, g⟩ fr S (.agg (vecA zeroM)) := fun a w _ _ => by
  simp [execOp, h w]
theorem Y0.neqM {t e yt : TypeId} {x y : Operand} {a b : M} (ht : P.underlying t = some (.array 8 e)) (he : P.underlying e = some (.int .i64)) (hs : ScalT P e) (hz : (P.info? e).map (·.size) = some 1) (hgd : P.eqGuardType P.depth t = false)
    (hx : fr.ev x = some (.agg (vecA a))) (hy : fr.ev y = some (.agg (vecA b))) : Y0 P N ⟨dst, .binOp .neq t x y yt, ty, pos, af, g⟩ fr S (.bool (decide (¬ a = b))) :=
  Y0.bin hx hy (fun w => run_eqGuard_agg w _ _ _ _ _ _ hgd) fun w => by
    simp [binOp, run_equal_vec ht he hs hz]
end
end Go.EL
