/- More rules: arrays, parts of slices, scopes. No condition. -/
import Derived.Test.YtbdknlblnfnkkaaElk
import Derived.Scope
import Derived.ChangeKeysEq
import Derived.Laws.StructEq
namespace Go.EL
open Go Go.RowKit Go.Proofs

theorem vecG_size {α : Type} (mk : α → Value) (n : Nat) (f : Fin n → α) : (vecG mk n f).toArray.size = n := by simp [vecG_length]
theorem bdec (b : Bool) : b = decide (b = true) := by cases b <;> rfl
section
variable {P : Program} {N : Nat} {Q : Post} {fr : Fr} {S : Asrt} {ops : Array Oper} {l : List Oper} {dst : Option Nat} {ty : TypeId} {pos : String} {af : Array Edge} {g : Option (Nat × Bool)}
variable {w0 : Bs} {G0 G : Mem} {L : Lo} {α : Type} {r : Rp α}

theorem Y0.idxA {t e : TypeId} {x y : Operand} {len b off : Nat} {k : IntKind} {i : Int} (ht : P.underlying t = some (.array len e)) (hsz : (P.info? e).map (·.size) = some 1)
    (hx : fr.ev x = some (.pointer (some ⟨b, off, none⟩))) (hy : fr.ev y = some (.int k i)) (hi : 0 ≤ i ∧ i < len) : Y0 P N ⟨dst, .indexAddr t x y, ty, pos, af, g⟩ fr S (.pointer (some ⟨b, off + i.toNat, none⟩)) :=
  (Y0.idxArr ht hsz hx hy hi).eq (by simp)
theorem Y0.idxA0 {t e : TypeId} {x y : Operand} {len b : Nat} {k : IntKind} {i : Int} (ht : P.underlying t = some (.array len e)) (hsz : (P.info? e).map (·.size) = some 1)
    (hx : fr.ev x = some (.pointer (some ⟨b, 0, none⟩))) (hy : fr.ev y = some (.int k i)) (hi : 0 ≤ i ∧ i < len) : Y0 P N ⟨dst, .indexAddr t x y, ty, pos, af, g⟩ fr S (.pointer (some ⟨b, i.toNat, none⟩)) :=
  (Y0.idxArr ht hsz hx hy hi).eq (by simp)
theorem Y0.fieldA {s : TypeId} {x : Operand} {f n : Nat} {fs : Array Field} {fd : Field} {cs c : Array Value} (hs : P.underlying s = some (.struct fs)) (hf : fs[f]? = some fd) (he : AggT P fd.type n)
    (hx : fr.ev x = some (.agg cs)) (hv : cs.extract fd.offset (fd.offset + n) = c) : Y0 P N ⟨dst, .field s x f, ty, pos, af, g⟩ fr S (.agg c) := fun a w ha _ => by
  subst hv
  simp [execOp, ha.ev hx, Instr.field, run_underlying hs, hf, asAgg, run_part_agg he]
theorem Y0.lenS {x : Operand} {t : TypeId} {s : ByteArray} (ht : P.underlying t = some .string) (hx : fr.ev x = some (.string s)) : Y0 P N ⟨dst, .call ⟨.builtin .len, #[x], #[t]⟩, ty, pos, af, g⟩ fr S (.int .i64 (s.size : Int)) := fun a w ha _ => by
  simp [execOp, resolve, invoke, builtin, ha.ev hx, Builtin.len_, run_underlying ht, goInt]

theorem run_eqItems_vec {e : TypeId} {k : IntKind} (he : P.underlying e = some (.int k)) (hs : ScalT P e) (hc : P.cellsOf e = 1) {n : Nat} (a b : Fin n → Int) (w : World) (d : Nat) : ∀ (is : List Nat), (∀ i, i ∈ is → i < n) →
    (Op.eqItems (d + 1) e (P.cellsOf e) (vecL k n a).toArray (vecL k n b).toArray is).run P w = .ok (decide (∀ i : Fin n, i.val ∈ is → a i = b i)) w
  | [], _ => by simp [Op.eqItems]
  | i :: is, h => by
    have hi : i < n := h i (by simp)
    have ih := run_eqItems_vec he hs hc a b w d is (fun j hj => h j (by simp [hj]))
    have p1 : (part e (vecL k n a).toArray (i * P.cellsOf e)).run P w = .ok (.int k (a ⟨i, hi⟩)) w := run_part_scal hs (by rw [hc, Nat.mul_one, List.getElem?_toArray]; exact vecG_get _ n a hi) w
    have p2 : (part e (vecL k n b).toArray (i * P.cellsOf e)).run P w = .ok (.int k (b ⟨i, hi⟩)) w := run_part_scal hs (by rw [hc, Nat.mul_one, List.getElem?_toArray]; exact vecG_get _ n b hi) w
    have p3 := run_equalIn_int (P := P) w d e k k (a ⟨i, hi⟩) (b ⟨i, hi⟩) he
    simp only [Op.eqItems, Sem.run_bind, p1, p2, p3, Result.andThen_ok]
    by_cases hab : a ⟨i, hi⟩ = b ⟨i, hi⟩
    · simp only [hab, beq_self_eq_true, Bool.not_true, Bool.false_eq_true, if_false, ih]
      congr 1
      apply decide_eq_decide.2
      constructor
      · intro hh j hj
        rcases List.mem_cons.1 hj with e | e
        · have : j = ⟨i, hi⟩ := Fin.ext e
          rw [this]; exact hab
        · exact hh j e
      · exact fun hh j hj => hh j (by simp [hj])
    · have hb : (a ⟨i, hi⟩ == b ⟨i, hi⟩) = false := by simpa using hab
      have hd : decide (∀ j : Fin n, j.val ∈ i :: is → a j = b j) = false := decide_eq_false fun hh => hab (hh ⟨i, hi⟩ (by simp))
      rw [hd]
      simp [hb]
instance decF {n : Nat} : DecidableEq (Fin n → Int) := fun a b => decidable_of_iff (∀ i, a i = b i) ⟨fun h => funext h, fun h i => by rw [h]⟩
theorem run_equal_vec {t e : TypeId} {k : IntKind} {n : Nat} (ht : P.underlying t = some (.array n e)) (he : P.underlying e = some (.int k)) (hs : ScalT P e) (hz : (P.info? e).map (·.size) = some 1) (a b : Fin n → Int) (w : World) :
    (Op.equal t (.agg (vecL k n a).toArray) (.agg (vecL k n b).toArray)).run P w = .ok (decide (a = b)) w := by
  cases hi : P.info? e with
  | none => simp [hi] at hz
  | some i =>
    have hc : P.cellsOf e = 1 := by simp [Program.cellsOf, hz]
    have h1 := run_equalIn_array (P := P) w 9999 (vecL k n a).toArray (vecL k n b).toArray ht hi
    have h2 := run_eqItems_vec he hs hc a b w 9998 (List.range n) (by simp)
    unfold Op.equal
    show (Op.equalIn (9999 + 1) t _ _).run P w = _
    rw [h1, h2]
    congr 1
    apply decide_eq_decide.2
    constructor
    · intro h; funext j; exact h j (by simp)
    · intro h j _; rw [h]
theorem Y0.eqlV {t e yt : TypeId} {x y : Operand} {k : IntKind} {n : Nat} {a b : Fin n → Int} (ht : P.underlying t = some (.array n e)) (he : P.underlying e = some (.int k)) (hs : ScalT P e) (hz : (P.info? e).map (·.size) = some 1) (hgd : P.eqGuardType P.depth t = false)
    (hx : fr.ev x = some (.agg (vecL k n a).toArray)) (hy : fr.ev y = some (.agg (vecL k n b).toArray)) : Y0 P N ⟨dst, .binOp .eql t x y yt, ty, pos, af, g⟩ fr S (.bool (decide (a = b))) :=
  Y0.bin hx hy (fun w => run_eqGuard_agg w _ _ _ _ _ _ hgd) fun w => by simp [binOp, run_equal_vec ht he hs hz]
theorem Y0.neqV {t e yt : TypeId} {x y : Operand} {k : IntKind} {n : Nat} {a b : Fin n → Int} (ht : P.underlying t = some (.array n e)) (he : P.underlying e = some (.int k)) (hs : ScalT P e) (hz : (P.info? e).map (·.size) = some 1) (hgd : P.eqGuardType P.depth t = false)
    (hx : fr.ev x = some (.agg (vecL k n a).toArray)) (hy : fr.ev y = some (.agg (vecL k n b).toArray)) : Y0 P N ⟨dst, .binOp .neq t x y yt, ty, pos, af, g⟩ fr S (.bool (decide (¬ a = b))) :=
  Y0.bin hx hy (fun w => run_eqGuard_agg w _ _ _ _ _ _ hgd) fun w => by simp [binOp, run_equal_vec ht he hs hz]

theorem run_eqNil {t e : TypeId} {p : Option Addr} {n c : Nat} (ht : P.underlying t = some (.slice e)) (w : World) : (Op.equal t (.slice p n c) (.slice none 0 0)).run P w = .ok (decide (p = none)) w := by
  have h : ∀ d, (Op.equalIn (d + 1) t (.slice p n c) (.slice none 0 0)).run P w = .ok (decide (p = none)) w := fun d => by
    cases p <;> simp [Op.equalIn, run_underlying ht]
  exact h 9999
theorem Y0.eqlNil {t e yt : TypeId} {x y : Operand} {p : Option Addr} {n c : Nat} (ht : P.underlying t = some (.slice e)) (hx : fr.ev x = some (.slice p n c)) (hy : fr.ev y = some (.slice none 0 0)) : Y0 P N ⟨dst, .binOp .eql t x y yt, ty, pos, af, g⟩ fr S (.bool (decide (p = none))) :=
  Y0.bin hx hy (fun w => by simp [eqGuard]) fun w => by simp [binOp, run_eqNil ht]
theorem Y0.neqNil {t e yt : TypeId} {x y : Operand} {p : Option Addr} {n c : Nat} (ht : P.underlying t = some (.slice e)) (hx : fr.ev x = some (.slice p n c)) (hy : fr.ev y = some (.slice none 0 0)) : Y0 P N ⟨dst, .binOp .neq t x y yt, ty, pos, af, g⟩ fr S (.bool (decide (¬ p = none))) :=
  Y0.bin hx hy (fun w => by simp [eqGuard]) fun w => by simp [binOp, run_eqNil ht]
theorem SlR.nil_of {p : Option Addr} {n c : Nat} {xs : List α} (h : SlR r G (.slice p n c) xs) (hp : p = none) : xs = [] := by
  obtain ⟨p', cap, cs, h1, _, _, h3, _⟩ := h
  cases h1
  subst hp
  rcases Nat.eq_zero_or_pos xs.length with h | h
  · exact List.eq_nil_of_length_eq_zero h
  · have := h3 h; cases this

/-! ### Parts of slices -/
theorem run_sliceR {t e : TypeId} {n cap sz : Nat} {p : Option Addr} {xs : List α} (ht : P.underlying t = some (.slice e)) (hsz : (P.info? e).map (·.size) = some sz) (hsr : sz = r.size) (h : SlR r G (.slice p n cap) xs) {low high : Option Value} {lo hi : Int}
    (hlo : low = none ∧ lo = 0 ∨ ∃ k, low = some (.int k lo)) (hhi : high = none ∧ hi = (xs.length : Int) ∨ ∃ k, high = some (.int k hi)) (hb : 0 ≤ lo ∧ lo ≤ hi ∧ hi ≤ (xs.length : Int)) (w : World) :
    ∃ v, (Instr.slice t (.slice p n cap) low high none).run P w = .ok v w ∧ SlR r G v ((xs.take hi.toNat).drop lo.toNat) := by
  have hn : n = xs.length := by obtain ⟨p', cap', cs, h1, _⟩ := h; cases h1; rfl
  have hcap : n ≤ cap ∧ cap ≤ 9223372036854775807 := by obtain ⟨p', cap', cs, h1, h2, _⟩ := h; cases h1; exact h2
  have hspot : ∀ a, p = some a → a.spot = none := by obtain ⟨p', cap', cs, h1, _, h2, _⟩ := h; cases h1; exact h2
  have hbs : (Instr.sliceBounds true n cap low high none).run P w = .ok (lo.toNat, hi.toNat, cap) w := by
    rcases hlo with ⟨rfl, rfl⟩ | ⟨k, rfl⟩ <;> rcases hhi with ⟨rfl, rfl⟩ | ⟨k', rfl⟩
    · simp [Instr.sliceBounds, hn]
    · have h1 : 0 ≤ hi ∧ hi ≤ (cap : Int) := by omega
      simp [Instr.sliceBounds, Instr.sliceBound, asIntOf, h1]
    · have h1 : 0 ≤ lo ∧ lo ≤ (n : Int) := by omega
      simp [Instr.sliceBounds, Instr.sliceBound, asIntOf, h1, hn]
      intro h; omega
    · have h1 : 0 ≤ hi ∧ hi ≤ (cap : Int) := by omega
      have h2 : 0 ≤ lo ∧ lo ≤ ((hi.toNat : Nat) : Int) := by omega
      simp [Instr.sliceBounds, Instr.sliceBound, asIntOf, h1, h2]
      intro h; omega
  refine ⟨.slice (if cap = lo.toNat then p else p.map (·.add (lo.toNat * sz))) (hi.toNat - lo.toNat) (cap - lo.toNat), ?_, ?_⟩
  · simp [Instr.slice, run_underlying ht, hbs, run_sizeOf hsz]
  · refine h.take (by omega) (by omega) ?_ (by omega)
    by_cases hc : cap = lo.toNat
    · right
      rw [if_pos hc]
      exact ⟨by omega, rfl⟩
    · left
      rw [if_neg hc]
      cases p with
      | none => rfl
      | some a =>
        obtain ⟨ab, ao, ap⟩ := a
        have := hspot _ rfl
        dsimp only at this
        subst this
        simp only [Option.map_some, add_none, hsr]
theorem WL.sliceQ {t e : TypeId} {x : Operand} {lowo higho : Option Operand} {low high : Option Value} {n cap sz : Nat} {p : Option Addr} {xs : List α} {lo hi : Int} (hg : guardOK ops fr ⟨dst, .slice t x lowo higho none, ty, pos, af, g⟩ true) (hd : dstOK N dst)
    (ht : P.underlying t = some (.slice e)) (hsz : (P.info? e).map (·.size) = some sz) (hsr : sz = r.size) (h : SlR r G (.slice p n cap) xs) (hx : fr.ev x = some (.slice p n cap))
    (hl : ∀ a, Rel N fr a → lowo.map a.eval = low) (hh : ∀ a, Rel N fr a → higho.map a.eval = high)
    (hlo : low = none ∧ lo = 0 ∨ ∃ k, low = some (.int k lo)) (hhi : high = none ∧ hi = (xs.length : Int) ∨ ∃ k, high = some (.int k hi)) (hb : 0 ≤ lo ∧ lo ≤ hi ∧ hi ≤ (xs.length : Int))
    (k : ∀ p' cap', SlR r G (.slice p' ((xs.take hi.toNat).drop lo.toNat).length cap') ((xs.take hi.toNat).drop lo.toNat) → WL P N ops Q l (putFr dst (.slice p' ((xs.take hi.toNat).drop lo.toNat).length cap') fr) (St w0 G0 G L)) :
    WL P N ops Q (⟨dst, .slice t x lowo higho none, ty, pos, af, g⟩ :: l) fr (St w0 G0 G L) := by
  refine WL.yr (Φ := fun v w => SlR r G v ((xs.take hi.toNat).drop lo.toNat) ∧ St w0 G0 G L w) hg (fun a w ha hs => ?_) hd (fun v a w ha ⟨h1, h2⟩ => ?_)
  · obtain ⟨v, hr, hv⟩ := run_sliceR ht hsz hsr h hlo hhi hb w
    have : (execOp a.eval ⟨dst, .slice t x lowo higho none, ty, pos, af, g⟩).run P w = .ok (.value v) w := by
      have h1 := hl a ha
      have h2 := hh a ha
      simp only [execOp, ha.ev hx, h1, h2, Option.map_none]
      simp [Instr.sliceAt, run_underlying ht, hr]
    rw [this]
    exact ⟨hv, hs⟩
  · obtain ⟨p', cap', rfl⟩ := h1.form
    exact k p' cap' h1 a w ha h2
theorem WL.sliceR {t e : TypeId} {x : Operand} {n cap sz : Nat} {p : Option Addr} {xs : List α} (hg : guardOK ops fr ⟨dst, .slice t x none none none, ty, pos, af, g⟩ true) (hd : dstOK N dst)
    (ht : P.underlying t = some (.slice e)) (hsz : (P.info? e).map (·.size) = some sz) (hsr : sz = r.size) (h : SlR r G (.slice p n cap) xs) (hx : fr.ev x = some (.slice p n cap)) (hb : 0 ≤ (0 : Int) ∧ (0 : Int) ≤ (xs.length : Int) ∧ (xs.length : Int) ≤ (xs.length : Int))
    (k : ∀ p' cap', SlR r G (.slice p' ((xs.take (xs.length : Int).toNat).drop (0 : Int).toNat).length cap') ((xs.take (xs.length : Int).toNat).drop (0 : Int).toNat) → WL P N ops Q l (putFr dst (.slice p' ((xs.take (xs.length : Int).toNat).drop (0 : Int).toNat).length cap') fr) (St w0 G0 G L)) :
    WL P N ops Q (⟨dst, .slice t x none none none, ty, pos, af, g⟩ :: l) fr (St w0 G0 G L) :=
  WL.sliceQ (low := none) (high := none) hg hd ht hsz hsr h hx (fun a ha => rfl) (fun a ha => rfl) (.inl ⟨rfl, rfl⟩) (.inl ⟨rfl, rfl⟩) hb k
theorem WL.sliceRL {t e : TypeId} {x x1 : Operand} {k1 : IntKind} {n cap sz : Nat} {p : Option Addr} {xs : List α} {lo : Int} (hg : guardOK ops fr ⟨dst, .slice t x (some x1) none none, ty, pos, af, g⟩ true) (hd : dstOK N dst)
    (ht : P.underlying t = some (.slice e)) (hsz : (P.info? e).map (·.size) = some sz) (hsr : sz = r.size) (h : SlR r G (.slice p n cap) xs) (hx : fr.ev x = some (.slice p n cap)) (h1 : fr.ev x1 = some (.int k1 lo)) (hb : 0 ≤ lo ∧ lo ≤ (xs.length : Int) ∧ (xs.length : Int) ≤ (xs.length : Int))
    (k : ∀ p' cap', SlR r G (.slice p' ((xs.take (xs.length : Int).toNat).drop lo.toNat).length cap') ((xs.take (xs.length : Int).toNat).drop lo.toNat) → WL P N ops Q l (putFr dst (.slice p' ((xs.take (xs.length : Int).toNat).drop lo.toNat).length cap') fr) (St w0 G0 G L)) :
    WL P N ops Q (⟨dst, .slice t x (some x1) none none, ty, pos, af, g⟩ :: l) fr (St w0 G0 G L) :=
  WL.sliceQ (low := some (.int k1 lo)) (high := none) hg hd ht hsz hsr h hx (fun a ha => by simp [ha.ev h1]) (fun a ha => rfl) (.inr ⟨_, rfl⟩) (.inl ⟨rfl, rfl⟩) hb k
theorem WL.sliceRH {t e : TypeId} {x x2 : Operand} {k2 : IntKind} {n cap sz : Nat} {p : Option Addr} {xs : List α} {hi : Int} (hg : guardOK ops fr ⟨dst, .slice t x none (some x2) none, ty, pos, af, g⟩ true) (hd : dstOK N dst)
    (ht : P.underlying t = some (.slice e)) (hsz : (P.info? e).map (·.size) = some sz) (hsr : sz = r.size) (h : SlR r G (.slice p n cap) xs) (hx : fr.ev x = some (.slice p n cap)) (h2 : fr.ev x2 = some (.int k2 hi)) (hb : 0 ≤ (0 : Int) ∧ (0 : Int) ≤ hi ∧ hi ≤ (xs.length : Int))
    (k : ∀ p' cap', SlR r G (.slice p' ((xs.take hi.toNat).drop (0 : Int).toNat).length cap') ((xs.take hi.toNat).drop (0 : Int).toNat) → WL P N ops Q l (putFr dst (.slice p' ((xs.take hi.toNat).drop (0 : Int).toNat).length cap') fr) (St w0 G0 G L)) :
    WL P N ops Q (⟨dst, .slice t x none (some x2) none, ty, pos, af, g⟩ :: l) fr (St w0 G0 G L) :=
  WL.sliceQ (low := none) (high := some (.int k2 hi)) hg hd ht hsz hsr h hx (fun a ha => rfl) (fun a ha => by simp [ha.ev h2]) (.inl ⟨rfl, rfl⟩) (.inr ⟨_, rfl⟩) hb k
theorem WL.sliceRLH {t e : TypeId} {x x1 x2 : Operand} {k1 : IntKind} {k2 : IntKind} {n cap sz : Nat} {p : Option Addr} {xs : List α} {lo : Int} {hi : Int} (hg : guardOK ops fr ⟨dst, .slice t x (some x1) (some x2) none, ty, pos, af, g⟩ true) (hd : dstOK N dst)
    (ht : P.underlying t = some (.slice e)) (hsz : (P.info? e).map (·.size) = some sz) (hsr : sz = r.size) (h : SlR r G (.slice p n cap) xs) (hx : fr.ev x = some (.slice p n cap)) (h1 : fr.ev x1 = some (.int k1 lo)) (h2 : fr.ev x2 = some (.int k2 hi)) (hb : 0 ≤ lo ∧ lo ≤ hi ∧ hi ≤ (xs.length : Int))
    (k : ∀ p' cap', SlR r G (.slice p' ((xs.take hi.toNat).drop lo.toNat).length cap') ((xs.take hi.toNat).drop lo.toNat) → WL P N ops Q l (putFr dst (.slice p' ((xs.take hi.toNat).drop lo.toNat).length cap') fr) (St w0 G0 G L)) :
    WL P N ops Q (⟨dst, .slice t x (some x1) (some x2) none, ty, pos, af, g⟩ :: l) fr (St w0 G0 G L) :=
  WL.sliceQ (low := some (.int k1 lo)) (high := some (.int k2 hi)) hg hd ht hsz hsr h hx (fun a ha => by simp [ha.ev h1]) (fun a ha => by simp [ha.ev h2]) (.inr ⟨_, rfl⟩) (.inr ⟨_, rfl⟩) hb k
end

section
variable {P : Program} {N : Nat} {Q : Post} {fr : Fr} {S : Asrt}
theorem WC.label {i : Nat} (h : WE N Q .normal fr S) : WC P N (.label i) Q fr S := fun a w ha hs => wp_label (h a w ha hs)
theorem WC.scope {c : Code} (h : WC P N c (Exit.noGoto Q) fr S) : WC P N (.scope c) Q fr S := fun a w ha hs => wp_scope_straight (h a w ha hs)
theorem WE.scopeN (h : WE N Q .normal fr S) : WE N (Exit.noGoto Q) .normal fr S := fun a w ha hs => by simpa [Exit.noGoto] using h a w ha hs
theorem WE.scopeRet (h : WE N Q .ret fr S) : WE N (Exit.noGoto Q) .ret fr S := fun a w ha hs => by simpa [Exit.noGoto] using h a w ha hs
theorem WE.scopeExit {id : Nat} (h : WE N Q (.exit id) fr S) : WE N (Exit.noGoto Q) (.exit id) fr S := fun a w ha hs => by simpa [Exit.noGoto] using h a w ha hs
end
end Go.EL
